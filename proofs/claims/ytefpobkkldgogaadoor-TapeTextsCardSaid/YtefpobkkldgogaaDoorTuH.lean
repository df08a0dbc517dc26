/- The program's line of a step. -/
import Derived.Test.YtefpobkkldgogaaDoorTuF
import Derived.Test.YtefpobkkldgogaaDoorTuG
import Derived.Deep.RegionHeld3
namespace Go.Proofs.YtefpobkkldgogaaDoor
open Go.RowKit Go.Lib

theorem Itoa_calls' (n : Int) (h0 : -9223372036854775808 ≤ n) (h1 : n ≤ 9223372036854775807) (w : World) (hw : GW w) :
    Calls Tryd.prog 33 #[.int .i64 n] w fun e w' => e = .returned (.string (strOf (Lib.itoa n))) ∧ Below w.heap.size w w' := by
  refine (Tryd.strconv_Itoa n h0 h1 w hw.tab).mono ?_
  rintro e w' ⟨rfl, k, os, rfl⟩
  exact ⟨rfl, (drewN_below w k).trans (grow_below (w.drewN k) os)⟩
/-- what a region keeps: three cells of block b, and the library's variables -/
def GWB (w : World) (b : Nat) (W : World) : Prop := GW W ∧ Below w.heap.size w W ∧ b < W.heap.size
theorem GWB.below {w W W' : World} {b : Nat} (h : GWB w b W) (hb : Below W.heap.size W W') : GWB w b W' := ⟨h.1.below hb, h.2.1.trans (hb.mono h.2.1.size), Nat.lt_of_lt_of_le h.2.2 hb.size⟩
theorem join4 (a b c d : List UInt8) : Lib.join [a, b, c, d] [32] = a ++ 32 :: (b ++ 32 :: (c ++ 32 :: d)) := by simp [Lib.join, List.intercalate]
theorem Join4_calls (a b c d : List UInt8) (W : World) (h : a.length + b.length + c.length + d.length ≤ 1000000) :
    Calls Tryd.prog 34 #[.slice (some ⟨W.heap.size, 0, none⟩) 4 4, .string ⟨#[32]⟩] (W.alloc (.cells #[.string (strOf a), .string (strOf b), .string (strOf c), .string (strOf d)] 9)) fun e w' =>
      e = .returned (.string (strOf (a ++ 32 :: (b ++ 32 :: (c ++ 32 :: d))))) ∧ Below W.heap.size W w' := by
  have hj : (Lib.join ([strOf a, strOf b, strOf c, strOf d].map (·.data.toList)) (⟨#[32]⟩ : ByteArray).data.toList) = a ++ 32 :: (b ++ 32 :: (c ++ 32 :: d)) := join4 a b c d
  refine (Tryd.strings_Join W.heap.size 0 4 [strOf a, strOf b, strOf c, strOf d] ⟨#[32]⟩ (W.alloc (.cells #[.string (strOf a), .string (strOf b), .string (strOf c), .string (strOf d)] 9)) (fun j x hx => ?_) (by simp) (by simp) (by simp) (by rw [hj]; simp; omega)).mono ?_
  · rw [Nat.zero_add, (Blk.new W 9 _).cell j]
    match j, hx with
    | 0, hx => simp at hx; subst hx; rfl
    | 1, hx => simp at hx; subst hx; rfl
    | 2, hx => simp at hx; subst hx; rfl
    | 3, hx => simp at hx; subst hx; rfl
    | j + 4, hx => simp at hx
  · rintro e w' ⟨rfl, hb⟩
    rw [hj]
    exact ⟨rfl, ((Below.refl _ W).alloc (Nat.le_refl _) _).trans (hb.mono (by simp))⟩
set_option maxRecDepth 100000 in
set_option maxHeartbeats 2000000 in
theorem Line_key (st : Stp) (u : Value) (w : World) (hw : GW w) (hu : BV w.heap.size w u st.bytes) (hr : inR st) (hk : st.kind = 75) :
    Calls Tryd.prog 17 #[.agg (stc st u)] w (LineTRet (lineT st) w) := by
  obtain ⟨ua, uc, rfl, _, _⟩ := hu
  obtain ⟨kd, by_, k1, k2, k3⟩ := st
  have HL := Lib.hid (lineT_key (st := ⟨kd, by_, k1, k2, k3⟩) hk)
  simp only [stc]
  simp only at hk
  obtain ⟨n, hn⟩ : ∃ n, by_.length = n := ⟨_, rfl⟩
  rw [hn]
  have t1 : ((kd.toNat : Int) == 72) = false := (u8_test kd 72).trans (by simp [hk])
  have t2 : ((kd.toNat : Int) == 79) = false := (u8_test kd 79).trans (by simp [hk])
  have t3 : ((kd.toNat : Int) == 75) = true := (u8_test kd 75).trans (by simp [hk])
  obtain ⟨⟨r1, r2⟩, ⟨r3, r4⟩, ⟨r5, r6⟩⟩ := hr
  simp only at r1 r2 r3 r4 r5 r6
  obtain ⟨W0, hW0⟩ : ∃ W0, w.alloc (.cells #[.int .u8 (kd.toNat : Int), .slice ua n uc, .int .i64 k1, .int .i32 k2, .int .i64 k3] 37) = W0 := ⟨_, rfl⟩
  have hb0 : Below w.heap.size w W0 := by rw [← hW0]; exact (Below.refl _ w).alloc (Nat.le_refl _) _
  have hx0 := Blk.new w 37 #[.int .u8 (kd.toNat : Int), .slice ua n uc, .int .i64 k1, .int .i32 k2, .int .i64 k3]
  rw [hW0] at hx0
  have HW0 := Lib.hid hW0
  have z0 := hx0.cell 0
  have HI := Lib.hid (fun (v : Int) (a1 : -9223372036854775808 ≤ v) (a2 : v ≤ 9223372036854775807) (W : World) (hS : W.cell? ⟨w.heap.size, 2, none⟩ = some (.int .i64 k1) ∧ W.cell? ⟨w.heap.size, 3, none⟩ = some (.int .i32 k2) ∧ W.cell? ⟨w.heap.size, 4, none⟩ = some (.int .i64 k3) ∧ GWB w w.heap.size W) =>
    (show Calls Tryd.prog 33 #[.int .i64 v] W fun e W' => e = .returned (.string (strOf (Lib.itoa v))) ∧ (W'.cell? ⟨w.heap.size, 2, none⟩ = some (.int .i64 k1) ∧ W'.cell? ⟨w.heap.size, 3, none⟩ = some (.int .i32 k2) ∧ W'.cell? ⟨w.heap.size, 4, none⟩ = some (.int .i64 k3) ∧ GWB w w.heap.size W') from by
      refine (Itoa_calls' v a1 a2 W hS.2.2.2.1).mono ?_
      rintro e W' ⟨rfl, hb⟩
      have hlt := hS.2.2.2.2.2
      exact ⟨rfl, (hb.cell (p := ⟨w.heap.size, 2, none⟩) hlt).trans hS.1, (hb.cell (p := ⟨w.heap.size, 3, none⟩) hlt).trans hS.2.1, (hb.cell (p := ⟨w.heap.size, 4, none⟩) hlt).trans hS.2.2.1, hS.2.2.2.below hb⟩))
  have H1 := Lib.hid (HI.out k1 r1 r2)
  have H2 := Lib.hid (HI.out k2 (by omega) (by omega))
  have H3 := Lib.hid (HI.out k3 r5 r6)
  have HKA : Hid (∀ (W : World) (o : Obj), (W.cell? ⟨w.heap.size, 2, none⟩ = some (.int .i64 k1) ∧ W.cell? ⟨w.heap.size, 3, none⟩ = some (.int .i32 k2) ∧ W.cell? ⟨w.heap.size, 4, none⟩ = some (.int .i64 k3) ∧ GWB w w.heap.size W) → ((W.alloc o).cell? ⟨w.heap.size, 2, none⟩ = some (.int .i64 k1) ∧ (W.alloc o).cell? ⟨w.heap.size, 3, none⟩ = some (.int .i32 k2) ∧ (W.alloc o).cell? ⟨w.heap.size, 4, none⟩ = some (.int .i64 k3) ∧ GWB w w.heap.size (W.alloc o))) := Lib.hid (fun W o hS => by
    have hb : Below W.heap.size W (W.alloc o) := (Below.refl _ W).alloc (Nat.le_refl _) o
    have hlt := hS.2.2.2.2.2
    exact ⟨(hb.cell (p := ⟨w.heap.size, 2, none⟩) hlt).trans hS.1, (hb.cell (p := ⟨w.heap.size, 3, none⟩) hlt).trans hS.2.1, (hb.cell (p := ⟨w.heap.size, 4, none⟩) hlt).trans hS.2.2.1, hS.2.2.2.below hb⟩)
  have hS0 : W0.drew.cell? ⟨w.heap.size, 2, none⟩ = some (.int .i64 k1) ∧ W0.drew.cell? ⟨w.heap.size, 3, none⟩ = some (.int .i32 k2) ∧ W0.drew.cell? ⟨w.heap.size, 4, none⟩ = some (.int .i64 k3) ∧ GWB w w.heap.size W0.drew :=
    ⟨hx0.cell 2, hx0.cell 3, hx0.cell 4, (hw.below hb0).below (drewN_below W0 1), hb0.drew, hx0.lt⟩
  have l1 := itoa_len (v := k1) ⟨r1, r2⟩
  have l2 := itoa_len (v := k2) ⟨by omega, by omega⟩
  have l3 := itoa_len (v := k3) ⟨r5, r6⟩
  have HLEN := Lib.hid (And.intro l1 (And.intro l2 l3))
  have ew : IntKind.i64.wrap k2 = k2 := IntWalk.i64_in _ (by omega)
  clear hk hn hx0 l1 l2 l3 HI hw hb0 hW0
  go_enter Tryd.func17, Tryd.ntmps17
  go_wp2_with fail
  rw [HW0.out]
  go_region_held3 (fun W => W.cell? ⟨w.heap.size, 2, none⟩ = some (.int .i64 k1) ∧ W.cell? ⟨w.heap.size, 3, none⟩ = some (.int .i32 k2) ∧ W.cell? ⟨w.heap.size, 4, none⟩ = some (.int .i64 k3) ∧ GWB w w.heap.size W) (first | assumption | exact HKA.out _ _ (by assumption))
    (first
      | (go_at_call_of 33 (Value.int .i64 k1); refine (H1.out _ (by assumption)).mono ?_; rintro e w8 ⟨rfl, hS8⟩)
      | (go_at_call_of 33 (Value.int .i64 k2); refine (H2.out _ (by assumption)).mono ?_; rintro e w8 ⟨rfl, hS8⟩)
      | (go_at_call_of 33 (Value.int .i64 k3); refine (H3.out _ (by assumption)).mono ?_; rintro e w8 ⟨rfl, hS8⟩))
  all_goals
    go_wp2_with fail
    refine (Join4_calls [75] (itoa k1) (itoa k2) (itoa k3) w8 (by have := HLEN.out; simp; omega)).mono ?_
    rintro e w9 ⟨rfl, hb9⟩
    have HB9 := Lib.hid (hS8.2.2.2.2.1.trans (hb9.mono hS8.2.2.2.2.1.size))
    clear hb9
    go_wp2_with fail
    go_ret2
    exact ⟨by rw [HL.out]; rfl, HB9.out⟩
set_option maxRecDepth 100000 in
set_option maxHeartbeats 2000000 in
theorem Line_hex (st : Stp) (u : Value) (w : World) (hu : BV w.heap.size w u st.bytes) (hl : st.bytes.length ≤ 1000) (hk : st.kind = 72 ∨ st.kind = 79) :
    Calls Tryd.prog 17 #[.agg (stc st u)] w (LineTRet (lineT st) w) := by
  obtain ⟨ua, uc, rfl, _, hru⟩ := hu
  obtain ⟨kd, by_, k1, k2, k3⟩ := st
  have HL := Lib.hid (lineT_hex (st := ⟨kd, by_, k1, k2, k3⟩) hk)
  simp only [stc]
  simp only at hk hl hru
  obtain ⟨n, hn⟩ : ∃ n, by_.length = n := ⟨_, rfl⟩
  rw [hn] at hru ⊢
  have HN := Lib.hid hn
  have hor : ((kd.toNat : Int) == 72) = true ∨ (((kd.toNat : Int) == 72) = false ∧ ((kd.toNat : Int) == 79) = true) := by
    rcases hk with h | h
    · exact .inl ((u8_test kd 72).trans (by simp [h]))
    · exact .inr ⟨(u8_test kd 72).trans (by simp [h]), (u8_test kd 79).trans (by simp [h])⟩
  obtain ⟨W0, hW0⟩ : ∃ W0, w.alloc (.cells #[.int .u8 (kd.toNat : Int), .slice ua n uc, .int .i64 k1, .int .i32 k2, .int .i64 k3] 37) = W0 := ⟨_, rfl⟩
  have hb0 : Below w.heap.size w W0 := by rw [← hW0]; exact (Below.refl _ w).alloc (Nat.le_refl _) _
  have hx0 := Blk.new w 37 #[.int .u8 (kd.toNat : Int), .slice ua n uc, .int .i64 k1, .int .i32 k2, .int .i64 k3]
  rw [hW0] at hx0
  have HW0 := Lib.hid hW0
  have z0 := hx0.cell 0
  have z1 := hx0.cell 1
  have hlt0 := hx0.lt
  have HS := Lib.hid (fun (W : World) (hb : Below w.heap.size w W) => shown_calls ua n uc by_ W HN.out.symm (by have h := (hru.below hb).more hb.size; rw [← HN.out] at h; exact h) (by omega))
  have HS1 : Hid (Calls Tryd.prog 32 #[.slice ua n uc] W0.drew fun e w8 => e = .returned (.string (strOf (hexOf by_))) ∧ Hid (Blk w8 w.heap.size 37 #[.int .u8 (kd.toNat : Int), .slice ua n uc, .int .i64 k1, .int .i32 k2, .int .i64 k3] ∧ Below w.heap.size w w8)) := Lib.hid (by
    refine (HS.out _ hb0.drew).mono ?_
    rintro e w8 ⟨rfl, hb⟩
    exact ⟨rfl, Lib.hid ⟨hx0.drew.below hb hlt0, hb0.drew.trans (hb.mono hb0.size)⟩⟩)
  have HS2 : Hid (Calls Tryd.prog 32 #[.slice ua n uc] (W0.alloc (.cells #[.int .u8 (kd.toNat : Int), .int .u8 32] 5)).drew fun e w8 => e = .returned (.string (strOf (hexOf by_))) ∧ Hid (Blk w8 W0.heap.size 5 #[.int .u8 (kd.toNat : Int), .int .u8 32] ∧ Below w.heap.size w w8)) := Lib.hid (by
    refine (HS.out _ (hb0.alloc hb0.size _).drew).mono ?_
    rintro e w8 ⟨rfl, hb⟩
    exact ⟨rfl, Lib.hid ⟨(Blk.new W0 _ _).drew.below hb (by simp), (hb0.alloc hb0.size _).drew.trans (hb.mono (by have := hb0.size; simp; omega))⟩⟩)
  have HKC := Lib.hid (fun g => conv2 g kd 32)
  have kc := conv2 W0.heap.size kd 32
  have q2 := fun W => run_add [kd, 32] (hexOf by_) (by have := hexOf_len by_; simp; omega) W
  have HB0 := Lib.hid hb0
  clear hk hn hx0 hW0 hru HS hb0
  rcases hor with t1 | ⟨t1, t2⟩
  all_goals
    go_enter Tryd.func17, Tryd.ntmps17
    go_wp2_with fail
    rw [HW0.out]
    go_region_with (first
      | (go_at_call 32; ((with_reducible refine HS1.out.mono ?_); rintro e w8 ⟨rfl, H8⟩; have y0 := H8.out.1.cell 0; have y1 := H8.out.1.cell 1; have hlt8 := H8.out.1.lt; have kc8 := HKC.out w8.heap.size; have HB8 := Lib.hid H8.out.2))
      | (go_at_call 32; ((with_reducible refine HS2.out.mono ?_); rintro e w8 ⟨rfl, H8⟩; have y0 := H8.out.1.cell 0; have y1 := H8.out.1.cell 1; have HB8 := Lib.hid H8.out.2)))
    all_goals
      go_wp2_with fail
      go_ret2
      refine ⟨by rw [HL.out]; rfl, ?_⟩
      repeat (first | exact HB8.out | refine below_drewN ?_ _ | refine Below.drew ?_ | refine Below.alloc ?_ HB8.out.size _)
set_option maxRecDepth 100000 in
set_option maxHeartbeats 1000000 in
theorem Line_none (st : Stp) (u : Value) (w : World) (hu : BV w.heap.size w u st.bytes) (hh : ¬ (st.kind = 72 ∨ st.kind = 79)) (hk : ¬ st.kind = 75) :
    Calls Tryd.prog 17 #[.agg (stc st u)] w (LineTRet (lineT st) w) := by
  obtain ⟨ua, uc, rfl, _, _⟩ := hu
  obtain ⟨kd, by_, k1, k2, k3⟩ := st
  have HL := Lib.hid (lineT_none (st := ⟨kd, by_, k1, k2, k3⟩) hh hk)
  simp only [stc]
  simp only at hk hh
  have t1 : ((kd.toNat : Int) == 72) = false := (u8_test kd 72).trans (by simp; exact fun h => hh (.inl h))
  have t2 : ((kd.toNat : Int) == 79) = false := (u8_test kd 79).trans (by simp; exact fun h => hh (.inr h))
  have t3 : ((kd.toNat : Int) == 75) = false := (u8_test kd 75).trans (by simp [hk])
  have HB0 := Lib.hid ((Below.refl _ w).alloc (Nat.le_refl _) (.cells #[.int .u8 (kd.toNat : Int), .slice ua by_.length uc, .int .i64 k1, .int .i32 k2, .int .i64 k3] 37))
  clear hh hk
  go_enter Tryd.func17, Tryd.ntmps17
  go_wp2_with fail
  go_ret2
  exact ⟨by rw [HL.out]; rfl, HB0.out⟩
theorem Line_calls (st : Stp) (u : Value) (w : World) (hw : GW w) (hu : BV w.heap.size w u st.bytes) (hl : st.bytes.length ≤ 1000) (hr : inR st) :
    Calls Tryd.prog 17 #[.agg (stc st u)] w (LineTRet (lineT st) w) := by
  by_cases hh : st.kind = 72 ∨ st.kind = 79
  · exact Line_hex st u w hu hl hh
  · by_cases hk : st.kind = 75
    · exact Line_key st u w hw hu hr hk
    · exact Line_none st u w hu hh hk
end Go.Proofs.YtefpobkkldgogaaDoor
