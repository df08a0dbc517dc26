/- The document's line of a step. -/
import Derived.Test.YtefpobkkldgogaaDoorTuE
import Derived.Test.YtefpobkkldgogaaDoorTaX
namespace Go.Proofs.YtefpobkkldgogaaDoor
open Go.RowKit Go.Lib

set_option maxRecDepth 100000 in
set_option maxHeartbeats 1000000 in
theorem RHex27_calls (A : Option Addr) (n c : Nat) (p : List UInt8) (w : World) (hn : n = p.length) (hr : RB w A p) (hl : p.length ≤ 1000000) :
    Calls Tryd.prog 35 #[.slice A n c] w fun e w' => e = .returned (.string (strOf (hexOf p))) ∧ ∃ m, w' = w.drewN m := by
  subst hn
  have HX := Lib.hid (RHex_calls A _ c p w rfl hr hl)
  clear hr
  by_cases h0 : p = []
  · subst h0
    go_enter Tryd.func35, Tryd.ntmps35
    go_wp2_with fail
    go_ret
    exact ⟨rfl, 0, rfl⟩
  · have hl0 : 0 < p.length := List.length_pos_iff.2 h0
    have HO := Lib.hid (show hexOf p = hexD p by unfold hexOf; rw [if_neg h0])
    have t0 : ((p.length : Int) == 0) = false := by simp; omega
    clear h0
    go_enter Tryd.func35, Tryd.ntmps35
    go_wp2_with fail
    refine HX.out.mono ?_
    rintro e w' ⟨rfl, m, rfl⟩
    go_wp2_with fail
    go_ret
    exact ⟨by rw [HO.out]; rfl, m, rfl⟩

theorem conv1 (g : Nat) (c : UInt8) (W : World) (h : W.cell? ⟨g, 0, none⟩ = some (.int .u8 (c.toNat : Int))) : (convert 33 9 (.slice (some ⟨g, 0, none⟩) 1 1)).run Tryd.prog W = .ok (.string (strOf [c])) W := by
  have hr : Reads W (g + 1) 1 (some ⟨g, 0, none⟩) 1 (bv [c]) := ⟨rfl, fun _ => ⟨_, rfl, Nat.lt_succ_self _, fun j u hu => by
    match j, hu with
    | 0, hu => simp at hu; subst hu; exact h
    | j + 1, hu => simp at hu⟩⟩
  exact hr.convert 1 rfl
theorem conv2 (g : Nat) (c d : UInt8) (W : World) (h : W.cell? ⟨g, 0, none⟩ = some (.int .u8 (c.toNat : Int))) (h' : W.cell? ⟨g, 1, none⟩ = some (.int .u8 (d.toNat : Int))) : (convert 33 9 (.slice (some ⟨g, 0, none⟩) 2 2)).run Tryd.prog W = .ok (.string (strOf [c, d])) W := by
  have hr : Reads W (g + 1) 1 (some ⟨g, 0, none⟩) 2 (bv [c, d]) := ⟨rfl, fun _ => ⟨_, rfl, Nat.lt_succ_self _, fun j u hu => by
    match j, hu with
    | 0, hu => simp at hu; subst hu; exact h
    | 1, hu => simp at hu; subst hu; exact h'
    | j + 2, hu => simp at hu⟩⟩
  exact hr.convert 2 rfl
theorem hexOf_len (p : List UInt8) : (hexOf p).length ≤ 2 * p.length + 1 := by
  unfold hexOf
  split
  · simp
  · rw [hexD_len]; omega
def LineTRet (r : Option (List UInt8)) (w : World) (e : Ending) (w' : World) : Prop :=
  e = .returned (.tuple #[.string (strOf (r.getD [])), .int .i64 (if r.isSome then 0 else 1)]) ∧ Below w.heap.size w w'
theorem lineT_hex {st : Stp} (h : st.kind = 72 ∨ st.kind = 79) : lineT st = some (st.kind :: 32 :: hexOf st.bytes) := by unfold lineT; rw [if_pos h]
theorem lineT_key {st : Stp} (h : st.kind = 75) : lineT st = some (75 :: 32 :: (itoa st.k1 ++ 32 :: (itoa st.k2 ++ 32 :: itoa st.k3))) := by unfold lineT; rw [if_neg (by rw [h]; decide), if_pos h]
theorem lineT_none {st : Stp} (h1 : ¬ (st.kind = 72 ∨ st.kind = 79)) (h2 : ¬ st.kind = 75) : lineT st = none := by unfold lineT; rw [if_neg h1, if_neg h2]
theorem u8_test (x c : UInt8) : ((x.toNat : Int) == (c.toNat : Int)) = decide (x = c) := by
  rw [Bool.eq_iff_iff]
  simp only [beq_iff_eq, decide_eq_true_eq]
  exact ⟨fun h => UInt8.toNat_inj.1 (by omega), fun h => by rw [h]⟩
theorem quiet_dec (v : Int) (W : World) (n : Nat) (h1 : -9223372036854775808 ≤ v) (h2 : v ≤ 9223372036854775807) : Calls Tryd.prog 36 #[.int .i64 v] (W.drewN n) fun e w' => e = .returned (.string (strOf (itoa v))) ∧ ∃ m, w' = W.drewN m := by
  refine (Dec_calls v h1 h2 (W.drewN n)).mono ?_
  rintro e w' ⟨rfl, m, rfl⟩
  exact ⟨rfl, n + m, World.drewN_drewN _ _ _⟩
set_option maxRecDepth 100000 in
set_option maxHeartbeats 2000000 in
theorem RLine_hex (st : Stp) (u : Value) (w : World) (hu : BV w.heap.size w u st.bytes) (hl : st.bytes.length ≤ 1000) (hr : inR st) (hk : st.kind = 72 ∨ st.kind = 79) :
    Calls Tryd.prog 18 #[.agg (stc st u)] w (LineTRet (lineT st) w) := by
  obtain ⟨ua, uc, rfl, _, hru⟩ := hu
  obtain ⟨kd, by_, k1, k2, k3⟩ := st
  simp only [stc]
  simp only at hl hru hk
  obtain ⟨n, hn⟩ : ∃ n, by_.length = n := ⟨_, rfl⟩
  rw [hn] at hru ⊢
  have HR := Lib.hid hru
  have HN := Lib.hid hn
  have hlt : w.heap.size < (w.alloc (.cells #[.int .u8 (kd.toNat : Int), .slice ua n uc, .int .i64 k1, .int .i32 k2, .int .i64 k3] 42)).heap.size := by simp
  have hb0 : Below w.heap.size w (w.alloc (.cells #[.int .u8 (kd.toNat : Int), .slice ua n uc, .int .i64 k1, .int .i32 k2, .int .i64 k3] 42)) := (Below.refl _ w).alloc (Nat.le_refl _) _
  clear hru hn
  have hh := hk
  clear hk
  have HL := Lib.hid (lineT_hex (st := ⟨kd, by_, k1, k2, k3⟩) hh)
  have hor : ((kd.toNat : Int) == 72) = true ∨ (((kd.toNat : Int) == 72) = false ∧ ((kd.toNat : Int) == 79) = true) := by
    rcases hh with h | h
    · exact .inl ((u8_test kd 72).trans (by simp [h]))
    · exact .inr ⟨(u8_test kd 72).trans (by simp [h]), (u8_test kd 79).trans (by simp [h])⟩
  have HX := Lib.hid (fun W (hW : Below w.heap.size w W) => RHex27_calls ua n uc by_ W HN.out.symm (by have := (HR.out.below hW).more hW.size; rw [← HN.out] at this; exact this) (by omega))
  have HX1 := Lib.hid (HX.out _ hb0.drew)
  have HX2 := Lib.hid (HX.out _ (hb0.alloc hb0.size (.cells #[.int .u8 (kd.toNat : Int)] 5)).drew)
  have kc := conv1 (w.heap.size + 1) kd
  have q1 : ∀ W, (Op.stringOp .add (strOf [kd]) (⟨#[32]⟩ : ByteArray)).run Tryd.prog W = .ok (.string (strOf [kd, 32])) W := fun W => run_add [kd] [32] (by simp) W
  have q2 := fun W => run_add [kd, 32] (hexOf by_) (by have := hexOf_len by_; simp; omega) W
  clear hh
  rcases hor with t1 | ⟨t1, t2⟩
  all_goals
    go_enter Tryd.func18, Tryd.ntmps18
    go_wp2_with fail
    go_region_with (first
      | (go_at_call 35; ((with_reducible refine HX1.out.mono ?_); rintro e w8 ⟨rfl, m, rfl⟩))
      | (go_at_call 35; ((with_reducible refine HX2.out.mono ?_); rintro e w8 ⟨rfl, m, rfl⟩)))
    all_goals
      go_wp2_with fail
      go_ret2
      refine ⟨by rw [HL.out]; rfl, ?_⟩
      repeat (first | exact hb0 | refine below_drewN ?_ _ | refine Below.drew ?_ | refine Below.alloc ?_ (by simp) _)
set_option maxRecDepth 100000 in
set_option maxHeartbeats 2000000 in
theorem RLine_key (st : Stp) (u : Value) (w : World) (hu : BV w.heap.size w u st.bytes) (hl : st.bytes.length ≤ 1000) (hr : inR st) (hk : st.kind = 75) :
    Calls Tryd.prog 18 #[.agg (stc st u)] w (LineTRet (lineT st) w) := by
  obtain ⟨ua, uc, rfl, _, hru⟩ := hu
  obtain ⟨kd, by_, k1, k2, k3⟩ := st
  simp only [stc]
  simp only at hl hru hk
  obtain ⟨n, hn⟩ : ∃ n, by_.length = n := ⟨_, rfl⟩
  rw [hn] at hru ⊢
  have HR := Lib.hid hru
  have HN := Lib.hid hn
  have hlt : w.heap.size < (w.alloc (.cells #[.int .u8 (kd.toNat : Int), .slice ua n uc, .int .i64 k1, .int .i32 k2, .int .i64 k3] 42)).heap.size := by simp
  have hb0 : Below w.heap.size w (w.alloc (.cells #[.int .u8 (kd.toNat : Int), .slice ua n uc, .int .i64 k1, .int .i32 k2, .int .i64 k3] 42)) := (Below.refl _ w).alloc (Nat.le_refl _) _
  clear hru hn
  have hh : ¬ (kd = 72 ∨ kd = 79) := by rw [hk]; decide
  have t1 : ((kd.toNat : Int) == 72) = false := (u8_test kd 72).trans (by simp; exact fun h => hh (.inl h))
  have t2 : ((kd.toNat : Int) == 79) = false := (u8_test kd 79).trans (by simp; exact fun h => hh (.inr h))
  have HL := Lib.hid (lineT_key (st := ⟨kd, by_, k1, k2, k3⟩) hk)
  have t3 : ((kd.toNat : Int) == 75) = true := (u8_test kd 75).trans (by simp [hk])
  obtain ⟨⟨r1, r2⟩, ⟨r3, r4⟩, ⟨r5, r6⟩⟩ := hr
  have Q1 := Lib.hid (fun m => quiet_dec k1 (w.alloc (.cells #[.int .u8 (kd.toNat : Int), .slice ua n uc, .int .i64 k1, .int .i32 k2, .int .i64 k3] 42)) m r1 r2)
  have Q2 := Lib.hid (fun m => quiet_dec k2 (w.alloc (.cells #[.int .u8 (kd.toNat : Int), .slice ua n uc, .int .i64 k1, .int .i32 k2, .int .i64 k3] 42)) m (by simp only at r3; omega) (by simp only at r4; omega))
  have Q3 := Lib.hid (fun m => quiet_dec k3 (w.alloc (.cells #[.int .u8 (kd.toNat : Int), .slice ua n uc, .int .i64 k1, .int .i32 k2, .int .i64 k3] 42)) m r5 r6)
  have l1 := itoa_len (v := k1) ⟨r1, r2⟩
  have l2 := itoa_len (v := k2) ⟨by simp only at r3; omega, by simp only at r4; omega⟩
  have l3 := itoa_len (v := k3) ⟨r5, r6⟩
  have q1 : ∀ W, (Op.stringOp .add (⟨#[75, 32]⟩ : ByteArray) (strOf (itoa k1))).run Tryd.prog W = .ok (.string (strOf (75 :: 32 :: itoa k1))) W := fun W => run_add [75, 32] (itoa k1) (by simp; omega) W
  have q2 : ∀ W, (Op.stringOp .add (strOf (75 :: 32 :: itoa k1)) (⟨#[32]⟩ : ByteArray)).run Tryd.prog W = .ok (.string (strOf (75 :: 32 :: (itoa k1 ++ [32])))) W := fun W => run_add (75 :: 32 :: itoa k1) [32] (by simp; omega) W
  have q3 : ∀ W, (Op.stringOp .add (strOf (75 :: 32 :: (itoa k1 ++ [32]))) (strOf (itoa k2))).run Tryd.prog W = .ok (.string (strOf (75 :: 32 :: (itoa k1 ++ 32 :: itoa k2)))) W := fun W => by
    have := run_add (75 :: 32 :: (itoa k1 ++ [32])) (itoa k2) (by simp; omega) W
    simpa using this
  have q4 : ∀ W, (Op.stringOp .add (strOf (75 :: 32 :: (itoa k1 ++ 32 :: itoa k2))) (⟨#[32]⟩ : ByteArray)).run Tryd.prog W = .ok (.string (strOf (75 :: 32 :: (itoa k1 ++ 32 :: (itoa k2 ++ [32]))))) W := fun W => by
    have := run_add (75 :: 32 :: (itoa k1 ++ 32 :: itoa k2)) [32] (by simp; omega) W
    simpa [strOf] using this
  have q5 : ∀ W, (Op.stringOp .add (strOf (75 :: 32 :: (itoa k1 ++ 32 :: (itoa k2 ++ [32])))) (strOf (itoa k3))).run Tryd.prog W = .ok (.string (strOf (75 :: 32 :: (itoa k1 ++ 32 :: (itoa k2 ++ 32 :: itoa k3))))) W := fun W => by
    have := run_add (75 :: 32 :: (itoa k1 ++ 32 :: (itoa k2 ++ [32]))) (itoa k3) (by simp; omega) W
    simpa using this
  clear hh hk r1 r2 r5 r6 l1 l2 l3
  go_enter Tryd.func18, Tryd.ntmps18
  go_wp2_with fail
  go_quiet ((first
    | (go_at_call_of 36 (Value.int .i64 k1); exact Q1.out _)
    | (go_at_call_of 36 (Value.int .i64 k2); exact Q2.out _)
    | (go_at_call_of 36 (Value.int .i64 k3); exact Q3.out _)))
  go_wp2_with fail
  go_ret2
  exact ⟨by rw [HL.out]; rfl, below_drewN hb0 _⟩
set_option maxRecDepth 100000 in
set_option maxHeartbeats 2000000 in
theorem RLine_none (st : Stp) (u : Value) (w : World) (hu : BV w.heap.size w u st.bytes) (hl : st.bytes.length ≤ 1000) (hr : inR st) (hh : ¬ (st.kind = 72 ∨ st.kind = 79)) (hk : ¬ st.kind = 75) :
    Calls Tryd.prog 18 #[.agg (stc st u)] w (LineTRet (lineT st) w) := by
  obtain ⟨ua, uc, rfl, _, hru⟩ := hu
  obtain ⟨kd, by_, k1, k2, k3⟩ := st
  simp only [stc]
  simp only at hl hru hk
  obtain ⟨n, hn⟩ : ∃ n, by_.length = n := ⟨_, rfl⟩
  rw [hn] at hru ⊢
  have HR := Lib.hid hru
  have HN := Lib.hid hn
  have hlt : w.heap.size < (w.alloc (.cells #[.int .u8 (kd.toNat : Int), .slice ua n uc, .int .i64 k1, .int .i32 k2, .int .i64 k3] 42)).heap.size := by simp
  have hb0 : Below w.heap.size w (w.alloc (.cells #[.int .u8 (kd.toNat : Int), .slice ua n uc, .int .i64 k1, .int .i32 k2, .int .i64 k3] 42)) := (Below.refl _ w).alloc (Nat.le_refl _) _
  clear hru hn
  simp only at hh
  have t1 : ((kd.toNat : Int) == 72) = false := (u8_test kd 72).trans (by simp; exact fun h => hh (.inl h))
  have t2 : ((kd.toNat : Int) == 79) = false := (u8_test kd 79).trans (by simp; exact fun h => hh (.inr h))
  have HL := Lib.hid (lineT_none (st := ⟨kd, by_, k1, k2, k3⟩) hh hk)
  have t3 : ((kd.toNat : Int) == 75) = false := (u8_test kd 75).trans (by simp [hk])
  clear hh hk
  go_enter Tryd.func18, Tryd.ntmps18
  go_wp2_with fail
  go_ret2
  exact ⟨by rw [HL.out]; rfl, hb0⟩
theorem RLine_calls (st : Stp) (u : Value) (w : World) (hu : BV w.heap.size w u st.bytes) (hl : st.bytes.length ≤ 1000) (hr : inR st) :
    Calls Tryd.prog 18 #[.agg (stc st u)] w (LineTRet (lineT st) w) := by
  by_cases hh : st.kind = 72 ∨ st.kind = 79
  · exact RLine_hex st u w hu hl hr hh
  · by_cases hk : st.kind = 75
    · exact RLine_key st u w hu hl hr hk
    · exact RLine_none st u w hu hl hr hh hk
end Go.Proofs.YtefpobkkldgogaaDoor
