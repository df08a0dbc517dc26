/- TapeParses: the walk. -/
import Derived.Test.YtefpobkkldgogaaDoorTaY
namespace Go.Proofs.YtefpobkkldgogaaDoor
open Go.RowKit

theorem okStp_self (x : Stp) : okStp x x := ⟨rfl, fun _ => ⟨rfl, rfl, rfl⟩, fun _ => rfl⟩
theorem okStp_of_map {ps qs : List (Stp × Value)} (h : ps.map (·.1) = qs.map (·.1)) : ∀ (k : Nat) x u y v, ps[k]? = some (x, u) → qs[k]? = some (y, v) → okStp x y := by
  intro k x u y v hp hq
  have h1 : (ps.map (·.1))[k]? = some x := by rw [List.getElem?_map, hp]; rfl
  have h2 : (qs.map (·.1))[k]? = some y := by rw [List.getElem?_map, hq]; rfl
  rw [h, h2] at h1
  injection h1 with h1
  subst h1
  exact okStp_self _
theorem parseL_len : ∀ (ls : List (List UInt8)) (acc : List Stp), (plst (parseL ls acc)).length ≤ acc.length + ls.length := by
  intro ls
  induction ls with
  | nil => intro acc; simp [parseL, plst]
  | cons l r ih =>
    intro acc
    cases r with
    | nil =>
      unfold parseL
      split <;> simp [plst]
    | cons m r =>
      unfold parseL
      cases lineB l with
      | none => simp [plst]
      | some s =>
        have := ih (acc ++ [s])
        simp at this ⊢
        omega
theorem str_one {Y : World} {g t : Nat} (st : Stp) {u : Value} (h : Blk Y g t (stc st u)) (hu : BV Y.heap.size Y u st.bytes) : StR Y (some ⟨g, 0, none⟩) 1 [(st, u)] :=
  ⟨rfl, ⟨rfl, fun _ => ⟨_, rfl, h.lt, fun j x hx => by
    rw [addr_plain', h.cell j]
    rw [stl_one] at hx
    simpa using hx⟩⟩, fun p hp => by rw [List.mem_singleton.1 hp]; exact hu⟩
theorem Blk.new' (w : World) (t : TypeId) (cs : Array Value) (g : Nat) (hg : g = w.heap.size) : Blk (w.alloc (.cells cs t)) g t cs := by subst hg; exact Blk.new w t cs
set_option maxRecDepth 100000 in
set_option maxHeartbeats 2000000 in
theorem TapeParses_calls (s : List UInt8) (w : World) (hw : GW w) (hs : s.length ≤ 9223372036854775807) : Calls Tryd.prog 3 #[.string (strOf s)] w fun e w' => e = .returned (.bool true) ∧ Below w.heap.size w w' := by
  have HW := Lib.hid hw
  have HAW := Lib.hid (awake_calls w hw)
  clear hw
  go_enter Tryd.func3, Tryd.ntmps3
  go_wp2_with fail
  refine HAW.out.mono ?_
  rintro e w1 ⟨rfl, hb1⟩
  have HB1 := Lib.hid hb1
  have HC := Lib.hid (CutText_calls s 1000 w1 hs (by omega))
  clear hb1
  go_wp2_with fail
  refine HC.out.mono ?_
  rintro e w2 ⟨rfl, rfl⟩
  obtain ⟨t, ht⟩ : ∃ t, s.take 1000 = t := ⟨_, rfl⟩
  have htl : t.length ≤ 1000 := by rw [← ht]; simp; omega
  rw [ht]
  clear ht HC HAW
  have HP := Lib.hid (Parse_calls t w1 (HW.out.below HB1.out) (by omega))
  have HLL : Hid ((plst (parseB t)).length ≤ 2000) := Lib.hid (by
    have h1 := parseL_len (spl 10 t) []
    have h2 := spl_len_le 10 t
    unfold parseB
    simp at h1
    omega)
  go_wp2_with fail
  refine HP.out.mono ?_
  rintro e w2 ⟨hb2, v, ps, rfl, hst, hps⟩
  obtain ⟨va, vc, rfl, _, _⟩ := hst.slice
  obtain ⟨n, hn⟩ : ∃ n, ps.length = n := ⟨_, rfl⟩
  rw [hn] at hst ⊢
  have HN := Lib.hid hn
  have HB2 := Lib.hid (HB1.out.trans (hb2.mono HB1.out.size))
  have HS2 := Lib.hid hst
  have HPS := Lib.hid hps
  have HRP := Lib.hid (fun W => RParse_calls t W (by omega))
  clear hb2 hst hps hn HP HB1
  obtain ⟨pn, hpn⟩ : ∃ pn, pnum (parseB t) = pn := ⟨_, rfl⟩
  obtain ⟨pe, hpe⟩ : ∃ pe, perr (parseB t) = pe := ⟨_, rfl⟩
  rw [hpn, hpe]
  have HPE := Lib.hid (And.intro hpn hpe)
  clear hpn hpe
  go_wp2_with fail
  refine (HRP.out _).mono ?_
  rintro e w3 ⟨hb3, v, qs, he, hst, hqs⟩
  rw [HPE.out.1, HPE.out.2] at he
  subst he
  obtain ⟨qa, qc, rfl, _, _⟩ := hst.slice
  have hqn : qs.length = n := by
    have h1 := congrArg List.length (hqs.trans HPS.out.symm)
    simp only [List.length_map] at h1
    exact h1.trans HN.out
  rw [hqn] at hst ⊢
  have HQN := Lib.hid hqn
  have HB3 := Lib.hid (HB2.out.trans (hb3.mono HB2.out.size))
  have HS3 := Lib.hid (HS2.out.below hb3)
  have HQ3 := Lib.hid hst
  have HQS := Lib.hid hqs
  clear hb3 hst hqs hqn HS2 HB2 HRP
  have hn1 : n ≤ 2000 := by
    have := HLL.out
    rw [← HPS.out, List.length_map, HN.out] at this
    exact this
  go_wp2_with fail
  refine (back_calls va n vc ps _ HS3.out.toR (by omega)).mono ?_
  rintro e w4 ⟨v, rfl, hsb, hb4⟩
  obtain ⟨ba, bc, rfl, _, _⟩ := hsb.slice
  rw [HN.out] at hsb ⊢
  have HB4 := Lib.hid (HB3.out.trans (hb4.mono HB3.out.size))
  have HR4 := Lib.hid (hsb.toR hb4.size)
  have HQ4 := Lib.hid (HQ3.out.toR.below hb4)
  have HOK := Lib.hid (okStp_of_map (HPS.out.trans HQS.out.symm))
  clear hsb hb4 HS3 HQ3 HB3
  go_wp2_with fail
  refine (RSame_calls ba qa n bc qc ps qs _ HR4.out HQ4.out (by omega) HOK.out).mono ?_
  rintro e w5 ⟨rfl, hb5⟩
  have HB5 := Lib.hid (HB4.out.trans (hb5.mono HB4.out.size))
  have HL := Lib.hid (ReadLine_calls t w5 (HW.out.below HB5.out) (by omega))
  clear hb5 HB4 HR4 HQ4 HOK HQS HPS
  go_wp2_with fail
  refine HL.out.mono ?_
  rintro e w6 ⟨hb6, st, u, rfl, hou, hst⟩
  obtain ⟨ua, uc, rfl, _, _⟩ := hou.reads
  have HB6 := Lib.hid (HB5.out.trans (hb6.mono HB5.out.size))
  have HRL := Lib.hid (fun W => RReadLine_calls t W (by omega))
  have HST := Lib.hid hst
  have HOU := Lib.hid hou
  obtain ⟨er, her⟩ : ∃ er : Int, (if (lineB t).isSome then (0 : Int) else 4) = er := ⟨_, rfl⟩
  rw [her]
  have HER := Lib.hid her
  simp only [stc]
  clear hb6 hst hou her HB5 HL
  go_wp2_with fail
  refine (HRL.out _).mono ?_
  rintro e w7 ⟨hb7, st', v, he, hov, hst'⟩
  rw [HER.out] at he
  subst he
  obtain rfl : st' = st := hst'.trans HST.out.symm
  obtain ⟨ya, yc, rfl, _, _⟩ := hov.reads
  simp only [stc]
  obtain ⟨kd, by_, k1, k2, k3⟩ := st'
  simp only at hb7 hov HOU HST ⊢
  have x9 := (Blk.new w6 37 #[.int .u8 kd.toNat, .slice ua by_.length uc, .int .i64 k1, .int .i32 k2, .int .i64 k3]).below hb7 (by simp)
  have hu7 : BV w7.heap.size w7 (.slice ua by_.length uc) by_ := BV.of_own (OB.below (World.ownsRow.alloc HOU.out (.cells #[.int .u8 kd.toNat, .slice ua by_.length uc, .int .i64 k1, .int .i32 k2, .int .i64 k3] 37)) hb7)
  have hv7 : BV w7.heap.size w7 (.slice ya by_.length yc) by_ := BV.of_own hov
  have hb07 := (HB6.out.alloc HB6.out.size (.cells #[.int .u8 kd.toNat, .slice ua by_.length uc, .int .i64 k1, .int .i32 k2, .int .i64 k3] 37)).trans (hb7.mono (by have := HB6.out.size; simp; omega))
  have hz67 : w6.heap.size < w7.heap.size := x9.lt
  have HB7 := Lib.hid hb07
  have X9 := Lib.hid x9
  have HU7 := Lib.hid hu7
  have HV7 := Lib.hid hv7
  have e0 := x9.cell 0
  have e1 := x9.cell 1
  have e2 := x9.cell 2
  have e3 := x9.cell 3
  have e4 := x9.cell 4
  clear hb7 hov hu7 hv7 hb07 x9 HOU HRL HB6 hst' HER
  have HBK := Lib.hid (fun (Y : World) (g : Nat) (hx : Blk Y g 37 #[.int .u8 kd.toNat, .slice ua by_.length uc, .int .i64 k1, .int .i32 k2, .int .i64 k3]) (hb : Below w7.heap.size w7 Y) (hy : Blk Y w7.heap.size 42 #[.int .u8 kd.toNat, .slice ya by_.length yc, .int .i64 k1, .int .i32 k2, .int .i64 k3]) =>
    (show Calls Tryd.prog 10 #[.slice (some ⟨g, 0, none⟩) 1 1] Y fun e w8 => ∃ A c, e = .returned (.slice A 1 c) ∧ Hid (StR w8 A 1 [((⟨kd, by_, k1, k2, k3⟩ : Stp), .slice ua by_.length uc)] ∧ Below w7.heap.size w7 w8 ∧ Blk w8 w7.heap.size 42 #[.int .u8 kd.toNat, .slice ya by_.length yc, .int .i64 k1, .int .i32 k2, .int .i64 k3] ∧ Below Y.heap.size Y w8) from by
      refine (back_calls (some ⟨g, 0, none⟩) 1 1 [((⟨kd, by_, k1, k2, k3⟩ : Stp), .slice ua by_.length uc)] Y (str_one ⟨kd, by_, k1, k2, k3⟩ hx ((HU7.out.below hb).more hb.size)) (by omega)).mono ?_
      rintro e w8 ⟨v8, rfl, hsb, hb8⟩
      obtain ⟨A8, c8, rfl, _, _⟩ := hsb.slice
      exact ⟨A8, c8, rfl, Lib.hid ⟨hsb.toR hb8.size, hb.trans (hb8.mono hb.size), hy.below hb8 hy.lt, hb8⟩⟩))
  have HL0 : Hid (Below w7.heap.size w7 (w7.alloc (.cells #[.int .u8 kd.toNat, .slice ya by_.length yc, .int .i64 k1, .int .i32 k2, .int .i64 k3] 42))) := Lib.hid ((Below.refl _ _).alloc (Nat.le_refl _) _)
  have HK1 := Lib.hid (HBK.out (((w7.alloc (.cells #[.int .u8 kd.toNat, .slice ya by_.length yc, .int .i64 k1, .int .i32 k2, .int .i64 k3] 42)).alloc (.cells #[.int .u8 kd.toNat, .slice ua by_.length uc, .int .i64 k1, .int .i32 k2, .int .i64 k3] 37)).drew) (w7.heap.size + 1) (Blk.new' _ _ _ _ (by simp)) (HL0.out.alloc (by simp) _).drew ((Blk.new w7 _ _).alloc _).drew)
  have HK2 := Lib.hid (HBK.out ((((w7.alloc (.cells #[.int .u8 kd.toNat, .slice ya by_.length yc, .int .i64 k1, .int .i32 k2, .int .i64 k3] 42)).alloc (.cells #[.int .u8 kd.toNat, .slice ya by_.length yc, .int .i64 k1, .int .i32 k2, .int .i64 k3] 42)).alloc (.cells #[.int .u8 kd.toNat, .slice ua by_.length uc, .int .i64 k1, .int .i32 k2, .int .i64 k3] 37)).drew) (w7.heap.size + 1 + 1) (Blk.new' _ _ _ _ (by simp)) ((HL0.out.alloc (by simp) _).alloc (by simp; omega) _).drew (((Blk.new w7 _ _).alloc _).alloc _).drew)
  have HK3 := Lib.hid (HBK.out ((((w7.alloc (.cells #[.int .u8 kd.toNat, .slice ya by_.length yc, .int .i64 k1, .int .i32 k2, .int .i64 k3] 42)).alloc (.cells #[.int .u8 kd.toNat, .slice ua by_.length uc, .int .i64 k1, .int .i32 k2, .int .i64 k3] 37)).alloc (.cells #[.int .u8 kd.toNat, .slice ya by_.length yc, .int .i64 k1, .int .i32 k2, .int .i64 k3] 42)).drew) (w7.heap.size + 1) ((Blk.new' _ _ _ _ (by simp)).alloc _).drew ((HL0.out.alloc (by simp) _).alloc (by simp; omega) _).drew (((Blk.new w7 _ _).alloc _).alloc _).drew)
  have HSM := Lib.hid (fun (Z : World) (A : Option Addr) (c g : Nat) (h1 : StR Z A 1 [((⟨kd, by_, k1, k2, k3⟩ : Stp), .slice ua by_.length uc)]) (hx : Blk Z g 42 #[.int .u8 kd.toNat, .slice ya by_.length yc, .int .i64 k1, .int .i32 k2, .int .i64 k3]) (hb : Below w7.heap.size w7 Z) =>
    (show Calls Tryd.prog 9 #[.slice A 1 c, .slice (some ⟨g, 0, none⟩) 1 1] Z fun e w' => e = .returned (.bool true) ∧ Hid (Below w.heap.size w w') from by
      refine (RSame_calls A (some ⟨g, 0, none⟩) 1 c 1 _ [((⟨kd, by_, k1, k2, k3⟩ : Stp), .slice ya by_.length yc)] Z h1 (str_one ⟨kd, by_, k1, k2, k3⟩ hx ((HV7.out.below hb).more hb.size)) (by omega) (okStp_of_map rfl)).mono ?_
      rintro e w9 ⟨rfl, hb9⟩
      exact ⟨rfl, Lib.hid (HB7.out.trans ((hb.trans (hb9.mono hb.size)).mono HB7.out.size))⟩))
  have HY2 : Hid (Blk (((w7.alloc (.cells #[.int .u8 kd.toNat, .slice ya by_.length yc, .int .i64 k1, .int .i32 k2, .int .i64 k3] 42)).alloc (.cells #[.int .u8 kd.toNat, .slice ya by_.length yc, .int .i64 k1, .int .i32 k2, .int .i64 k3] 42)).alloc (.cells #[.int .u8 kd.toNat, .slice ua by_.length uc, .int .i64 k1, .int .i32 k2, .int .i64 k3] 37)).drew (w7.heap.size + 1) 42 #[.int .u8 kd.toNat, .slice ya by_.length yc, .int .i64 k1, .int .i32 k2, .int .i64 k3]) := Lib.hid ((Blk.new' _ _ _ _ (by simp)).alloc _).drew
  have HY3 : Hid (Blk (((w7.alloc (.cells #[.int .u8 kd.toNat, .slice ya by_.length yc, .int .i64 k1, .int .i32 k2, .int .i64 k3] 42)).alloc (.cells #[.int .u8 kd.toNat, .slice ua by_.length uc, .int .i64 k1, .int .i32 k2, .int .i64 k3] 37)).alloc (.cells #[.int .u8 kd.toNat, .slice ya by_.length yc, .int .i64 k1, .int .i32 k2, .int .i64 k3] 42)).drew (w7.heap.size + 1 + 1) 42 #[.int .u8 kd.toNat, .slice ya by_.length yc, .int .i64 k1, .int .i32 k2, .int .i64 k3]) := Lib.hid (Blk.new' _ _ _ _ (by simp)).drew
  go_wp2_with fail
  go_region_with (first
    | (go_at_call 10; ((with_reducible refine HK1.out.mono ?_); rintro e w8 ⟨A8, c8, rfl, H8⟩; have f0 := H8.out.2.2.1.cell 0; have f1 := H8.out.2.2.1.cell 1; have f2 := H8.out.2.2.1.cell 2; have f3 := H8.out.2.2.1.cell 3; have f4 := H8.out.2.2.1.cell 4; have hz8 := H8.out.2.1.size; have HS := Lib.hid (HSM.out (w8.alloc (.cells #[.int .u8 kd.toNat, .slice ya by_.length yc, .int .i64 k1, .int .i32 k2, .int .i64 k3] 42)) A8 c8 w8.heap.size (H8.out.1.below ((Below.refl _ w8).alloc (Nat.le_refl _) _)) (Blk.new w8 _ _) (H8.out.2.1.alloc H8.out.2.1.size _))))
    | (go_at_call 10; ((with_reducible refine HK2.out.mono ?_); rintro e w8 ⟨A8, c8, rfl, H8⟩; have f0 := H8.out.2.2.1.cell 0; have f1 := H8.out.2.2.1.cell 1; have f2 := H8.out.2.2.1.cell 2; have f3 := H8.out.2.2.1.cell 3; have f4 := H8.out.2.2.1.cell 4; have hz8 := H8.out.2.1.size; have HS := Lib.hid (HSM.out w8 A8 c8 (w7.heap.size + 1) H8.out.1 (HY2.out.below H8.out.2.2.2 HY2.out.lt) H8.out.2.1)))
    | (go_at_call 10; ((with_reducible refine HK3.out.mono ?_); rintro e w8 ⟨A8, c8, rfl, H8⟩; have f0 := H8.out.2.2.1.cell 0; have f1 := H8.out.2.2.1.cell 1; have f2 := H8.out.2.2.1.cell 2; have f3 := H8.out.2.2.1.cell 3; have f4 := H8.out.2.2.1.cell 4; have hz8 := H8.out.2.1.size; have HS := Lib.hid (HSM.out w8 A8 c8 (w7.heap.size + 1 + 1) H8.out.1 (HY3.out.below H8.out.2.2.2 HY3.out.lt) H8.out.2.1)))
    | (go_at_call 9; ((with_reducible refine HS.out.mono ?_); rintro e w9 ⟨rfl, HB9⟩)))
  all_goals
    go_wp2_with fail
    go_ret
    exact ⟨rfl, HB9.out⟩
end Go.Proofs.YtefpobkkldgogaaDoor
