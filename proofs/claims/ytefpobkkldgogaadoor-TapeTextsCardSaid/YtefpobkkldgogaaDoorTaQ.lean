/- The program's line. -/
import Derived.Test.YtefpobkkldgogaaDoorTaL
import Derived.Test.YtefpobkkldgogaaDoorTaR
namespace Go.Proofs.YtefpobkkldgogaaDoor
open Go.RowKit

theorem read_dash (w : World) : Calls Tryd.prog 24 #[.string (strOf [45])] w (ReadRet (hexB [45]) w) := by
  have x1 := Blk.new (w.alloc (.cells #[.slice none 0 0] 33)) 4 #[.bool true]
  have x0 := (Blk.new w 33 #[.slice none 0 0]).alloc (.cells #[.bool true] 4)
  have hb : Below w.heap.size w ((w.alloc (.cells #[.slice none 0 0] 33)).alloc (.cells #[.bool true] 4)) := ((Below.refl _ w).alloc (Nat.le_refl _) _).alloc (by simp) _
  rw [show (w.alloc (.cells #[.slice none 0 0] 33)).heap.size = w.heap.size + 1 by simp] at x1
  go_enter Tryd.func24, Tryd.ntmps24
  go_wp2_with fail
  refine bodyPost_ret (results_two_cells rfl _ _ w.heap.size (w.heap.size + 1) (.slice none 0 0) (.bool true) rfl rfl (run_loadVar_one _ _ _ _ _ (x0.cell 0) Tryd.underlying33 rfl) (run_loadVar_one _ _ _ _ _ (x1.cell 0) Tryd.underlying4 rfl)) rfl ?_
  exact ⟨hb, .slice none 0 0, rfl, World.ownsRow_nil _ _ _ _⟩
theorem read_calls (s : List UInt8) (w : World) (hs : s.length ≤ 1000000) : Calls Tryd.prog 24 #[.string (strOf s)] w (ReadRet (hexB s) w) := by
  by_cases h : s = [45]
  · subst h; exact read_dash w
  · exact callsIn_wide.1 (read_in s w hs (by simpa using h))
theorem key_bad (A : Option Addr) (n c : Nat) (w : World) (hn : ¬ n = 3) : Calls Tryd.prog 25 #[.slice A n c] w fun e w' => e = .returned (.tuple #[.agg #[.int .i64 0, .int .i32 0, .int .i64 0], .bool false]) ∧ Below w.heap.size w w' := by
  have h3 : ((n : Int) == 3) = false := by simp; omega
  clear hn
  go_enter Tryd.func25, Tryd.ntmps25
  go_wp2_with fail
  refine bodyPost_ret (results_row_tmp rfl _ _ w.heap.size _ _ _ _ rfl (Blk.new w 35 _) Tryd.underlying35 rfl (by kernel_rfl)) rfl ?_
  exact ⟨rfl, (Below.refl _ w).alloc (Nat.le_refl _) _⟩
theorem PSplit_at (s : List UInt8) (b : UInt8) (w : World) (hw : GW w) (hs : s.length ≤ 1000000) :
    Calls Tryd.prog 23 #[.string (strOf s), .string (strOf [b])] w fun e w' => ∃ g n, e = .returned (.slice (some ⟨g, 0, none⟩) n n) ∧ w.heap.size ≤ g ∧ Strs w' g n n (spl b s) ∧ Below w.heap.size w w' := by
  refine (Split_calls' s b w hw (by omega)).mono ?_
  rintro e w' ⟨rfl, rfl⟩
  refine ⟨w.heap.size, _, rfl, Nat.le_refl _, ⟨rfl, Nat.le_refl _, by simp, fun j x hx => ?_⟩, (Below.refl _ w).alloc (Nat.le_refl _) _⟩
  rw [(Blk.new w 9 (sv (spl b s)).toArray).cell j]
  simp [sv, hx]
set_option maxRecDepth 100000 in
set_option maxHeartbeats 2000000 in
theorem ReadLine_calls (s : List UInt8) (w : World) (hw : GW w) (hs : s.length ≤ 900000) : Calls Tryd.prog 11 #[.string (strOf s)] w (LineRet (lineB s) w) := by
  have HSP := Lib.hid (fun W hW => PSplit_at s 32 W hW (by omega))
  have hmem := spl_mem (b := 32) s
  obtain ⟨h, t, hspl⟩ : ∃ h t, spl 32 s = h :: t := by
    cases hx : spl 32 s with
    | nil => exact absurd hx (spl_ne _ _)
    | cons h t => exact ⟨h, t, rfl⟩
  rw [hspl] at HSP hmem
  have HSPL := Lib.hid hspl
  have HM := Lib.hid hmem
  have HW := Lib.hid hw
  clear hspl hmem hw
  have hb0 : Below w.heap.size w (w.alloc (.cells #[.int .u8 0, .slice none 0 0, .int .i64 0, .int .i32 0, .int .i64 0] 37)) := (Below.refl _ w).alloc (Nat.le_refl _) _
  have x0 := Blk.new w 37 #[.int .u8 0, .slice none 0 0, .int .i64 0, .int .i32 0, .int .i64 0]
  have HSP' := Lib.hid (HSP.out _ (HW.out.below hb0))
  have HB0 := Lib.hid hb0
  have X0 := Lib.hid x0
  clear hb0 x0
  go_enter Tryd.func11, Tryd.ntmps11
  go_wp2_with fail
  refine HSP'.out.mono ?_
  rintro e w1 ⟨g, n, rfl, hg0, hst, hb⟩
  have c0 := hst.at_ 0 h rfl
  have hg := hst.lt
  have hn1 : 1 ≤ n := by rw [hst.len]; simp
  have x1 := X0.out.below hb X0.out.lt
  have X1 := Lib.hid x1
  have HB1 := Lib.hid (HB0.out.trans (hb.mono HB0.out.size))
  have HST := Lib.hid hst
  clear hg0 hst hb x1 HSP' HSP X0 HB0
  by_cases h1 : h = [72] ∨ h = [79]
  · by_cases h2 : t.length = 1
    · obtain ⟨x, rfl⟩ : ∃ x, t = [x] := List.length_eq_one_iff.1 h2
      obtain rfl : n = 2 := HST.out.len
      have hor : (h == [72]) = true ∨ ((h == [72]) = false ∧ (h == [79]) = true) := by rcases h1 with rfl | rfl <;> first | exact .inl rfl | exact .inr ⟨rfl, rfl⟩
      have HL := Lib.hid (line_hex HSPL.out h1)
      have hx := HM.out x (by simp)
      have HRD := Lib.hid (fun W => read_calls x W (by omega))
      have c1 := HST.out.at_ 1 x rfl
      have hh1 : h.length = 1 := by rcases h1 with rfl | rfl <;> rfl
      obtain ⟨hc0, rfl⟩ : ∃ hc0, h = [hc0] := List.length_eq_one_iff.1 hh1
      clear h1 h2 hx hh1
      rcases hor with t1 | ⟨t1, t2⟩
      all_goals
        go_wp2_with fail
        refine (HRD.out _).mono ?_
        rintro e w2 ⟨hb2, v, rfl, hob⟩
        obtain ⟨va, vc, rfl, _, _, _, _⟩ := hob.reads
        obtain ⟨m, hm⟩ : ∃ m, ((hexB x).getD []).length = m := ⟨_, rfl⟩
        rw [hm] at hob ⊢
        have HML := Lib.hid hm
        have d0 := (hb2.cell (p := ⟨g, 0, none⟩) hg).trans c0
        have hg2 : g < w2.heap.size := Nat.lt_of_lt_of_le hg hb2.size
        have X2 := Lib.hid (X1.out.below hb2 X1.out.lt)
        have HB2 := Lib.hid (HB1.out.trans (hb2.mono HB1.out.size))
        have HOB := Lib.hid hob
        clear hm hob hb2 c0 c1 hg
        cases hB : hexB x with
        | none =>
          have HN := Lib.hid hB
          clear hB
          have HNO := Lib.hid (show lineB s = none by rw [HL.out, HN.out]; rfl)
          go_wp2_with (refine wpl_store rfl 37 _ _ rfl w.heap.size rfl _ rfl _ _ X2.out 5 (by kernel_rfl) rfl rfl ?h1 ?_; case h1 => (simp [Value.oneCell']))
          refine bodyPost_ret (results_row_tmp rfl _ _ w.heap.size _ _ _ _ rfl (X2.out.row _) Tryd.underlying37 rfl (by kernel_rfl)) rfl ?_
          exact ⟨below_row HB2.out (Nat.le_refl _) _, noStp, .slice none 0 0, by rw [HNO.out]; rfl, World.ownsRow_nil _ _ _ _, by rw [HNO.out]; rfl⟩
        | some p =>
          have HN := Lib.hid hB
          have hgp : (hexB x).getD [] = p := by rw [hB]; rfl
          rw [hgp] at HOB HML
          clear hB hgp
          go_wp2_with (refine wpl_store rfl 37 _ _ rfl w.heap.size rfl _ rfl _ _ X2.out 5 (by kernel_rfl) rfl rfl ?h1 ?_; case h1 => (simp [Value.oneCell']))
          refine bodyPost_ret (results_row_tmp rfl _ _ w.heap.size _ _ _ _ rfl (X2.out.row _) Tryd.underlying37 rfl (by kernel_rfl)) rfl ?_
          have hl0 : lineB s = some ⟨hc0, p, 0, 0, 0⟩ := by rw [HL.out, HN.out]; rfl
          have hlo : (Value.slice va m vc).ownBlock ≠ some w.heap.size := fun e => by have h1 := (HOB.out.lt _ e).1; have h2 := X1.out.lt; omega
          have hsz1 := HB1.out.size
          have hox := World.ownsRow.kept HOB.out (grown_row w2 w.heap.size #[.int .u8 hc0.toNat, .slice va m vc, .int .i64 0, .int .i32 0, .int .i64 0]) (.inr hlo)
          exact ⟨below_row HB2.out (Nat.le_refl _) _, ⟨hc0, p, 0, 0, 0⟩, .slice va m vc, by rw [hl0]; rfl, OB.low hox (by omega), by rw [hl0]; rfl⟩
    · have HNO := Lib.hid (line_none HSPL.out (fun _ => h2) (fun e => by rcases h1 with rfl | rfl <;> cases e))
      have hn2 : ((n : Int) == 2) = false := by have := HST.out.len; simp at this ⊢; omega
      have hor : (h == [72]) = true ∨ ((h == [72]) = false ∧ (h == [79]) = true) := by rcases h1 with rfl | rfl <;> first | exact .inl rfl | exact .inr ⟨rfl, rfl⟩
      clear h1 h2
      rcases hor with t1 | ⟨t1, t2⟩
      all_goals
        go_wp2_with (refine wpl_store rfl 37 _ _ rfl w.heap.size rfl _ rfl _ _ X1.out 5 (by kernel_rfl) rfl rfl ?h1 ?_; case h1 => (simp [Value.oneCell']))
        refine bodyPost_ret (results_row_tmp rfl _ _ w.heap.size _ _ _ _ rfl (X1.out.row _) Tryd.underlying37 rfl (by kernel_rfl)) rfl ?_
        exact ⟨below_row HB1.out (Nat.le_refl _) _, noStp, .slice none 0 0, by rw [HNO.out]; rfl, World.ownsRow_nil _ _ _ _, by rw [HNO.out]; rfl⟩
  · have t1 : (h == [72]) = false := by simp; exact fun e => h1 (.inl e)
    have t2 : (h == [79]) = false := by simp; exact fun e => h1 (.inr e)
    by_cases h3 : h = [75]
    · by_cases h2 : t.length = 3
      · obtain ⟨a, b, cc, rfl⟩ : ∃ a b cc, t = [a, b, cc] := by
          match t, h2 with
          | [a, b, cc], _ => exact ⟨a, b, cc, rfl⟩
        obtain rfl : n = 4 := HST.out.len
        subst h3
        have hcut : cutA (some ⟨g, 0, none⟩) 4 1 = some ⟨g, 1, none⟩ := rfl
        have hrd : Reads w1 w1.heap.size 1 (some ⟨g, 1, none⟩) 3 (sv [a, b, cc]) := by
          refine ⟨rfl, fun _ => ⟨_, rfl, hg, fun j u hu => ?_⟩⟩
          match j, hu with
          | 0, hu => cases hu; exact HST.out.at_ 1 a rfl
          | 1, hu => cases hu; exact HST.out.at_ 2 b rfl
          | 2, hu => cases hu; exact HST.out.at_ 3 cc rfl
          | j + 3, hu => simp [sv] at hu
        have ha := HM.out a (by simp)
        have hb := HM.out b (by simp)
        have hcc := HM.out cc (by simp)
        have HK := Lib.hid (key3_calls ⟨g, 1, none⟩ 3 a b cc w1 (HW.out.below HB1.out) hrd (by omega) (by omega) (by omega) (Nat.le_refl _))
        have HL := Lib.hid (line_key HSPL.out)
        clear h1 h2 hrd ha hb hcc
        go_wp2_with fail
        refine HK.out.mono ?_
        rintro e w2 ⟨hb2, n1, n2, n3, rfl, hv⟩
        have X2 := Lib.hid (X1.out.below hb2 X1.out.lt)
        have HB2 := Lib.hid (HB1.out.trans (hb2.mono HB1.out.size))
        have HV := Lib.hid hv
        clear hv hb2
        cases hB : keyB a b cc with
        | none =>
          have HNO := Lib.hid (HL.out.trans hB)
          clear hB
          go_wp2_with (refine wpl_store rfl 37 _ _ rfl w.heap.size rfl _ rfl _ _ (X2.out.alloc _) 5 (by kernel_rfl) rfl rfl ?h1 ?_; case h1 => (simp [Value.oneCell']))
          refine bodyPost_ret (results_row_tmp rfl _ _ w.heap.size _ _ _ _ rfl ((X2.out.alloc _).row _) Tryd.underlying37 rfl (by kernel_rfl)) rfl ?_
          exact ⟨below_row (HB2.out.alloc HB2.out.size _) (Nat.le_refl _) _, noStp, .slice none 0 0, by rw [HNO.out]; rfl, World.ownsRow_nil _ _ _ _, by rw [HNO.out]; rfl⟩
        | some st =>
          have HN := Lib.hid (HL.out.trans hB)
          have HV' := Lib.hid (HV.out st hB)
          clear hB
          go_wp2_with (refine wpl_store rfl 37 _ _ rfl w.heap.size rfl _ rfl _ _ (X2.out.alloc _) 5 (by kernel_rfl) rfl rfl ?h1 ?_; case h1 => (simp [Value.oneCell']))
          refine bodyPost_ret (results_row_tmp rfl _ _ w.heap.size _ _ _ _ rfl ((X2.out.alloc _).row _) Tryd.underlying37 rfl (by kernel_rfl)) rfl ?_
          have hst2 := HV'.out
          subst hst2
          exact ⟨below_row (HB2.out.alloc HB2.out.size _) (Nat.le_refl _) _, ⟨75, [], n1, n2, n3⟩, .slice none 0 0, by rw [HN.out]; rfl, World.ownsRow_nil _ _ _ _, by rw [HN.out]; rfl⟩
      · have HNO := Lib.hid (line_none HSPL.out (fun e => absurd e h1) (fun _ => h2))
        subst h3
        have HK := Lib.hid (fun A c W => key_bad A (n - 1) c W (by have := HST.out.len; simp at this; omega))
        have hn1' : (1 : Int) ≤ (n : Int) := by omega
        clear h1 h2
        go_wp2_with fail
        refine (HK.out _ _ _).mono ?_
        rintro e w2 ⟨rfl, hb2⟩
        have X2 := Lib.hid (X1.out.below hb2 X1.out.lt)
        have HB2 := Lib.hid (HB1.out.trans (hb2.mono HB1.out.size))
        clear hb2
        go_wp2_with (refine wpl_store rfl 37 _ _ rfl w.heap.size rfl _ rfl _ _ (X2.out.alloc _) 5 (by kernel_rfl) rfl rfl ?h1 ?_; case h1 => (simp [Value.oneCell']))
        refine bodyPost_ret (results_row_tmp rfl _ _ w.heap.size _ _ _ _ rfl ((X2.out.alloc _).row _) Tryd.underlying37 rfl (by kernel_rfl)) rfl ?_
        exact ⟨below_row (HB2.out.alloc HB2.out.size _) (Nat.le_refl _) _, noStp, .slice none 0 0, by rw [HNO.out]; rfl, World.ownsRow_nil _ _ _ _, by rw [HNO.out]; rfl⟩
    · have HNO := Lib.hid (line_none HSPL.out (fun e => absurd e h1) (fun e e2 => absurd e h3))
      have t3 : (h == [75]) = false := by simp [h3]
      clear h1 h3
      go_wp2_with (refine wpl_store rfl 37 _ _ rfl w.heap.size rfl _ rfl _ _ X1.out 5 (by kernel_rfl) rfl rfl ?h1 ?_; case h1 => (simp [Value.oneCell']))
      refine bodyPost_ret (results_row_tmp rfl _ _ w.heap.size _ _ _ _ rfl (X1.out.row _) Tryd.underlying37 rfl (by kernel_rfl)) rfl ?_
      exact ⟨below_row HB1.out (Nat.le_refl _) _, noStp, .slice none 0 0, by rw [HNO.out]; rfl, World.ownsRow_nil _ _ _ _, by rw [HNO.out]; rfl⟩
end Go.Proofs.YtefpobkkldgogaaDoor
