/- The document's text of steps. -/
import Derived.Test.YtefpobkkldgogaaDoorTaP
namespace Go.Proofs.YtefpobkkldgogaaDoor
open Go.RowKit

theorem spl_len_le (b : UInt8) : ∀ s : List UInt8, (spl b s).length ≤ s.length + 1 := by
  intro s
  induction s with
  | nil => simp [spl]
  | cons c r ih =>
    unfold spl
    split
    · simp; omega
    · split
      · rename_i h t he
        rw [he] at ih
        simp at ih ⊢
        omega
      · simp
theorem drop_two {α : Type} (ls : List α) (k : Nat) (h : k + 1 < ls.length) : ∃ x y r, ls.drop k = x :: y :: r ∧ ls[k]? = some x ∧ ls.drop (k + 1) = y :: r := by
  refine ⟨ls[k], ls[k + 1], ls.drop (k + 2), ?_, List.getElem?_eq_getElem (by omega), ?_⟩
  · rw [List.drop_eq_getElem_cons (by omega), List.drop_eq_getElem_cons h]
  · rw [List.drop_eq_getElem_cons h]
theorem drop_one {α : Type} (ls : List α) (k : Nat) (h : k + 1 = ls.length) : ∃ x, ls.drop k = [x] ∧ ls[k]? = some x := by
  refine ⟨ls[k], ?_, List.getElem?_eq_getElem (by omega)⟩
  rw [List.drop_eq_getElem_cons (by omega), List.drop_eq_nil_of_le (by omega)]
set_option maxRecDepth 100000 in
set_option maxHeartbeats 2000000 in
theorem RParse_calls (s : List UInt8) (w : World) (hs : s.length ≤ 900000) : Calls Tryd.prog 8 #[.string (strOf s)] w (ParseRet 42 (parseB s) w) := by
  have HSP := Lib.hid (RSplit_at s 10 w (by omega))
  have hmem := spl_mem (b := 10) s
  have hsl := spl_len_le 10 s
  obtain ⟨ls, hls⟩ : ∃ ls, spl 10 s = ls := ⟨_, rfl⟩
  have hpb : parseB s = parseL ls [] := by unfold parseB; rw [hls]
  have hne : ls ≠ [] := by rw [← hls]; exact spl_ne _ _
  rw [hls] at HSP hmem hsl
  have HM := Lib.hid hmem
  have HPB := Lib.hid hpb
  have hll : ls.length ≤ s.length + 1 := by omega
  have hl1 : 1 ≤ ls.length := List.length_pos_iff.2 hne
  clear hls hmem hpb hsl hne
  go_enter Tryd.func8, Tryd.ntmps8
  go_wp2_with fail
  refine HSP.out.mono ?_
  rintro e w1 ⟨g, c, n, rfl, hg0, hst, hb⟩
  have hn := hst.len
  have hnc := hst.cap
  have hg := hst.lt
  have HB1 := Lib.hid hb
  have HST := Lib.hid hst
  have HN := Lib.hid hn
  have hn1 : 1 ≤ n := by omega
  have hnl : n ≤ s.length + 1 := by omega
  obtain ⟨m, rfl⟩ : ∃ m, n = m + 1 := ⟨n - 1, by omega⟩
  clear hst hb hn hl1 hll hn1
  go_wp2_with fail
  go_loopw [5, 19] (fun v i wr => ∃ k : Nat, ∃ ps : List (Stp × Value), i = .int .i64 k ∧ k ≤ m ∧ ps.length = k ∧ parseB s = parseL (ls.drop k) (ps.map (·.1)) ∧ StAt w1.heap.size 42 wr v ps ∧ Below w1.heap.size w1 wr)
    (fun _ i _ => m - (intOf i).toNat)
  case atStart => exact ⟨0, [], rfl, Nat.zero_le _, rfl, HPB.out, StAt.nil, Below.refl _ _⟩
  case round =>
    obtain ⟨k, ps, rfl, hk, hpl, hpar, hst, hb⟩ := hrel
    have hss := HST.out.below hb hg
    have HST2 := Lib.hid hst
    have HBW := Lib.hid hb
    have HB := Lib.hid (HB1.out.trans (hb.mono HB1.out.size))
    have HP := Lib.hid hpar
    have HSS := Lib.hid hss
    have HPL := Lib.hid hpl
    have hg2 := hss.lt
    clear hst hb hpar hss
    obtain ⟨va, vc, rfl, _, _⟩ := HST2.out.slice
    rw [hpl] at HST2 ⊢
    clear hpl
    by_cases hlt : k < m
    · obtain ⟨x, y, r, hd1, hx, hd2⟩ := drop_two ls k (by have := HN.out; omega)
      have c0 := HSS.out.at_ k x hx
      have hxl := (HM.out x (List.mem_of_getElem? hx)).2
      have HR := Lib.hid (RReadLine_calls x wr (by omega))
      have hpb := HP.out
      rw [hd1] at hpb
      have HD := Lib.hid hd2
      clear hx hd1 hd2
      cases hl : lineB x with
      | none =>
        have HPB2 := Lib.hid (show parseB s = .inl (k + 1) by rw [hpb]; simp [parseL, hl, HPL.out])
        rw [hl] at HR
        clear hpb hl
        go_wp2_with fail
        refine HR.out.mono ?_
        rintro e w2 ⟨hb2, st, u, rfl, hou, _⟩
        have HB2 := Lib.hid (HB.out.trans (hb2.mono HB.out.size))
        obtain ⟨ua, uc, rfl, _, _⟩ := hou.reads
        simp only [stc]
        clear hb2 hou
        go_wp2_with fail
        go_ret3
        exact ⟨HB2.out.alloc HB2.out.size _, _, [], by rw [HPB2.out]; simp [pnum, perr], StAt.nil, by rw [HPB2.out]; rfl⟩
      | some st0 =>
        have HPB2 := Lib.hid (show parseB s = parseL (ls.drop (k + 1)) (ps.map (·.1) ++ [st0]) by rw [hpb, HD.out]; simp [parseL, hl])
        rw [hl] at HR
        clear hpb hl
        go_wp2_with fail
        refine HR.out.mono ?_
        rintro e w2 ⟨hb2, st, u, rfl, hou, hst0⟩
        have hst0' : st = st0 := hst0
        subst hst0'
        have HS2 := Lib.hid (HST2.out.below hb2)
        have HB2 := Lib.hid (HB.out.trans (hb2.mono HB.out.size))
        have HBW2 := Lib.hid (HBW.out.trans (hb2.mono HBW.out.size))
        have HOU := Lib.hid hou
        obtain ⟨ua, uc, rfl, _, _⟩ := hou.reads
        simp only [stc]
        clear hb2 hou hst0
        go_wp2_with (at_builtin; refine wpl_stp rfl _ _ 28 42 rfl Tryd.underlying28 rstep_info (by decide) (w2.alloc (.cells (stc st (.slice ua st.bytes.length uc)) 42)) w1.heap.size (.slice va k vc) ps rfl (HS2.out.below ((Below.refl _ w2).alloc (Nat.le_refl _) _)) st (.slice ua st.bytes.length uc) (World.ownsRow.alloc (OB.low HOU.out HBW.out.size) _) (by rw [show (w2.alloc (.cells (stc st (.slice ua st.bytes.length uc)) 42)).heap.size = w2.heap.size + 1 by simp]; rfl) rfl (by have := HPL.out; omega) (by have := HBW2.out.size; simp; omega) ?_; intro v' w8 hst' hg'; have HST8 := Lib.hid hst'; have HG8 := Lib.hid hg'; clear hst' hg')
        go_roundw
        case rel => exact ⟨k + 1, ps ++ [(st, .slice ua st.bytes.length uc)], by go_num, by omega, by simp [HPL.out], by rw [HPB2.out]; simp, HST8.out, StAt.below_step (HS2.out.below ((Below.refl _ w2).alloc (Nat.le_refl _) _)) (Nat.le_refl _) (HBW2.out.alloc HBW2.out.size _) HG8.out⟩
        case measure => simp [intOf]; omega
    · obtain rfl : k = m := by omega
      obtain ⟨x, hd1, hx⟩ := drop_one ls k HN.out
      have c0 := HSS.out.at_ k x hx
      have hpb := HP.out
      rw [hd1] at hpb
      clear hx hd1
      by_cases hx0 : x = []
      · subst hx0
        have HPB2 := Lib.hid (show parseB s = .inr (ps.map (·.1)) by rw [hpb]; rfl)
        clear hpb
        go_wp2_with fail
        go_ret3
        exact ⟨HB.out, _, ps, by rw [HPB2.out]; simp [pnum, perr, HPL.out], HST2.out.low HB1.out.size, by rw [HPB2.out]; rfl⟩
      · have t0 : (x == []) = false := by simpa using hx0
        have t0' : x.isEmpty = false := by simpa using hx0
        have HPB2 := Lib.hid (show parseB s = .inl (k + 1) by rw [hpb]; simp [parseL, hx0, HPL.out])
        clear hpb hx0
        go_wp2_with fail
        go_ret3
        exact ⟨HB.out, _, [], by rw [HPB2.out]; simp [pnum, perr], StAt.nil, by rw [HPB2.out]; rfl⟩
end Go.Proofs.YtefpobkkldgogaaDoor
