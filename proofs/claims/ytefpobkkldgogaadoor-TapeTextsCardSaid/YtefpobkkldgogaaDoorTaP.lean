/- The program's text of steps. -/
import Derived.Test.YtefpobkkldgogaaDoorTaT
import Derived.Test.YtefpobkkldgogaaDoorTaQ
namespace Go.Proofs.YtefpobkkldgogaaDoor
open Go.RowKit

def pnum : Nat ⊕ List Stp → Nat
  | .inl n => n
  | .inr l => l.length
def perr : Nat ⊕ List Stp → Int
  | .inl _ => 4
  | .inr _ => 0
def plst : Nat ⊕ List Stp → List Stp
  | .inl _ => []
  | .inr l => l
def ParseRet (t : TypeId) (r : Nat ⊕ List Stp) (w : World) (e : Ending) (w' : World) : Prop :=
  Below w.heap.size w w' ∧ ∃ v ps, e = .returned (.tuple #[v, .int .i64 (pnum r), .int .i64 (perr r)]) ∧ StAt w.heap.size t w' v ps ∧ ps.map (·.1) = plst r
theorem StAt.slice {base t : Nat} {w : World} {v : Value} {ps : List (Stp × Value)} (h : StAt base t w v ps) : ∃ A c, v = .slice A ps.length c ∧ ps.length ≤ c ∧ Reads w w.heap.size 5 A ps.length (stl ps) := by
  rcases h.row.2 with ⟨rfl, h0⟩ | ⟨g, cap, cur, rfl, hb, hg, hc, _⟩
  · have : ps = [] := List.eq_nil_of_length_eq_zero h0
    subst this
    exact ⟨none, 0, rfl, Nat.le_refl _, Reads.none_⟩
  · exact ⟨some ⟨g, 0, none⟩, cap, rfl, hc, Reads.of_own h.row⟩
set_option maxRecDepth 100000 in
set_option maxHeartbeats 2000000 in
theorem Parse_calls (s : List UInt8) (w : World) (hw : GW w) (hs : s.length ≤ 900000) : Calls Tryd.prog 7 #[.string (strOf s)] w (ParseRet 37 (parseB s) w) := by
  have HW := Lib.hid hw
  clear hw
  go_enter Tryd.func7, Tryd.ntmps7
  go_wp2_with fail
  go_loopw [0, 5] (fun x v wr => ∃ r : List UInt8, ∃ ps : List (Stp × Value), x = .string (strOf r) ∧ parseB s = parseL (spl 10 r) (ps.map (·.1)) ∧ ps.length + r.length ≤ s.length ∧ StAt w.heap.size 37 wr v ps ∧ Below w.heap.size w wr)
    (fun x _ _ => match x with | .string b => b.size | _ => 0)
  case atStart => exact ⟨s, [], rfl, rfl, by simp, StAt.nil, Below.refl _ _⟩
  case round =>
    obtain ⟨r, ps, rfl, hpar, hlen, hst, hb⟩ := hrel
    have HST := Lib.hid hst
    have HB := Lib.hid hb
    have HP := Lib.hid hpar
    clear hst hb hpar
    obtain ⟨va, vc, rfl, _, _⟩ := HST.out.slice
    by_cases hr : r = []
    · subst hr
      go_wp2_with fail
      go_ret3
      have hpb : parseB s = .inr (ps.map (·.1)) := HP.out
      exact ⟨HB.out, _, ps, by rw [hpb]; simp [pnum, perr], HST.out, by rw [hpb]; rfl⟩
    · have t0 : (r == []) = false := by simpa using hr
      have t0' : r.isEmpty = false := by simpa using hr
      have HR0 := Lib.hid hr
      have HC := Lib.hid (Cut_calls' r 10 wr (HW.out.below HB.out) (by omega))
      clear hr
      go_wp2_with fail
      refine HC.out.mono ?_
      rintro e w1 ⟨rfl, hb1⟩
      have HB1 := Lib.hid (HB.out.trans (hb1.mono HB.out.size))
      have HS1 := Lib.hid (HST.out.below hb1)
      clear hb1
      rcases cut_cases r 10 with ⟨hn, hc⟩ | ⟨p, r', hp, rfl, hc⟩
      · rw [hc]
        have HR := Lib.hid (ReadLine_calls r w1 (HW.out.below HB1.out) (by omega))
        have hpb : parseB s = .inl (ps.length + 1) := by rw [HP.out, parseL_miss hn HR0.out]; simp
        have HPB := Lib.hid hpb
        clear hn hc hpb
        go_wp2_with fail
        refine HR.out.mono ?_
        rintro e w2 ⟨hb2, st, u, rfl, hou, _⟩
        have HB2 := Lib.hid (HB1.out.trans (hb2.mono HB1.out.size))
        obtain ⟨ua, uc, rfl, _, _⟩ := hou.reads
        simp only [stc]
        clear hb2 hou
        go_wp2_with fail
        all_goals
          go_ret3
          exact ⟨HB2.out.alloc HB2.out.size _, _, [], by rw [HPB.out]; simp [pnum, perr], StAt.nil, by rw [HPB.out]; rfl⟩
      · rw [hc]
        have HR := Lib.hid (ReadLine_calls p w1 (HW.out.below HB1.out) (by simp at hlen; omega))
        have hpb := HP.out.trans (parseL_hit hp _)
        clear hp hc
        cases hl : lineB p with
        | none =>
          rw [hl] at hpb HR
          have HPB := Lib.hid hpb
          clear hpb hl
          go_wp2_with fail
          refine HR.out.mono ?_
          rintro e w2 ⟨hb2, st, u, rfl, hou, _⟩
          have HB2 := Lib.hid (HB1.out.trans (hb2.mono HB1.out.size))
          obtain ⟨ua, uc, rfl, _, _⟩ := hou.reads
          simp only [stc]
          clear hb2 hou
          go_wp2_with fail
          all_goals
            go_ret3
            exact ⟨HB2.out.alloc HB2.out.size _, _, [], by rw [HPB.out]; simp [pnum, perr], StAt.nil, by rw [HPB.out]; rfl⟩
        | some st0 =>
          rw [hl] at hpb HR
          have HPB := Lib.hid hpb
          clear hpb hl
          go_wp2_with fail
          refine HR.out.mono ?_
          rintro e w2 ⟨hb2, st, u, rfl, hou, hst0⟩
          have hst0' : st = st0 := hst0
          subst hst0'
          have HS2 := Lib.hid (HS1.out.below hb2)
          have HB2 := Lib.hid (HB1.out.trans (hb2.mono HB1.out.size))
          have HOU := Lib.hid hou
          obtain ⟨ua, uc, rfl, _, _⟩ := hou.reads
          simp only [stc]
          clear hb2 hou hst0
          go_wp2_with (at_builtin; refine wpl_stp rfl _ _ 24 37 rfl Tryd.underlying24 tstep_info (by decide) (w2.alloc (.cells (stc st (.slice ua st.bytes.length uc)) 37)) w.heap.size _ ps rfl (HS2.out.below ((Below.refl _ w2).alloc (Nat.le_refl _) _)) st (.slice ua st.bytes.length uc) (World.ownsRow.alloc (OB.low HOU.out HB1.out.size) _) (by rw [show (w2.alloc (.cells (stc st (.slice ua st.bytes.length uc)) 37)).heap.size = w2.heap.size + 1 by simp]; rfl) rfl (by omega) (by have := HB2.out.size; simp; omega) ?_; intro v' w8 hst' hg'; have HST8 := Lib.hid hst'; have HG8 := Lib.hid hg'; clear hst' hg')
          go_roundw
          case rel => exact ⟨r', ps ++ [(st, .slice ua st.bytes.length uc)], rfl, by rw [HPB.out]; simp, by simp at hlen ⊢; omega, HST8.out, StAt.below_step (HS2.out.below ((Below.refl _ w2).alloc (Nat.le_refl _) _)) (Nat.le_refl _) (HB2.out.alloc HB2.out.size _) HG8.out⟩
          case measure => simp; omega
end Go.Proofs.YtefpobkkldgogaaDoor
