/- Steps that aren't too many; steps as the program has them. -/
import Derived.Test.YtefpobkkldgogaaDoorTaX
import Derived.Deep.RegionHeld3
namespace Go.Proofs.YtefpobkkldgogaaDoor
open Go.RowKit

theorem StAt.lt {base t : Nat} {w : World} {v : Value} {ps : List (Stp × Value)} (h : StAt base t w v ps) : (∀ b, v.ownBlock = some b → b < w.heap.size) ∧ ∀ p ∈ ps, ∀ b, p.2.ownBlock = some b → b < w.heap.size :=
  ⟨fun b hb => (h.row.lt b hb).2, fun p hp b hb => ((h.own p hp).lt b hb).2⟩
/-- a write into a block that is none of the row's -/
theorem StAt.set {base t : Nat} {w : World} {v : Value} {ps : List (Stp × Value)} (h : StAt base t w v ps) {g i : Nat} {u : Value} (hv : v.ownBlock ≠ some g) (hp : ∀ p ∈ ps, p.2.ownBlock ≠ some g) : StAt base t (w.setCell ⟨g, i, none⟩ u) v ps :=
  h.kept (grown_set w g i u) (.inr hv) (fun p hm => .inr (hp p hm))
def fewS (s : Stp) : Stp := ⟨s.kind, s.bytes.take 400, s.k1, s.k2, s.k3⟩
def StepsRet (t : TypeId) (l : List Stp) (w : World) (e : Ending) (w' : World) : Prop := ∃ v qs, e = .returned v ∧ StAt w.heap.size t w' v qs ∧ qs.map (·.1) = l ∧ Below w.heap.size w w'
theorem take15 {α : Type} {l : List α} {k : Nat} (h : k < 15) {s : α} (hs : l[k]? = some s) : l.take (min (k + 1) 15) = l.take (min k 15) ++ [s] := by
  rw [Nat.min_eq_left (by omega), Nat.min_eq_left (by omega), List.take_add_one, hs]
  rfl
set_option maxRecDepth 100000 in
set_option maxHeartbeats 2000000 in
theorem Few_calls (A : Option Addr) (n c : Nat) (ps : List (Stp × Value)) (w : World) (h : StR w A n ps) (hn : n ≤ 9223372036854775807) (hb : ∀ p ∈ ps, p.1.bytes.length ≤ 9223372036854775807) :
    Calls Tryd.prog 13 #[.slice A n c] w (StepsRet 42 (((ps.map (·.1)).take 15).map fewS) w) := by
  have H := Lib.hid h
  have HBL := Lib.hid hb
  clear h hb
  go_enter Tryd.func13, Tryd.ntmps13
  go_wp2_with fail
  go_loopw [3, 8] (fun v i wr => ∃ k : Nat, ∃ qs, k ≤ n ∧ i = .int .i64 k ∧ qs.map (·.1) = ((ps.map (·.1)).take (min k 15)).map fewS ∧ StAt w.heap.size 42 wr v qs ∧ Below w.heap.size w wr) (fun _ i _ => n - (intOf i).toNat)
  case atStart => exact ⟨0, [], Nat.zero_le _, rfl, by simp, StAt.nil, Below.refl _ _⟩
  case round =>
    obtain ⟨k, qs, hk, rfl, hqs, hst, hb⟩ := hrel
    have HQ := Lib.hid hqs
    have HST := Lib.hid hst
    have HB := Lib.hid hb
    clear hqs hst hb
    obtain ⟨va, vc, rfl, _, _⟩ := HST.out.slice
    by_cases hlt : k < n
    · obtain ⟨ad, st, u, rfl, hadb, hp, hel, c0, c1, c2, c3, c4⟩ := (H.out.below HB.out).cells hlt
      have hls : (ps.map (·.1))[k]? = some st := by rw [List.getElem?_map, hp]; rfl
      have HLS := Lib.hid hls
      have HBY := Lib.hid (HBL.out _ (List.mem_of_getElem? hp))
      have HEL := Lib.hid hel
      obtain ⟨ua, uc, rfl, hcap, _⟩ := hel
      clear hls hp
      by_cases h15 : (k : Int) < 15
      · have hql : qs.length = k := by
          have h1 := congrArg List.length HQ.out
          have h2 := H.out.len
          simp at h1
          omega
        rw [hql] at HST ⊢
        have HQL := Lib.hid hql
        have hal : Below wr.heap.size wr (wr.alloc (.cells #[.int .u8 (st.kind.toNat : Int), .slice ua st.bytes.length uc, .int .i64 st.k1, .int .i32 st.k2, .int .i64 st.k3] 42)) := (Below.refl _ wr).alloc (Nat.le_refl _) _
        have hx := Blk.new wr 42 #[.int .u8 (st.kind.toNat : Int), .slice ua st.bytes.length uc, .int .i64 st.k1, .int .i32 st.k2, .int .i64 st.k3]
        have HCUT := Lib.hid (Cut_calls ua st.bytes.length uc 400 st.bytes (wr.alloc (.cells #[.int .u8 (st.kind.toNat : Int), .slice ua st.bytes.length uc, .int .i64 st.k1, .int .i32 st.k2, .int .i64 st.k3] 42)) rfl (by
          obtain ⟨A', c', he, _, hr⟩ := HEL.out
          injection he with hA _ _
          subst hA
          exact (hr.below hal).more hal.size) HBY.out hcap (by omega))
        have HAL := Lib.hid hal
        have HX := Lib.hid hx
        clear hql hal hx
        go_wp2_with fail
        refine HCUT.out.mono ?_
        rintro e w1 ⟨v1, rfl, ho1, hb1⟩
        obtain ⟨a1, cp1, rfl, _, _, _, _⟩ := ho1.reads
        obtain ⟨n1, hn1⟩ : ∃ n1, (st.bytes.take 400).length = n1 := ⟨_, rfl⟩
        rw [hn1] at ho1 ⊢
        have HN1 := Lib.hid hn1
        have x1 := HX.out.below hb1 HX.out.lt
        have f1 := x1.frozen 1
        have g1 := x1.cell 1
        have HST1 := Lib.hid ((HST.out.below HAL.out).below hb1)
        have HB1 := Lib.hid (HB.out.trans ((HAL.out.trans (hb1.mono HAL.out.size)).mono HB.out.size))
        have hlt1 := x1.lt
        have X2 := Lib.hid (x1.set_ 1 (.slice a1 n1 cp1))
        have HO1 := Lib.hid ho1
        have HSZ := Lib.hid HB.out.size
        clear hn1 hb1 ho1 x1
        have HST2 : Hid (StAt w.heap.size 42 (w1.setCell ⟨wr.heap.size, 1, none⟩ (.slice a1 n1 cp1)) (.slice va k vc) qs) := Lib.hid (HST1.out.set (fun e => by have := HST.out.lt.1 _ e; omega) (fun p hp e => by have := HST.out.lt.2 p hp _ e; omega))
        have HO2 : Hid (OB w.heap.size (w1.setCell ⟨wr.heap.size, 1, none⟩ (.slice a1 n1 cp1)) (.slice a1 n1 cp1) (fewS st).bytes) := Lib.hid (by
          have h1 := HO1.out
          rw [← HN1.out] at h1 ⊢
          have h2 : OB w.heap.size w1 (.slice a1 (st.bytes.take 400).length cp1) (st.bytes.take 400) := OB.low h1 (by have := HSZ.out; simp; omega)
          exact World.ownsRow.kept h2 (grown_set w1 wr.heap.size 1 _) (.inr (fun e => by have := (h1.lt _ e).1; simp at this; omega)))
        have HB2 := Lib.hid (HB1.out.setCell (p := ⟨wr.heap.size, 1, none⟩) HSZ.out (.slice a1 n1 cp1))
        go_wp2_with (first
          | (refine wpl_load rfl 42 _ rfl wr.heap.size rfl _ _ X2.out _ Tryd.underlying42 rfl 5 (by kernel_rfl) rfl ?_)
          | (at_builtin; refine wpl_stp rfl _ _ 28 42 rfl Tryd.underlying28 rstep_info (by decide) (w1.setCell ⟨wr.heap.size, 1, none⟩ (.slice a1 n1 cp1)) w.heap.size (.slice va k vc) qs rfl HST2.out (fewS st) (.slice a1 n1 cp1) HO2.out (by rw [show (w1.setCell ⟨wr.heap.size, 1, none⟩ (.slice a1 n1 cp1)).heap.size = w1.heap.size by simp [World.setCell]]; rfl) rfl (by have := HQL.out; omega) (by have := HB2.out.size; omega) ?_; intro v' w8 hst' hg'; have HST8 := Lib.hid hst'; have HG8 := Lib.hid hg'; clear hst' hg'))
        go_roundw
        case rel => exact ⟨k + 1, qs ++ [(fewS st, .slice a1 n1 cp1)], by omega, by go_num, by rw [take15 (by omega) HLS.out, List.map_append, List.map_append, HQ.out]; rfl, HST8.out, StAt.below_step HST2.out (Nat.le_refl _) HB2.out HG8.out⟩
        case measure => simp [intOf]; omega
      · have HM : Hid (min (k + 1) 15 = min k 15) := Lib.hid (by omega)
        go_wp2_with fail
        go_roundw
        case rel => exact ⟨k + 1, qs, by omega, by go_num, by rw [HM.out]; exact HQ.out, HST.out.below ((Below.refl _ wr).alloc (Nat.le_refl _) _), HB.out.alloc HB.out.size _⟩
        case measure => simp [intOf]; omega
    · obtain rfl : k = n := by omega
      go_wp2_with fail
      go_ret
      refine ⟨_, qs, rfl, HST.out, ?_, HB.out⟩
      rw [HQ.out]
      have h2 := H.out.len
      congr 1
      rcases Nat.le_total k 15 with h | h
      · rw [Nat.min_eq_left h, List.take_of_length_le (by simp; omega), List.take_of_length_le (by simp; omega)]
        simp
      · rw [Nat.min_eq_right h]
        simp [List.map_take]
end Go.Proofs.YtefpobkkldgogaaDoor
