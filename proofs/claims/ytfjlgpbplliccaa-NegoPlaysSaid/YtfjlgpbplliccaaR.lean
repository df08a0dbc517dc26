/- The reference's end: names, common, sorted. -/
import Derived.Test.YtfjlgpbplliccaaHr
namespace Go.Proofs.Ytfjlgpbplliccaa
open Go.RowKit

section
variable {base : Nat} {w : World} {g : Nat} {F G : Value} {c : Cfg} {s : St}

theorem take_find_none {l : List UInt8} (h : ∀ j, j < l.length → l.getD j 0 ≠ 1) : l.findIdx? (· == 1) = none := by
  rw [List.findIdx?_eq_none_iff]
  intro x hx
  obtain ⟨k, hk, rfl⟩ := List.mem_iff_getElem.1 hx
  have := h k hk
  rw [getD_lt hk] at this
  simpa using this
theorem take_find_some {l : List UInt8} {k : Nat} (hk : k < l.length) (h : ∀ j, j < k → l.getD j 0 ≠ 1) (h1 : l[k] = 1) : l.findIdx? (· == 1) = some k := by
  rw [List.findIdx?_eq_some_iff_getElem]
  refine ⟨hk, by simp [h1], fun j hj => ?_⟩
  have := h j hj
  rw [getD_lt (by omega)] at this
  simpa using this

set_option maxRecDepth 100000 in
set_option maxHeartbeats 1000000 in
theorem names_calls (A : Option Addr) (n cp : Nat) (l : List UInt8) (hn : n = l.length) (hr : RB w A l) (hl : n ≤ 1000) (hc : n ≤ cp) :
    Calls Try.prog 26 #[.slice A n cp] w fun e w' => e = .returned (.tuple #[.string (strOf (gotB l).1), .bool (gotB l).2]) ∧ ∃ k, w' = w.drewN k := by
  have HN := Lib.hid hn
  have hnl := Nat.le_of_eq hn
  have hln := Nat.le_of_eq hn.symm
  have HR := Lib.hid hr
  clear hn
  go_enter Try.func26, Try.ntmps26
  go_wp2
  go_loop [8] (fun i => ∃ k : Nat, k ≤ n ∧ i = .int .i64 k ∧ Hid (∀ j, j < k → l.getD j 0 ≠ 1)) (fun i => n - (intOf i).toNat)
  case atStart => exact ⟨0, Nat.zero_le _, rfl, Lib.hid (fun j hj => absurd hj (by omega))⟩
  case round =>
    obtain ⟨k, hk, rfl, HB⟩ := hrel
    by_cases hlt : k < n
    · have hlt' : k < l.length := by omega
      obtain ⟨ad, v, rfl, _, hx, hcc⟩ := hr.at_ hlt'
      rw [bv_get l k hlt'] at hx
      injection hx with hx
      subst hx
      obtain ⟨f, hf⟩ : ∃ f, l[k] = f := ⟨_, rfl⟩
      rw [hf] at hcc
      by_cases h1 : f = 1
      · subst h1
        have hfi := take_find_some hlt' HB.out hf
        have HG := Lib.hid (show gotB l = (l.drop (k + 1), nameOk (l.take k) && nameOk (l.drop (k + 1))) by unfold gotB; rw [hfi])
        have hr' : Reads w w.heap.size 1 (some ad) n (bv l) := by rw [HN.out]; exact HR.out
        have k1 := fun q => ((hr'.drewN q).take (m := k) (by omega)).convert (xs := l.take k) cp (by simp; omega)
        have k2 := fun q => ((hr'.drewN q).cutA (k := k + 1) (c := cp) (by omega) hc).convert (xs := l.drop (k + 1)) (cp - (k + 1)) (by simp; omega)
        have hs1 : (l.take k).length ≤ 1000 := by simp; omega
        have hs2 : (l.drop (k + 1)).length ≤ 1000 := by simp; omega
        have hcc1 : w.cell? (ad.add k) = some (.int .u8 1) := hcc
        have e1 : IntKind.i64.wrap ((k : Int) + 1) = (k : Int) + 1 := IntWalk.i64_in _ (by omega)
        have e2 : (0 : Int) ≤ (k : Int) + 1 := by omega
        have e3 : ((k : Int) + 1).toNat = k + 1 := by omega
        have e4 : (k : Int) + 1 ≤ (n : Int) := by omega
        have e5 : (k : Int) ≤ (cp : Int) := by omega
        clear hfi hr hf hcc hr'
        cases hn1 : nameOk (l.take k)
        · have HN1 := Lib.hid (fun W => RName_calls (l.take k) W (by omega))
          have HG2 := Lib.hid (show gotB l = (l.drop (k + 1), false) by rw [HG.out, hn1]; rfl)
          rw [hn1] at HN1
          clear hn1
          go_wp2_with fail
          go_quiet ((go_at_call 21; exact quiet_left (HN1.out _)))
          go_wp2_with fail
          go_ret2
          exact ⟨by rw [HG2.out]; rfl, _, rfl⟩
        · have HN1 := Lib.hid (fun W => RName_calls (l.take k) W (by omega))
          have HN2 := Lib.hid (fun W => RName_calls (l.drop (k + 1)) W (by omega))
          have HG2 := Lib.hid (show gotB l = (l.drop (k + 1), nameOk (l.drop (k + 1))) by rw [HG.out, hn1]; rfl)
          rw [hn1] at HN1
          clear hn1
          obtain ⟨l1, hl1⟩ : ∃ x, l.take k = x := ⟨_, rfl⟩
          obtain ⟨l2, hl2⟩ : ∃ x, l.drop (k + 1) = x := ⟨_, rfl⟩
          rw [hl1] at HN1 k1
          rw [hl2] at HN2 k2 HG2
          clear hl1 hl2
          go_wp2_with fail
          go_quiet ((go_at_call 21; first | (with_reducible exact quiet_left (HN1.out _)) | (with_reducible exact quiet_left (HN2.out _))))
          go_wp2_with fail
          go_ret2
          exact ⟨by rw [HG2.out]; rfl, _, rfl⟩
      · have HB2 := Lib.hid (all_lt_succ (p := fun j => l.getD j 0 ≠ 1) HB.out (by show l.getD k 0 ≠ 1; rw [getD_lt hlt', hf]; exact h1))
        obtain ⟨a1, b1⟩ := tne8 (K := 1) h1 rfl
        clear h1 hf HB
        go_wp2_with fail
        go_round
        case rel => exact ⟨k + 1, by omega, by go_num, HB2⟩
        case measure => simp [intOf]; omega
    · have hfi := take_find_none (l := l) (fun j hj => HB.out j (by omega))
      have HG := Lib.hid (show gotB l = ([], false) by unfold gotB; rw [hfi])
      clear hfi HB
      go_wp2_with fail
      go_ret2
      exact ⟨by rw [HG.out]; rfl, 0, rfl⟩

def onceTo (l : List UInt8) (k : Nat) : Bool := (List.range k).all fun i => !inB (l.take i) (l.getD i 0)
theorem onceTo_succ (l : List UInt8) (k : Nat) : onceTo l (k + 1) = (onceTo l k && !inB (l.take k) (l.getD k 0)) := by
  unfold onceTo; rw [List.range_succ, List.all_append]; simp

set_option maxRecDepth 100000 in
set_option maxHeartbeats 2000000 in
theorem common_calls (h : EndAt base 40 w g F G c s) (A : Option Addr) (n cp : Nat) (l : List UInt8) (hn : n = l.length) (hr : RB w A l) (hl : n ≤ 1000) (hc : n ≤ cp) :
    Calls Try.prog 27 #[.pointer (some ⟨g, 0, none⟩), .slice A n cp] w fun e w' => ∃ v, e = .returned (.tuple #[v, .bool (ownB c.fns l), .bool (onceB l)]) ∧ OB w.heap.size w' v (commonB c.fns l) ∧ Below w.heap.size w w' := by
  have HN := Lib.hid hn
  have hnl := Nat.le_of_eq hn
  have hln := Nat.le_of_eq hn.symm
  have HR := Lib.hid hr
  have HE := Lib.hid h
  obtain ⟨AF, cF, rfl, hcF, _, _, _⟩ := h.fns.reads
  have hfl := h.cs.2.2
  clear hn h hr
  go_enter Try.func27, Try.ntmps27
  go_wp2
  go_loopw [7, 8, 9, 14] (fun cm al on i wr => ∃ k : Nat, k ≤ n ∧ i = .int .i64 k ∧ al = .bool (ownB c.fns (l.take k)) ∧ on = .bool (onceTo l k) ∧ Hid (OB w.heap.size wr cm (commonB c.fns (l.take k)) ∧ Below w.heap.size w wr)) (fun _ _ _ i _ => n - (intOf i).toNat)
  case atStart => exact ⟨0, Nat.zero_le _, rfl, by simp [ownB], by simp [onceTo], World.ownsRow_nil _ _ _ _, Below.refl _ _⟩
  case round =>
    obtain ⟨k, hk, rfl, rfl, rfl, H⟩ := hrel
    by_cases hlt : k < n
    · have hlt' : k < l.length := by omega
      have hrw : Reads wr w.heap.size 1 A n (bv l) := by rw [HN.out]; exact HR.out.below H.out.2
      obtain ⟨ad, v, rfl, _, hx, hcc⟩ := hrw.at_ hlt
      rw [bv_get l k hlt'] at hx
      injection hx with hx
      subst hx
      obtain ⟨f, hf⟩ : ∃ f, l[k] = f := ⟨_, rfl⟩
      rw [hf] at hcc
      have hcom : commonB c.fns (l.take (k + 1)) = commonB c.fns (l.take k) ++ (if inB c.fns f then [f] else []) := by
        unfold commonB
        rw [List.take_succ_eq_append_getElem hlt', List.filter_append, hf]
        by_cases hif : inB c.fns f = true <;> simp [hif]
      have howt : ownB c.fns (l.take (k + 1)) = (ownB c.fns (l.take k) && inB c.fns f) := by
        unfold ownB
        rw [List.take_succ_eq_append_getElem hlt', List.all_append, hf]
        simp
      have hont : onceTo l (k + 1) = (onceTo l k && !inB (l.take k) f) := by rw [onceTo_succ, getD_lt hlt', hf]
      have hin1 := Lib.hid (in_calls (some ad) k cp (l.take k) f wr (by simp; omega) (by show Reads _ _ _ _ _ _; rw [List.length_take, Nat.min_eq_left (by omega)]; exact (hrw.take (m := k) (by omega)).more H.out.2.size) (by simp; omega))
      have hin2 := Lib.hid (in_calls AF c.fns.length cF c.fns f wr rfl (Reads.of_own (HE.out.below H.out.2).fns) (by omega))
      have c2 := (HE.out.below H.out.2).cells.2.2.1
      have HHOW := Lib.hid howt
      have HHON := Lib.hid hont
      have HHCO := Lib.hid hcom
      have ek : (k : Int) ≤ (cp : Int) := by omega
      obtain ⟨ow, hoo⟩ : ∃ b, ownB c.fns (l.take k) = b := ⟨_, rfl⟩
      obtain ⟨on, hno⟩ : ∃ b, onceTo l k = b := ⟨_, rfl⟩
      obtain ⟨b1, hb1⟩ : ∃ b, inB (l.take k) f = b := ⟨_, rfl⟩
      obtain ⟨b2, hb2⟩ : ∃ b, inB c.fns f = b := ⟨_, rfl⟩
      rw [hoo, hno]
      rw [hoo, hb2] at HHOW
      rw [hno, hb1] at HHON
      rw [hb2] at HHCO hin2
      rw [hb1] at hin1
      have hclen : (commonB c.fns (l.take k)).length ≤ 1000 := Nat.le_trans (List.length_filter_le (inB c.fns) (l.take k)) (Nat.le_trans (List.length_take_le _ _) (by omega))
      have hcm := H.out.1
      obtain ⟨xs, hxs⟩ : ∃ x, commonB c.fns (l.take k) = x := ⟨_, rfl⟩
      rw [hxs] at HHCO hcm hclen
      have HL2 := Lib.hid (Reads.of_own (OB.lit wr wr.heap.size (Nat.le_refl _) [f] (by simp) #[.int .u8 (f.toNat : Int)] rfl 1 rfl))
      have HCM := Lib.hid (hcm.alloc (.cells #[.int .u8 (f.toNat : Int)] 5))
      have HXS := Lib.hid hcm
      have hsz := H.out.2.size
      clear hf hcom howt hont hoo hno hb1 hb2 hcm hxs hrw
      cases on
      · cases b2
        · go_wp2_with (first
            | (go_at_call 38; with_reducible refine hin2.out.mono ?_; rintro e w1 ⟨rfl, rfl⟩))
          go_roundw
          case rel => exact ⟨k + 1, by omega, by go_num, by rw [HHOW.out]; simp, by rw [HHON.out]; simp, by rw [HHCO.out]; simpa using HXS.out, H.out.2⟩
          case measure => simp [intOf]; omega
        · go_wp2_with (first
            | (go_at_call 38; with_reducible refine hin2.out.mono ?_; rintro e w1 ⟨rfl, rfl⟩)
            | (go_at_call 38; with_reducible refine hin1.out.mono ?_; rintro e w1 ⟨rfl, rfl⟩)
            | (at_builtin
               refine wpl_app rfl (.tmp 35) (.tmp 37) rfl w.heap.size _ xs rfl HCM.out _ _ 1 1 [f] rfl rfl HL2.out (by simp; omega) (by simp; omega) ?_
               intro v1 w3 hown1 hg1 hat1))
          have hb3 : Below w.heap.size w w3 := (H.out.2.alloc hsz _).grown hg1 (by simp; omega) (fun q hq => (HCM.out.lt q hq).1)
          go_roundw
          case rel => exact ⟨k + 1, by omega, by go_num, by rw [HHOW.out]; simp, by rw [HHON.out]; simp, by rw [HHCO.out]; exact hown1, hb3⟩
          case measure => simp [intOf]; omega
      · cases b2
        · go_wp2_with (first
            | (go_at_call 38; with_reducible refine hin2.out.mono ?_; rintro e w1 ⟨rfl, rfl⟩)
            | (go_at_call 38; with_reducible refine hin1.out.mono ?_; rintro e w1 ⟨rfl, rfl⟩))
          go_roundw
          case rel => exact ⟨k + 1, by omega, by go_num, by rw [HHOW.out]; simp, by rw [HHON.out]; simp, by rw [HHCO.out]; simpa using HXS.out, H.out.2⟩
          case measure => simp [intOf]; omega
        · go_wp2_with (first
            | (go_at_call 38; with_reducible refine hin2.out.mono ?_; rintro e w1 ⟨rfl, rfl⟩)
            | (go_at_call 38; with_reducible refine hin1.out.mono ?_; rintro e w1 ⟨rfl, rfl⟩)
            | (at_builtin
               refine wpl_app rfl (.tmp 35) (.tmp 37) rfl w.heap.size _ xs rfl HCM.out _ _ 1 1 [f] rfl rfl HL2.out (by simp; omega) (by simp; omega) ?_
               intro v1 w3 hown1 hg1 hat1))
          have hb3 : Below w.heap.size w w3 := (H.out.2.alloc hsz _).grown hg1 (by simp; omega) (fun q hq => (HCM.out.lt q hq).1)
          go_roundw
          case rel => exact ⟨k + 1, by omega, by go_num, by rw [HHOW.out]; simp, by rw [HHON.out]; simp, by rw [HHCO.out]; exact hown1, hb3⟩
          case measure => simp [intOf]; omega
    · have HK := Lib.hid (show l.take k = l from List.take_of_length_le (by omega))
      have HKL := Lib.hid (show k = l.length by omega)
      go_wp2_with fail
      go_ret3
      refine ⟨_, ?_, (by have := H.out.1; rw [HK.out] at this; exact this), H.out.2⟩
      rw [HK.out, HKL.out]; rfl

set_option maxRecDepth 100000 in
set_option maxHeartbeats 2000000 in
theorem sorted_calls (A : Option Addr) (n cp : Nat) (l : List UInt8) (hn : n = l.length) (hr : RB w A l) (hl : n ≤ 1000) :
    Calls Try.prog 28 #[.slice A n cp] w fun e w' => ∃ v, e = .returned v ∧ OB w.heap.size w' v (sortedB l) ∧ Below w.heap.size w w' := by
  have HN := Lib.hid hn
  have HR := Lib.hid hr
  clear hn hr
  go_enter Try.func28, Try.ntmps28
  go_wp2
  go_loopw [3, 4] (fun cm i wr => ∃ k : Nat, k ≤ 5 ∧ i = .int .u8 k ∧ Hid (OB w.heap.size wr cm (([0, 1, 2, 3, 4].take k).filter (inB l)) ∧ Below w.heap.size w wr)) (fun _ i _ => 5 - (intOf i).toNat)
  case atStart => exact ⟨0, Nat.zero_le _, rfl, World.ownsRow_nil _ _ _ _, Below.refl _ _⟩
  case round =>
    obtain ⟨k, hk, rfl, H⟩ := hrel
    by_cases hlt : k < 5
    · obtain ⟨f, hf⟩ : ∃ f : UInt8, f = UInt8.ofNat k := ⟨_, rfl⟩
      have hfk : (f.toNat : Int) = (k : Int) := by rw [hf]; simp; omega
      have hcom : ([0, 1, 2, 3, 4].take (k + 1)).filter (inB l) = ([0, 1, 2, 3, 4].take k).filter (inB l) ++ (if inB l f then [f] else []) := by
        have : ([0, 1, 2, 3, 4] : List UInt8).take (k + 1) = ([0, 1, 2, 3, 4] : List UInt8).take k ++ [f] := by
          rw [hf]
          rcases (show k = 0 ∨ k = 1 ∨ k = 2 ∨ k = 3 ∨ k = 4 by omega) with rfl | rfl | rfl | rfl | rfl <;> rfl
        rw [this, List.filter_append]
        by_cases hif : inB l f = true <;> simp [hif]
      have hin := in_calls A n cp l f wr HN.out ((HR.out.below H.out.2).more H.out.2.size) (by have := HN.out; omega)
      rw [hfk] at hin
      obtain ⟨b, hb⟩ : ∃ b, inB l f = b := ⟨_, rfl⟩
      rw [hb] at hin hcom
      have hcm := H.out.1
      have hclen : (([0, 1, 2, 3, 4].take k).filter (inB l)).length ≤ 1000 := Nat.le_trans (List.length_filter_le _ _) (Nat.le_trans (List.length_take_le _ _) (by omega))
      obtain ⟨xs, hxs⟩ : ∃ x, ([0, 1, 2, 3, 4].take k).filter (inB l) = x := ⟨_, rfl⟩
      rw [hxs] at hcom hcm hclen
      have HIN := Lib.hid hin
      have HCO := Lib.hid hcom
      have hl2 := Reads.of_own (OB.lit wr wr.heap.size (Nat.le_refl _) [f] (by simp) #[.int .u8 (f.toNat : Int)] rfl 1 rfl)
      rw [hfk] at hl2
      have HL2 := Lib.hid hl2
      have HCM := Lib.hid (hcm.alloc (.cells #[.int .u8 (k : Int)] 5))
      have HXS := Lib.hid hcm
      have hsz := H.out.2.size
      clear hin hcom hl2 hcm hxs hb hf hfk
      cases b
      · go_wp2_with fail
        refine HIN.out.mono ?_
        rintro e w1 ⟨rfl, rfl⟩
        go_wp2_with fail
        go_roundw
        case rel => exact ⟨k + 1, by omega, by go_num, by rw [HCO.out]; simpa using HXS.out, H.out.2⟩
        case measure => simp [intOf]; omega
      · go_wp2_with fail
        refine HIN.out.mono ?_
        rintro e w1 ⟨rfl, rfl⟩
        go_wp2_with (first
          | (at_builtin
             refine wpl_app rfl (.tmp 12) (.tmp 14) rfl w.heap.size _ xs rfl HCM.out _ _ 1 1 [f] rfl rfl HL2.out (by simp; omega) (by simp; omega) ?_
             intro v1 w3 hown1 hg1 hat1))
        have hb3 : Below w.heap.size w w3 := (H.out.2.alloc hsz _).grown hg1 (by simp; omega) (fun q hq => (HCM.out.lt q hq).1)
        go_roundw
        case rel => exact ⟨k + 1, by omega, by go_num, by rw [HCO.out]; exact hown1, hb3⟩
        case measure => simp [intOf]; omega
    · have HK := Lib.hid (show k = 5 by omega)
      go_wp2_with fail
      go_ret
      exact ⟨_, rfl, (by have := H.out.1; rw [HK.out] at this; exact this), H.out.2⟩
end
end Go.Proofs.Ytfjlgpbplliccaa
