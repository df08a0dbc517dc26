/- The document's letters as bytes. -/
import Derived.Test.YtefpobkkldgogaaDoorTaD
import Derived.Test.YtefpobkkldgogaaDoorTaH
namespace Go.Proofs.YtefpobkkldgogaaDoor
open Go.RowKit

theorem hexv_cases {c : UInt8} {x : Nat} (h : hexv c = some x) : (48 ≤ c.toNat ∧ c.toNat ≤ 57 ∧ x = c.toNat - 48) ∨ (97 ≤ c.toNat ∧ c.toNat ≤ 102 ∧ x = c.toNat - 87) := by
  unfold hexv at h
  split at h
  · injection h with h; exact .inl ⟨by omega, by omega, h.symm⟩
  · split at h
    · injection h with h; exact .inr ⟨by omega, by omega, h.symm⟩
    · cases h
theorem hexv_bad {c : UInt8} (h : hexv c = none) : c.toNat < 48 ∨ (57 < c.toNat ∧ c.toNat < 97) ∨ 102 < c.toNat := by
  unfold hexv at h
  split at h
  · cases h
  · split at h
    · cases h
    · omega
theorem hexv_lt' {c : UInt8} {x : Nat} (h : hexv c = some x) : x < 16 := by rcases hexv_cases h with h | h <;> omega
def n16 (x y k : Nat) : Nat := match k with | 0 => 0 | 1 => x | _ => x * 16 + y
set_option maxRecDepth 100000 in
set_option maxHeartbeats 1000000 in
theorem Num2_calls (a b : UInt8) (x y : Nat) (ha : hexv a = some x) (hb : hexv b = some y) (w : World) :
    Calls Tryd.prog 63 #[.string (strOf [a, b])] w fun e w' => e = .returned (.int .i64 (x * 16 + y : Nat)) ∧ w = w' := by
  go_enter Tryd.func63, Tryd.ntmps63
  go_wp2_with fail
  go_loop [3, 4] (fun n i => ∃ k : Nat, k ≤ 2 ∧ i = .int .i64 k ∧ n = .int .i64 (n16 x y k : Nat)) (fun _ i => 2 - (intOf i).toNat)
  case atStart => exact ⟨0, by omega, rfl, rfl⟩
  case round =>
    obtain ⟨k, hk, rfl, rfl⟩ := hrel
    have hx := hexv_cases ha
    have hy := hexv_cases hb
    obtain rfl | rfl | rfl : k = 0 ∨ k = 1 ∨ k = 2 := by omega
    · clear ha hb hy
      rcases hx with ⟨h1, h2, h3⟩ | ⟨h1, h2, h3⟩
      all_goals
        go_wp2_with fail
        go_round
        case rel => exact ⟨1, by omega, rfl, int_eq (by simp only [n16]; unfold wrap64; omega)⟩
        case measure => simp [intOf]
    · clear ha hb
      have hx16 : x < 16 := by omega
      clear hx
      rcases hy with ⟨h1, h2, h3⟩ | ⟨h1, h2, h3⟩
      all_goals
        go_wp2_with fail
        go_round
        case rel => exact ⟨2, by omega, rfl, int_eq (by simp only [n16]; unfold wrap64; omega)⟩
        case measure => simp [intOf]
    · go_wp2_with fail
      go_ret
      exact ⟨rfl, rfl⟩
/-- what holds of the bytes ahead of letter k -/
def HexAt (s : List UInt8) (k : Nat) (ys : List UInt8) : Prop := (∀ j (h : j < s.length), j < k → (hexv s[j]).isSome = true) ∧ ys = (List.range (k / 2)).map fun j => (cv s j).getD 0
theorem cv_at {s : List UInt8} {j : Nat} (h : 2 * j + 1 < s.length) {x y : Nat} (hx : hexv s[2 * j] = some x) (hy : hexv s[2 * j + 1] = some y) : cv s j = some (UInt8.ofNat (x * 16 + y)) := by
  unfold cv
  rw [List.drop_eq_getElem_cons (by omega), List.drop_eq_getElem_cons (by omega)]
  simp only [List.take_succ_cons, List.take_zero, hx, hy]
theorem cv_bad {s : List UInt8} {j : Nat} (h : j < s.length) (hx : hexv s[j] = none) : cv s (j / 2) = none := by
  unfold cv
  rcases Nat.mod_two_eq_zero_or_one j with hm | hm
  · have e : 2 * (j / 2) = j := by omega
    rw [e, List.drop_eq_getElem_cons h]
    cases hd : s.drop (j + 1) with
    | nil => rfl
    | cons b r => simp [hx]
  · have e : 2 * (j / 2) + 1 = j := by omega
    rw [List.drop_eq_getElem_cons (by omega), e, List.drop_eq_getElem_cons h]
    simp only [List.take_succ_cons, List.take_zero, hx]
    cases hexv s[2 * (j / 2)] <;> rfl
theorem cv_odd {s : List UInt8} (h : s.length % 2 = 1) : cv s (s.length / 2) = none := by
  unfold cv
  rw [List.drop_eq_getElem_cons (by omega), List.drop_eq_nil_of_le (by omega)]
  rfl
def RHex (r : Option (List UInt8)) (w : World) (e : Ending) (w' : World) : Prop :=
  Below w.heap.size w w' ∧ ∃ v ys, e = .returned (.tuple #[v, .bool r.isSome]) ∧ OB w.heap.size w' v ys ∧ ∀ zs, r = some zs → ys = zs
theorem RBytes_dash (w : World) : Calls Tryd.prog 46 #[.string (strOf [45])] w (RHex (hexB [45]) w) := by
  go_enter Tryd.func46, Tryd.ntmps46
  go_wp2_with fail
  go_ret2
  exact ⟨Below.refl _ _, _, [], rfl, World.ownsRow_nil _ _ _ _, fun zs h => by cases h; rfl⟩
theorem HexAt.even {s : List UInt8} {k : Nat} {ys : List UInt8} (h : HexAt s k ys) (hk : k < s.length) {x : Nat} (hx : hexv s[k] = some x) (he : k % 2 = 0) : HexAt s (k + 1) ys := by
  refine ⟨fun j hj hjk => ?_, by rw [h.2, show (k + 1) / 2 = k / 2 by omega]⟩
  by_cases e : j = k
  · subst e; rw [hx]; rfl
  · exact h.1 j hj (by omega)
theorem HexAt.odd {s : List UInt8} {k : Nat} {ys : List UInt8} (h : HexAt s k ys) (hk : k < s.length) (hk1 : k - 1 < s.length) {x : Nat} (hx : hexv s[k] = some x) (he : k % 2 = 1) : ∃ y, hexv s[k - 1] = some y ∧ HexAt s (k + 1) (ys ++ [UInt8.ofNat (y * 16 + x)]) := by
  obtain ⟨y, hy⟩ := Option.isSome_iff_exists.1 (h.1 (k - 1) (by omega) (by omega))
  refine ⟨y, hy, fun j hj hjk => ?_, ?_⟩
  · by_cases e : j = k
    · subst e; rw [hx]; rfl
    · exact h.1 j hj (by omega)
  · have e1 : k = 2 * (k / 2) + 1 := by omega
    have hc := cv_at (s := s) (j := k / 2) (x := y) (y := x) (by omega) (by rw [← hy]; congr 2; omega) (by rw [← hx]; congr 2; omega)
    rw [show (k + 1) / 2 = k / 2 + 1 by omega, List.range_succ, List.map_append, ← h.2]
    simp [hc]
theorem HexAt.bad {s : List UInt8} {k : Nat} (hk : k < s.length) (hx : hexv s[k] = none) (hne : s ≠ [45]) : hexB s = none := by
  unfold hexB
  rw [if_neg hne]
  split
  · rfl
  · exact hexP_bad _ s (Nat.le_refl _) (k / 2) (by omega) (cv_bad hk hx)
theorem HexAt.done {s : List UInt8} {ys : List UInt8} (h : HexAt s s.length ys) (hne : s ≠ [45]) : (hexB s).isSome = (decide (0 < s.length) && decide (s.length % 2 = 0)) ∧ ∀ zs, hexB s = some zs → ys = zs := by
  unfold hexB
  rw [if_neg hne]
  by_cases h0 : s = []
  · subst h0
    exact ⟨rfl, fun zs h => by simp at h⟩
  · rw [if_neg h0]
    have hl : 0 < s.length := List.length_pos_iff.2 h0
    rcases Nat.mod_two_eq_zero_or_one s.length with hm | hm
    · have := hexP_all _ s (Nat.le_refl _) (s.length / 2) (by omega) (by omega) (fun j hj => by
        obtain ⟨x, hx⟩ := Option.isSome_iff_exists.1 (h.1 (2 * j) (by omega) (by omega))
        obtain ⟨y, hy⟩ := Option.isSome_iff_exists.1 (h.1 (2 * j + 1) (by omega) (by omega))
        rw [cv_at (by omega) hx hy]; rfl)
      rw [this]
      refine ⟨by simp [hl, hm], fun zs hz => ?_⟩
      injection hz with hz
      rw [← hz]; exact h.2
    · have := hexP_bad _ s (Nat.le_refl _) (s.length / 2) (by omega) (cv_odd hm)
      rw [this]
      exact ⟨by simp [hm], fun zs hz => by cases hz⟩
theorem OB.step {base : Nat} {w : World} {v : Value} {n : Nat} {ys : List UInt8} {z : Nat} (h : w.ownsRow base 5 1 v (n + 1) (bv ys ++ [.int .u8 (z : Int)])) (hz : z ≤ 255) (hn : n = ys.length := by rfl) : OB base w v (ys ++ [UInt8.ofNat z]) := by
  subst hn
  have e : ((UInt8.ofNat z).toNat : Int) = (z : Int) := by simp; omega
  simp only [OB, bv_append, bv_cons, bv_nil, e, List.length_append, List.length_cons, List.length_nil]
  exact h
theorem OB.below_step {w wr w8 : World} {v : Value} {ys : List UInt8} {o : Obj} {r : Option Nat} (h : OB w.heap.size wr v ys) (hb : Below w.heap.size w wr) (hg : (wr.alloc o).grownBy w8 r) (hr : r = v.ownBlock := by rfl) : Below w.heap.size w w8 := by
  subst hr
  exact (hb.alloc hb.size o).grown hg (hb.alloc hb.size o).size (fun k hk => (h.lt k hk).1)
set_option maxRecDepth 100000 in
set_option maxHeartbeats 2000000 in
theorem RBytes_calls (s : List UInt8) (w : World) (hs : s.length ≤ 1000000) (hne : s ≠ [45]) : Calls Tryd.prog 46 #[.string (strOf s)] w (RHex (hexB s) w) := by
  obtain ⟨i0, hi, hz0, hz1, hz2⟩ := info_parts u8_info
  have t0 : (s == [45]) = false := by simpa using hne
  have HNE := Lib.hid hne
  clear hne
  go_enter Tryd.func46, Tryd.ntmps46
  go_wp2_with fail
  go_loopw [4, 5] (fun v i wr => ∃ k : Nat, ∃ ys : List UInt8, k ≤ s.length ∧ i = .int .i64 k ∧ HexAt s k ys ∧ ys.length ≤ k ∧ OB w.heap.size wr v ys ∧ Below w.heap.size w wr) (fun _ i _ => s.length - (intOf i).toNat)
  case atStart => exact ⟨0, [], Nat.zero_le _, rfl, ⟨fun j _ h => by omega, rfl⟩, Nat.le_refl _, World.ownsRow_nil _ _ _ _, Below.refl _ _⟩
  case round =>
    obtain ⟨k, ys, hk, rfl, hat, hyl, hown, hb⟩ := hrel
    have HOWN := Lib.hid hown
    have HB := Lib.hid hb
    have HAT := Lib.hid hat
    clear hown hb hat
    by_cases hlt : k < s.length
    · cases hx : hexv s[k] with
      | none =>
        have hbad := hexv_bad hx
        have HX := Lib.hid hx
        clear hx
        go_wp2_with fail
        all_goals
          go_ret2
          have hn := HexAt.bad hlt HX.out HNE.out
          exact ⟨HB.out, _, [], by rw [hn]; rfl, World.ownsRow_nil _ _ _ _, fun zs h => by rw [hn] at h; cases h⟩
      | some x =>
        have hx2 := hexv_cases hx
        have HX := Lib.hid hx
        clear hx
        by_cases hpar : k % 2 = 1
        · obtain ⟨m, rfl⟩ : ∃ m, k = m + 1 := ⟨k - 1, by omega⟩
          have hm1 : m < s.length := by omega
          obtain ⟨y, hy, hat'⟩ := HAT.out.odd hlt hm1 HX.out hpar
          simp only [Nat.add_sub_cancel] at hy
          have HY := Lib.hid hy
          clear hy
          have hy16 := hexv_lt' HY.out
          have hex : (strOf s).extract m (m + 1 + 1) = strOf [s[m], s[m + 1]] := by
            rw [strOf_extract, List.take_succ_eq_append_getElem hlt, List.take_succ_eq_append_getElem (by omega), List.append_assoc, List.drop_append_of_le_length (by simp; omega), List.drop_eq_nil_of_le (by rw [List.length_take]; exact Nat.min_le_left _ _)]
            rfl
          have p1 : (((m : Int) + 1) % 2 == 1) = true := by simp; omega
          clear hpar
          have hx16 := hexv_lt' HX.out
          have hn := Num2_calls s[m] s[m + 1] y x HY.out HX.out
          obtain ⟨z, hz⟩ : ∃ z, y * 16 + x = z := ⟨_, rfl⟩
          have hz255 : z ≤ 255 := by omega
          rw [hz] at hat' hn
          have HAT' := Lib.hid hat'
          have HN := Lib.hid hn
          have HZ := Lib.hid hz
          clear hat' hn hz hx16 hy16
          go_wp2_with fail
          all_goals
            refine (HN.out _).mono ?_
            rintro e w' ⟨rfl, rfl⟩
            go_wp2_with (at_builtin; refine wpList_append_own _ rfl _ _ 33 rfl w.heap.size 5 i0 (.int .u8 0) 1 1 Tryd.underlying33 hi hz0 hz1 hz2 rfl (by decide) _ _ _ rfl (HOWN.out.alloc _) ⟨wr.heap.size, 0, none⟩ 1 1 [.int .u8 (z : Int)] rfl rfl (cell_one_new _ _ _) (by simp [Value.oneCell']) (by simp only [maxLen]; omega) (by omega) (by have := HB.out.size; simp; omega) ?_; intro v' w8 hown' hgrow _; have HO := Lib.hid hown'; have HG := Lib.hid hgrow; clear hown' hgrow)
            go_roundw
            case rel => exact ⟨m + 1 + 1, ys ++ [UInt8.ofNat z], by omega, by go_num, HAT'.out, by simp; omega, OB.step HO.out hz255, OB.below_step HOWN.out HB.out HG.out⟩
            case measure => simp [intOf]; omega
        · have p1 : ((k : Int) % 2 == 1) = false := by simp; omega
          have HP := Lib.hid hpar
          clear hpar
          go_wp2_with fail
          all_goals
            go_roundw
            case rel => exact ⟨k + 1, ys, by omega, by go_num, HAT.out.even hlt HX.out (by have := HP.out; omega), by omega, HOWN.out, HB.out⟩
            case measure => simp [intOf]; omega
    · have : k = s.length := by omega
      subst this
      by_cases h0 : s.length = 0
      · go_wp2_with fail
        all_goals
          go_ret2
          refine ⟨HB.out, _, ys, ?_, HOWN.out, (HAT.out.done HNE.out).2⟩
          rw [(HAT.out.done HNE.out).1]
          simp [h0]
      · go_wp2_with fail
        all_goals
          go_ret2
          have e : ((s.length : Int) % 2 == 0) = (hexB s).isSome := by
            rw [(HAT.out.done HNE.out).1, Bool.eq_iff_iff]
            simp
            omega
          exact ⟨HB.out, _, ys, by rw [← e]; rfl, HOWN.out, (HAT.out.done HNE.out).2⟩
end Go.Proofs.YtefpobkkldgogaaDoor
