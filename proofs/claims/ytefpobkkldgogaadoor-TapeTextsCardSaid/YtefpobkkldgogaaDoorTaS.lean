/- A text split at one byte: the library's own words, and the model's. No program in sight. -/
import Derived.Test.YtefpobkkldgogaaDoorTaM
import Derived.Lib.Split
import Derived.Lib.CountLaws
import Derived.Lib.IndexMore
namespace Go.Proofs.YtefpobkkldgogaaDoor
open Go.Lib

theorem occ_one {s : List UInt8} {b : UInt8} {i : Nat} : occAt s [b] i = true ↔ s[i]? = some b := by
  constructor
  · exact fun h => occAt_head rfl h
  · intro h
    have hi : i < s.length := (List.getElem?_eq_some_iff.1 h).1
    rw [occAt_iff_take s [b] i (by simp; omega)]
    have hx : s[i] = b := by
      rw [List.getElem?_eq_getElem hi] at h
      exact Option.some.inj h
    rw [List.drop_eq_getElem_cons hi]
    simp [hx]
theorem ix_cases (s : List UInt8) (b : UInt8) : (index s [b] = -1 ∧ b ∉ s) ∨ ∃ i : Nat, index s [b] = i ∧ i < s.length ∧ s = s.take i ++ b :: s.drop (i + 1) ∧ b ∉ s.take i := by
  rcases index_spec s [b] with ⟨h, hn⟩ | ⟨i, h, hi, ho, hno⟩
  · refine .inl ⟨h, fun hm => ?_⟩
    obtain ⟨k, hk, rfl⟩ := List.mem_iff_getElem.1 hm
    have := hn k (Nat.le_of_lt hk)
    rw [occ_one.2 (by simp [hk])] at this
    cases this
  · have hg := occ_one.1 ho
    have hlt : i < s.length := (List.getElem?_eq_some_iff.1 hg).1
    have hx : s[i] = b := by
      rw [List.getElem?_eq_getElem hlt] at hg
      exact Option.some.inj hg
    refine .inr ⟨i, h, hlt, ?_, fun hm => ?_⟩
    · rw [← hx, ← List.drop_eq_getElem_cons hlt, List.take_append_drop]
    · obtain ⟨k, hk, he⟩ := List.mem_take_iff_getElem.1 hm
      have := hno k (by omega)
      rw [occ_one.2 (by rw [← he]; simp)] at this
      cases this
theorem split_is (b : UInt8) : ∀ (n : Nat) (s : List UInt8), s.length ≤ n → splitK [b] 0 (count s [b]) s = spl b s := by
  intro n
  induction n with
  | zero =>
    intro s hs
    have : s = [] := List.length_eq_zero_iff.1 (by omega)
    subst this
    rw [count_miss (by rcases ix_cases [] b with h | ⟨i, _, h, _⟩ <;> first | exact h.1 | simp at h)]
    rfl
  | succ n ih =>
    intro s hs
    rcases ix_cases s b with ⟨h, hn⟩ | ⟨i, h, hi, he, hn⟩
    · rw [count_miss h, spl_miss hn]
      rfl
    · rw [count_hit (by simp) h, Nat.add_comm]
      have hne : ¬ (index s [b] == -1) = true := by
        rw [h]
        intro e
        have := beq_iff_eq.1 e
        omega
      conv => lhs; unfold splitK
      rw [if_neg hne, h]
      simp only [Int.toNat_natCast, Nat.add_zero, List.length_cons, List.length_nil, Nat.zero_add]
      rw [ih (s.drop (i + 1)) (by rw [List.length_drop]; omega)]
      conv => rhs; rw [he]
      rw [spl_hit hn]
theorem split_len (b : UInt8) : ∀ (n : Nat) (s : List UInt8), s.length ≤ n → (spl b s).length = count s [b] + 1 := by
  intro n
  induction n with
  | zero =>
    intro s hs
    have : s = [] := List.length_eq_zero_iff.1 (by omega)
    subst this
    rw [count_miss (by rcases ix_cases [] b with h | ⟨i, _, h, _⟩ <;> first | exact h.1 | simp at h)]
    rfl
  | succ n ih =>
    intro s hs
    rcases ix_cases s b with ⟨h, hn⟩ | ⟨i, h, hi, he, hn⟩
    · rw [count_miss h, spl_miss hn]
      rfl
    · rw [count_hit (by simp) h]
      conv => lhs; rw [he]
      rw [spl_hit hn, List.length_cons, ih (s.drop (i + 1)) (by rw [List.length_drop]; omega)]
      simp only [List.length_cons, List.length_nil, Nat.zero_add]
      omega
theorem cut_none {s : List UInt8} {b : UInt8} (h : b ∉ s) : cut s [b] = (s, [], false) := by
  rcases ix_cases s b with ⟨h1, _⟩ | ⟨i, h1, hi, he, hn⟩
  · unfold cut
    rw [h1, if_neg (by omega)]
  · exact absurd (by rw [he]; simp) h
theorem cut_some {p r : List UInt8} {b : UInt8} (h : b ∉ p) : cut (p ++ b :: r) [b] = (p, r, true) := by
  have hix : index (p ++ b :: r) [b] = (p.length : Int) := by
    refine index_first (by simp) (occ_one.2 (by simp)) fun j hj => ?_
    cases ho : occAt (p ++ b :: r) [b] j with
    | false => rfl
    | true =>
      have := occ_one.1 ho
      rw [List.getElem?_append_left hj] at this
      exact absurd (List.mem_of_getElem? this) h
  unfold cut
  rw [hix, if_pos (by omega)]
  simp
theorem cut_cases (s : List UInt8) (b : UInt8) : (b ∉ s ∧ cut s [b] = (s, [], false)) ∨ ∃ p r, b ∉ p ∧ s = p ++ b :: r ∧ cut s [b] = (p, r, true) := by
  by_cases h : b ∈ s
  · rcases ix_cases s b with ⟨h1, hn⟩ | ⟨i, h1, hi, he, hn⟩
    · exact absurd h hn
    · refine .inr ⟨_, _, hn, he, ?_⟩
      conv => lhs; rw [he]
      exact cut_some hn
  · exact .inl ⟨h, cut_none h⟩
/-- a text's last line, and those ahead of it -/
theorem parseL_miss {s : List UInt8} (h : (10 : UInt8) ∉ s) (hs : s ≠ []) (acc : List Stp) : parseL (spl 10 s) acc = .inl (acc.length + 1) := by
  rw [spl_miss h]
  simp [parseL, hs]
theorem parseL_hit {p r : List UInt8} (h : (10 : UInt8) ∉ p) (acc : List Stp) : parseL (spl 10 (p ++ 10 :: r)) acc = match lineB p with
    | some s => parseL (spl 10 r) (acc ++ [s])
    | none => .inl (acc.length + 1) := by
  rw [spl_hit h]
  cases hx : spl 10 r with
  | nil => exact absurd hx (spl_ne _ _)
  | cons m t => rfl
end Go.Proofs.YtefpobkkldgogaaDoor
