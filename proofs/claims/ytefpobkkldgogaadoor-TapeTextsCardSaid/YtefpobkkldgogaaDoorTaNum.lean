/- Numbers: what strconv reads, and writes back alike, is what the document's digits say. No program in sight. -/
import Derived.Lib.ParseIntB
import Derived.Lib.ItoaNum
namespace Go.Proofs.YtefpobkkldgogaaDoor
open Go.Lib

def isDig (c : UInt8) : Bool := decide (48 ≤ c.toNat) && decide (c.toNat ≤ 57)
def valF (acc : Nat) : List UInt8 → Nat
  | [] => acc
  | c :: r => valF (acc * 10 + (c.toNat - 48)) r
theorem isDig_iff {c : UInt8} : isDig c = true ↔ 48 ≤ c.toNat ∧ c.toNat ≤ 57 := by simp [isDig]
theorem valF_app (l r : List UInt8) : ∀ acc, valF acc (l ++ r) = valF (valF acc l) r := by
  induction l with
  | nil => intro acc; rfl
  | cons c l ih => intro acc; exact ih _
theorem valF_ge (l : List UInt8) : ∀ acc, acc ≤ valF acc l := by
  induction l with
  | nil => intro acc; exact Nat.le_refl _
  | cons c l ih => intro acc; exact Nat.le_trans (by omega) (ih (acc * 10 + (c.toNat - 48)))
theorem valF_pos {c : UInt8} {r : List UInt8} (h : isDig c = true) (h0 : c ≠ 48) : 0 < valF 0 (c :: r) := by
  have h1 := isDig_iff.1 h
  have h2 : c.toNat ≠ 48 := fun e => h0 (UInt8.toNat_inj.1 e)
  have h3 := valF_ge r (0 * 10 + (c.toNat - 48))
  show 0 < valF (0 * 10 + (c.toNat - 48)) r
  omega
theorem pu_ok (M : Nat) : ∀ (l : List UInt8) (acc u : Nat), parseUintM M acc l = .ok u → l.all isDig = true ∧ u = valF acc l ∧ (l = [] ∨ u ≤ M) := by
  intro l
  induction l with
  | nil => intro acc u h; simp only [parseUintM, NumEnd.ok.injEq] at h; exact ⟨rfl, h.symm, .inl rfl⟩
  | cons c r ih =>
    intro acc u h
    unfold parseUintM at h
    split at h
    · rename_i hd
      split at h
      · cases h
      · split at h
        · cases h
        · rename_i h2
          obtain ⟨h3, h4, h5⟩ := ih _ _ h
          refine ⟨by rw [List.all_cons, h3, isDig_iff.2 hd]; rfl, h4, .inr ?_⟩
          rcases h5 with h5 | h5
          · subst h5
            have h6 : u = acc * 10 + (c.toNat - 48) := h4
            omega
          · exact h5
    · cases h
theorem pu_of {M : Nat} (hM : M < 2 ^ 64) : ∀ (l : List UInt8) (acc : Nat), l.all isDig = true → valF acc l ≤ M → parseUintM M acc l = .ok (valF acc l) := by
  intro l
  induction l with
  | nil => intro acc _ _; rfl
  | cons c r ih =>
    intro acc hd hv
    rw [List.all_cons, Bool.and_eq_true] at hd
    have h1 := isDig_iff.1 hd.1
    have h2 := valF_ge r (acc * 10 + (c.toNat - 48))
    have hv' : valF (acc * 10 + (c.toNat - 48)) r ≤ M := hv
    unfold parseUintM
    rw [if_pos h1, if_neg (by omega), if_neg (by omega)]
    exact ih _ hd.2 hv'

theorem dig_back {u : Nat} (h : u < 10) : isDig (UInt8.ofNat (48 + u)) = true ∧ (UInt8.ofNat (48 + u)).toNat = 48 + u := by
  have : (UInt8.ofNat (48 + u)).toNat = 48 + u := by simp; omega
  exact ⟨isDig_iff.2 (by omega), this⟩
theorem dec_big {u : Nat} (h : ¬ u < 10) : decDigits u = decDigits (u / 10) ++ [UInt8.ofNat (48 + u % 10)] := by rw [decDigits, dif_neg h]
theorem dec_ne (u : Nat) : decDigits u ≠ [] := by
  by_cases h : u < 10
  · rw [decDigits_one h]; simp
  · rw [dec_big h]; simp
theorem dec_all (u : Nat) : (decDigits u).all isDig = true := by
  induction u using Nat.strongRecOn with
  | _ u ih =>
    by_cases h : u < 10
    · rw [decDigits_one h]
      rw [List.all_cons, (dig_back h).1]; rfl
    · rw [dec_big h, List.all_append, ih (u / 10) (by omega), List.all_cons, (dig_back (Nat.mod_lt u (by omega : 0 < 10))).1]; rfl
theorem dec_val (u : Nat) : valF 0 (decDigits u) = u := by
  induction u using Nat.strongRecOn with
  | _ u ih =>
    by_cases h : u < 10
    · rw [decDigits_one h]
      show 0 * 10 + ((UInt8.ofNat (48 + u)).toNat - 48) = u
      rw [(dig_back h).2]; omega
    · rw [dec_big h, valF_app, ih (u / 10) (by omega)]
      show u / 10 * 10 + ((UInt8.ofNat (48 + u % 10)).toNat - 48) = u
      rw [(dig_back (Nat.mod_lt u (by omega : 0 < 10))).2]; omega
theorem dec_head (u : Nat) : (decDigits u).head? = some 48 → u = 0 := by
  induction u using Nat.strongRecOn with
  | _ u ih =>
    intro hh
    by_cases h : u < 10
    · rw [decDigits_one h] at hh
      simp only [List.head?_cons, Option.some.injEq] at hh
      have := (dig_back h).2
      rw [hh] at this
      have h48 : (48 : UInt8).toNat = 48 := rfl
      omega
    · rw [dec_big h, List.head?_append, Option.or_of_isSome (by cases hx : decDigits (u / 10) with | nil => exact absurd hx (dec_ne _) | cons => rfl)] at hh
      have := ih (u / 10) (by omega) hh
      omega
theorem dec_of (d : List UInt8) (hne : d ≠ []) (hd : d.all isDig = true) (h0 : d.head? ≠ some 48 ∨ d.length = 1) : decDigits (valF 0 d) = d := by
  induction hn : d.length generalizing d with
  | zero => exact absurd (List.length_eq_zero_iff.1 hn) hne
  | succ n ih =>
    obtain ⟨e, c, rfl⟩ : ∃ e c, d = e ++ [c] := ⟨d.dropLast, d.getLast hne, (List.dropLast_concat_getLast hne).symm⟩
    rw [List.all_append, Bool.and_eq_true] at hd
    have hc := isDig_iff.1 (show isDig c = true by simpa using hd.2)
    have hcb : UInt8.ofNat (48 + (c.toNat - 48)) = c := by
      apply UInt8.toNat_inj.1
      simp
      omega
    rw [valF_app]
    show decDigits (valF 0 e * 10 + (c.toNat - 48)) = e ++ [c]
    cases e with
    | nil =>
      show decDigits (0 * 10 + (c.toNat - 48)) = [c]
      rw [decDigits_one (by omega)]
      simp only [Nat.zero_mul, Nat.zero_add]
      rw [hcb]
    | cons x e =>
      have hx : x ≠ 48 := by
        rcases h0 with h0 | h0
        · intro e; apply h0; simp [e]
        · simp at h0
      have hxd : isDig x = true := by
        have := hd.1
        rw [List.all_cons, Bool.and_eq_true] at this
        exact this.1
      have hp : 0 < valF 0 (x :: e) := valF_pos hxd hx
      rw [dec_big (by omega)]
      rw [show (valF 0 (x :: e) * 10 + (c.toNat - 48)) / 10 = valF 0 (x :: e) by omega, show (valF 0 (x :: e) * 10 + (c.toNat - 48)) % 10 = c.toNat - 48 by omega, hcb]
      rw [ih (x :: e) (by simp) hd.1 (.inl (by simp [hx])) (by simp at hn ⊢; omega)]

/-- what the program takes for a number -/
def numB (B : Nat) (s : List UInt8) : Option Int :=
  match parseIntB B s with
  | .ok v => if itoa v = s then some v else none
  | _ => none
theorem itoa_neg {v : Int} (h : v < 0) : itoa v = 45 :: decDigits v.natAbs := by unfold itoa; rw [if_pos h]
theorem itoa_pos {v : Int} (h : ¬ v < 0) : itoa v = decDigits v.toNat := by unfold itoa; rw [if_neg h]
theorem parse_cons (B : Nat) (c : UInt8) (r : List UInt8) : parseIntB B (c :: r) = match parseUintB B (if c.toNat = 43 ∨ c.toNat = 45 then r else c :: r) with
    | NumEnd.syntax => NumEnd.syntax
    | .range => .range
    | .ok u => if ¬ c.toNat = 45 ∧ 2 ^ (B - 1) ≤ u then .range else if c.toNat = 45 ∧ 2 ^ (B - 1) < u then .range else .ok (if c.toNat = 45 then -(u : Int) else u) := rfl
theorem parse_itoa {B : Nat} (hB : 1 ≤ B) (hB2 : B ≤ 64) {v : Int} (h1 : -(2 ^ (B - 1) : Nat) ≤ v) (h2 : v < (2 ^ (B - 1) : Nat)) : parseIntB B (itoa v) = .ok v := by
  have hp : 2 ^ (B - 1) ≤ 2 ^ B - 1 := by
    have : 2 ^ B = 2 * 2 ^ (B - 1) := by rw [← Nat.pow_succ', Nat.succ_eq_add_one, show B - 1 + 1 = B by omega]
    have := Nat.two_pow_pos (B - 1)
    omega
  have hM : 2 ^ B - 1 < 2 ^ 64 := by
    have := Nat.pow_le_pow_right (show 0 < 2 by omega) hB2
    have := Nat.two_pow_pos B
    omega
  by_cases hn : v < 0
  · rw [itoa_neg hn]
    have hu := pu_of hM (decDigits v.natAbs) 0 (dec_all _) (by rw [dec_val]; omega)
    rw [dec_val] at hu
    have h45 : (45 : UInt8).toNat = 45 := rfl
    have hpu : parseUintB B (decDigits v.natAbs) = .ok v.natAbs := by unfold parseUintB; rw [if_neg (dec_ne _), hu]
    rw [parse_cons, if_pos (.inr h45), hpu]
    dsimp only
    rw [if_neg (fun h => h.1 h45), if_neg (by omega), if_pos h45]
    congr 1
    omega
  · rw [itoa_pos hn]
    have hu := pu_of hM (decDigits v.toNat) 0 (dec_all _) (by rw [dec_val]; omega)
    rw [dec_val] at hu
    have hpu : parseUintB B (decDigits v.toNat) = .ok v.toNat := by unfold parseUintB; rw [if_neg (dec_ne _), hu]
    cases hd : decDigits v.toNat with
    | nil => exact absurd hd (dec_ne _)
    | cons c r =>
      have hc : isDig c = true := by
        have := dec_all v.toNat
        rw [hd, List.all_cons, Bool.and_eq_true] at this
        exact this.1
      have hc' := isDig_iff.1 hc
      have hx : ¬ (c.toNat = 43 ∨ c.toNat = 45) := by omega
      have hy : ¬ c.toNat = 45 := by omega
      rw [hd] at hpu
      rw [parse_cons, if_neg hx, hpu]
      dsimp only
      rw [if_neg (fun h => by have := h.2; omega), if_neg (fun h => hy h.1), if_neg hy]
      congr 1
      omega
theorem parse_range {B : Nat} {s : List UInt8} {v : Int} (h : parseIntB B s = .ok v) : -(2 ^ (B - 1) : Nat) ≤ v ∧ v < (2 ^ (B - 1) : Nat) ∨ v = (0 : Int) := by
  obtain ⟨K, hK⟩ : ∃ K, 2 ^ (B - 1) = K := ⟨_, rfl⟩
  cases s with
  | nil => cases h
  | cons c r =>
    rw [parse_cons, hK] at h
    rw [hK]
    cases hp : parseUintB B (if c.toNat = 43 ∨ c.toNat = 45 then r else c :: r)
    case range => rw [hp] at h; cases h
    case ok u =>
      rw [hp] at h
      dsimp only at h
      by_cases hn : c.toNat = 45
      · rw [if_neg (by omega)] at h
        by_cases hk : K < u
        · rw [if_pos ⟨hn, hk⟩] at h; cases h
        · rw [if_neg (by omega), if_pos hn] at h
          simp only [NumEnd.ok.injEq] at h
          by_cases hz : v = 0
          · exact .inr hz
          · left; omega
      · by_cases hk : K ≤ u
        · rw [if_pos ⟨hn, hk⟩] at h; cases h
        · rw [if_neg (by omega), if_neg (by omega), if_neg hn] at h
          simp only [NumEnd.ok.injEq] at h
          left; omega
    · rw [hp] at h; cases h
theorem numB_iff {B : Nat} (hB : 1 ≤ B) (hB2 : B ≤ 64) (s : List UInt8) (v : Int) : numB B s = some v ↔ itoa v = s ∧ -(2 ^ (B - 1) : Nat) ≤ v ∧ v < (2 ^ (B - 1) : Nat) := by
  unfold numB
  constructor
  · intro h
    split at h
    · rename_i u hu
      split at h
      · rename_i he
        simp only [Option.some.injEq] at h
        subst h
        have hp := Nat.two_pow_pos (B - 1)
        rcases parse_range hu with h | h
        · exact ⟨he, h⟩
        · exact ⟨he, by omega, by omega⟩
      · cases h
    · cases h
  · rintro ⟨rfl, h1, h2⟩
    rw [parse_itoa hB hB2 h1 h2]
    simp

/-- what the document takes for a number -/
def refNum (lo hi : Int) (s : List UInt8) : Option Int :=
  if s.head? = some 45 then
    (if s.drop 1 = [] ∨ 19 < (s.drop 1).length ∨ (s.drop 1).head? = some 48 ∨ (s.drop 1).all isDig = false ∨ 2 ^ 63 < valF 0 (s.drop 1) then none
    else if lo ≤ -(valF 0 (s.drop 1) : Int) then some (-(valF 0 (s.drop 1) : Int)) else none)
  else
    (if s = [] ∨ 19 < s.length ∨ (s.head? = some 48 ∧ 1 < s.length) ∨ s.all isDig = false ∨ 2 ^ 63 < valF 0 s then none
    else if valF 0 s = 2 ^ 63 ∨ hi < (valF 0 s : Int) then none else some (valF 0 s : Int))
theorem dec_19 {u : Nat} (h : u ≤ 2 ^ 63) : (decDigits u).length ≤ 19 := by
  rw [decDigits_length]
  rcases Nat.lt_or_ge (nDigits u) 20 with h1 | h1
  · omega
  · exfalso
    have key : ∀ k u, nDigits u = k + 1 → 10 ^ k ≤ u ∨ k = 0 := by
      intro k
      induction k with
      | zero => intro u _; exact .inr rfl
      | succ k ih =>
        intro u hu
        left
        by_cases hs : u < 10
        · rw [nDigits_small hs] at hu; omega
        · rw [nDigits_big hs] at hu
          rcases ih (u / 10) (by omega) with h | h
          · rw [Nat.pow_succ]; omega
          · subst h; omega
    rcases key (nDigits u - 1) u (by omega) with h2 | h2
    · have h3 : 10 ^ 19 ≤ 10 ^ (nDigits u - 1) := Nat.pow_le_pow_right (by omega) (by omega)
      omega
    · omega
theorem refNum_iff {lo hi : Int} (hlo : -(2 ^ 63 : Nat) ≤ lo) (hlo0 : lo ≤ 0) (hhi : hi < (2 ^ 63 : Nat)) (hhi0 : 0 ≤ hi) (s : List UInt8) (v : Int) : refNum lo hi s = some v ↔ itoa v = s ∧ lo ≤ v ∧ v ≤ hi := by
  constructor
  · intro h
    unfold refNum at h
    split at h
    · rename_i hm
      split at h
      · cases h
      · rename_i hg
        split at h
        · rename_i hl
          simp only [Option.some.injEq] at h
          cases s with
          | nil => simp at hm
          | cons c d =>
            simp only [List.head?_cons, Option.some.injEq] at hm
            subst hm
            simp only [List.drop_succ_cons, List.drop_zero, not_or, Bool.not_eq_false] at hg hl h
            obtain ⟨g1, g2, g3, g4, g5⟩ := hg
            have hdec := dec_of d g1 g4 (.inl g3)
            have hpos : 0 < valF 0 d := by
              cases d with
              | nil => exact absurd rfl g1
              | cons x d =>
                rw [List.all_cons, Bool.and_eq_true] at g4
                exact valF_pos g4.1 (fun e => g3 (by simp [e]))
            subst h
            refine ⟨?_, hl, by omega⟩
            rw [itoa_neg (by omega)]
            rw [show (-(valF 0 d : Int)).natAbs = valF 0 d by omega, hdec]
        · cases h
    · rename_i hm
      split at h
      · cases h
      · rename_i hg
        split at h
        · cases h
        · rename_i hl
          simp only [Option.some.injEq] at h
          simp only [not_or, Bool.not_eq_false] at hg hl
          obtain ⟨g1, g2, g3, g4, g5⟩ := hg
          have hdec := dec_of s g1 g4 (by
            by_cases h48 : s.head? = some 48
            · right
              have h1l : ¬ 1 < s.length := fun hlt => g3 ⟨h48, hlt⟩
              have : s.length ≠ 0 := fun e => g1 (List.length_eq_zero_iff.1 e)
              omega
            · exact .inl h48)
          subst h
          refine ⟨?_, by omega, by omega⟩
          rw [itoa_pos (by omega)]
          rw [show (valF 0 s : Int).toNat = valF 0 s by omega, hdec]
  · rintro ⟨rfl, h1, h2⟩
    unfold refNum
    by_cases hn : v < 0
    · rw [itoa_neg hn]
      simp only [List.head?_cons, if_true, List.drop_succ_cons, List.drop_zero, dec_val]
      rw [if_neg]
      · rw [if_pos (by omega)]
        congr 1
        omega
      · simp only [not_or, Bool.not_eq_false]
        refine ⟨dec_ne _, ?_, fun h => by have := dec_head _ h; omega, dec_all _, by omega⟩
        have := dec_19 (u := v.natAbs) (by omega)
        omega
    · rw [itoa_pos hn]
      have hd := dec_all v.toNat
      rw [if_neg]
      · rw [if_neg, dec_val, if_neg (by omega)]
        · congr 1
          omega
        · simp only [not_or, Bool.not_eq_false, dec_val]
          refine ⟨dec_ne _, ?_, fun h => ?_, dec_all _, by omega⟩
          · have := dec_19 (u := v.toNat) (by omega)
            omega
          · have h0 := dec_head _ h.1
            rw [h0] at h
            rw [decDigits_one (by omega)] at h
            simp at h
      · intro h45
        cases hc : decDigits v.toNat with
        | nil => exact dec_ne _ hc
        | cons c r =>
          rw [hc] at hd h45
          simp only [List.head?_cons, Option.some.injEq] at h45
          subst h45
          simp [isDig] at hd
theorem num64 (s : List UInt8) : numB 64 s = refNum (-9223372036854775808) 9223372036854775807 s := by
  apply Option.ext
  intro v
  rw [numB_iff (by omega) (by omega), refNum_iff (by decide) (by decide) (by decide) (by decide)]
  constructor <;> rintro ⟨h1, h2, h3⟩ <;> refine ⟨h1, ?_, ?_⟩ <;> omega
theorem num32 (s : List UInt8) : numB 32 s = refNum (-2147483648) 2147483647 s := by
  apply Option.ext
  intro v
  rw [numB_iff (by omega) (by omega), refNum_iff (by decide) (by decide) (by decide) (by decide)]
  constructor <;> rintro ⟨h1, h2, h3⟩ <;> refine ⟨h1, ?_, ?_⟩ <;> omega
end Go.Proofs.YtefpobkkldgogaaDoor
