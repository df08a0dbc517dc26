/- Letters two by two: no program in sight. -/
import Derived.Test.YtefpobkkldgogaaDoorTaM
namespace Go.Proofs.YtefpobkkldgogaaDoor
/-- the byte of chunk k -/
def cv (zs : List UInt8) (k : Nat) : Option UInt8 :=
  match (zs.drop (2 * k)).take 2 with
  | [a, b] => match hexv a, hexv b with
    | some x, some y => some (UInt8.ofNat (x * 16 + y))
    | _, _ => none
  | _ => none
theorem cv_succ (a b : UInt8) (r : List UInt8) (k : Nat) : cv (a :: b :: r) (k + 1) = cv r k := by
  unfold cv
  rw [show 2 * (k + 1) = 2 * k + 1 + 1 by omega, List.drop_succ_cons, List.drop_succ_cons]
theorem cv_zero (a b : UInt8) (r : List UInt8) : cv (a :: b :: r) 0 = match hexv a, hexv b with
    | some x, some y => some (UInt8.ofNat (x * 16 + y))
    | _, _ => none := rfl
theorem hexP_all : ∀ n (zs : List UInt8), zs.length ≤ n → ∀ m, zs.length ≤ 2 * m → 2 * m < zs.length + 2 → (∀ k, k < m → (cv zs k).isSome = true) → hexP zs = some ((List.range m).map fun k => (cv zs k).getD 0) := by
  intro n
  induction n with
  | zero =>
    intro zs hz m h1 h2 _
    have : zs = [] := List.length_eq_zero_iff.1 (by omega)
    subst this
    have : m = 0 := by simp at h2; omega
    subst this
    rfl
  | succ n ih =>
    intro zs hz m h1 h2 hc
    match zs, hz, h1, h2, hc with
    | [], _, h1, h2, _ =>
      have : m = 0 := by simp at h2; omega
      subst this
      rfl
    | [a], _, h1, h2, hc =>
      have := hc 0 (by simp at h1; omega)
      cases this
    | a :: b :: r, hz, h1, h2, hc =>
      simp only [List.length_cons] at hz h1 h2
      obtain ⟨m', rfl⟩ : ∃ m', m = m' + 1 := ⟨m - 1, by omega⟩
      have hr := ih r (by omega) m' (by omega) (by omega) (fun k hk => by rw [← cv_succ a b r k]; exact hc (k + 1) (by omega))
      have h0 := hc 0 (by omega)
      rw [cv_zero] at h0
      unfold hexP
      rw [hr, List.range_succ_eq_map, List.map_cons, List.map_map, cv_zero]
      cases ha : hexv a with
      | none => rw [ha] at h0; cases h0
      | some x =>
        cases hb : hexv b with
        | none => rw [ha, hb] at h0; cases h0
        | some y =>
          dsimp only [Option.getD]
          congr 2
theorem hexP_bad : ∀ n (zs : List UInt8), zs.length ≤ n → ∀ k, 2 * k < zs.length → cv zs k = none → hexP zs = none := by
  intro n
  induction n with
  | zero => intro zs hz k hk; omega
  | succ n ih =>
    intro zs hz k hk hc
    match zs, hz, hk, hc with
    | [a], _, _, _ => rfl
    | a :: b :: r, hz, hk, hc =>
      simp only [List.length_cons] at hz hk
      unfold hexP
      cases k with
      | zero =>
        rw [cv_zero] at hc
        cases ha : hexv a with
        | none => rfl
        | some x =>
          cases hb : hexv b with
          | none => rfl
          | some y => rw [ha, hb] at hc; cases hc
      | succ k =>
        rw [cv_succ] at hc
        rw [ih r (by omega) k (by omega) hc]
        cases hexv a <;> cases hexv b <;> rfl

end Go.Proofs.YtefpobkkldgogaaDoor
