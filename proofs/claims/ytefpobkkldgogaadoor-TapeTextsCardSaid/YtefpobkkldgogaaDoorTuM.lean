/- The text of steps, in plain Lean: of which they are read again. No program in sight. -/
import Derived.Test.YtefpobkkldgogaaDoorTaH
import Derived.Test.YtefpobkkldgogaaDoorTaS
namespace Go.Proofs.YtefpobkkldgogaaDoor
open Go.Lib

def dg (n : Nat) : UInt8 := UInt8.ofNat (if n < 10 then 48 + n else 87 + n)
def hexD (p : List UInt8) : List UInt8 := p.flatMap fun b => [dg (b.toNat / 16), dg (b.toNat % 16)]
def hexOf (p : List UInt8) : List UInt8 := if p = [] then [45] else hexD p
theorem dg_fin : ∀ x : Fin 16, hexv (dg x.val) = some x.val ∧ dg x.val ≠ 32 ∧ dg x.val ≠ 10 ∧ dg x.val ≠ 45 := by decide
theorem hexv_dg {x : Nat} (h : x < 16) : hexv (dg x) = some x := (dg_fin ⟨x, h⟩).1
theorem dg_ne {x : Nat} (h : x < 16) : dg x ≠ 32 ∧ dg x ≠ 10 ∧ dg x ≠ 45 := (dg_fin ⟨x, h⟩).2
theorem hexD_cons (b : UInt8) (r : List UInt8) : hexD (b :: r) = dg (b.toNat / 16) :: dg (b.toNat % 16) :: hexD r := rfl
theorem hexD_append (a b : List UInt8) : hexD (a ++ b) = hexD a ++ hexD b := by simp [hexD]
theorem hexD_len (p : List UInt8) : (hexD p).length = 2 * p.length := by
  induction p with
  | nil => rfl
  | cons b r ih => rw [hexD_cons]; simp [ih]; omega
theorem hexP_D (p : List UInt8) : hexP (hexD p) = some p := by
  induction p with
  | nil => rfl
  | cons b r ih =>
    have hb := b.toNat_lt
    rw [hexD_cons]
    unfold hexP
    rw [hexv_dg (by omega), hexv_dg (by omega), ih]
    dsimp only
    rw [show b.toNat / 16 * 16 + b.toNat % 16 = b.toNat by omega]
    simp
theorem hexD_mem {p : List UInt8} {c : UInt8} (h : c ∈ hexD p) : c ≠ 32 ∧ c ≠ 10 ∧ c ≠ 45 := by
  induction p with
  | nil => simp [hexD] at h
  | cons b r ih =>
    have hb := b.toNat_lt
    rw [hexD_cons] at h
    rcases List.mem_cons.1 h with rfl | h
    · exact dg_ne (by omega)
    · rcases List.mem_cons.1 h with rfl | h
      · exact dg_ne (by omega)
      · exact ih h
theorem hexOf_mem {p : List UInt8} {c : UInt8} (h : c ∈ hexOf p) : c ≠ 32 ∧ c ≠ 10 := by
  unfold hexOf at h
  split at h
  · simp at h; subst h; decide
  · exact ⟨(hexD_mem h).1, (hexD_mem h).2.1⟩
theorem hexB_of (p : List UInt8) : hexB (hexOf p) = some p := by
  unfold hexOf
  split
  · rename_i h; subst h; rfl
  · rename_i h
    obtain ⟨b, r, rfl⟩ : ∃ b r, p = b :: r := by
      cases p with
      | nil => exact absurd rfl h
      | cons b r => exact ⟨b, r, rfl⟩
    have h1 : hexD (b :: r) ≠ [45] := by
      rw [hexD_cons]
      intro e
      injection e with _ e
      cases e
    unfold hexB
    rw [if_neg h1, if_neg (by rw [hexD_cons]; simp)]
    exact hexP_D _
theorem itoa_mem {v : Int} {c : UInt8} (h : c ∈ itoa v) : c ≠ 32 ∧ c ≠ 10 := by
  have hd : ∀ u, c ∈ decDigits u → c ≠ 32 ∧ c ≠ 10 := fun u hu => by
    have := List.all_eq_true.1 (dec_all u) c hu
    have := isDig_iff.1 this
    constructor <;> (rintro rfl; simp at this)
  by_cases hv : v < 0
  · rw [itoa_neg hv] at h
    rcases List.mem_cons.1 h with rfl | h
    · decide
    · exact hd _ h
  · rw [itoa_pos hv] at h
    exact hd _ h

/-- a step's line; none: it has none -/
def lineT (s : Stp) : Option (List UInt8) :=
  if s.kind = 72 ∨ s.kind = 79 then some (s.kind :: 32 :: hexOf s.bytes)
  else if s.kind = 75 then some (75 :: 32 :: (itoa s.k1 ++ 32 :: (itoa s.k2 ++ 32 :: itoa s.k3))) else none
/-- all lines -/
def textT : List Stp → Option (List UInt8)
  | [] => some []
  | s :: r => match lineT s, textT r with
    | some a, some b => some (a ++ 10 :: b)
    | _, _ => none
def normS (s : Stp) : Stp := if s.kind = 75 then ⟨75, [], s.k1, s.k2, s.k3⟩ else ⟨s.kind, s.bytes, 0, 0, 0⟩
def inR (s : Stp) : Prop := (-9223372036854775808 ≤ s.k1 ∧ s.k1 ≤ 9223372036854775807) ∧ (-2147483648 ≤ s.k2 ∧ s.k2 ≤ 2147483647) ∧ (-9223372036854775808 ≤ s.k3 ∧ s.k3 ≤ 9223372036854775807)
theorem num64_itoa {v : Int} (h : -9223372036854775808 ≤ v ∧ v ≤ 9223372036854775807) : numB 64 (itoa v) = some v := (numB_iff (by omega) (by omega) _ _).2 ⟨rfl, by omega, by omega⟩
theorem num32_itoa {v : Int} (h : -2147483648 ≤ v ∧ v ≤ 2147483647) : numB 32 (itoa v) = some v := (numB_iff (by omega) (by omega) _ _).2 ⟨rfl, by omega, by omega⟩
theorem lineB_T {s : Stp} {t : List UInt8} (hr : inR s) (h : lineT s = some t) : lineB t = some (normS s) := by
  unfold lineT at h
  split at h
  · rename_i hk
    injection h with h
    subst h
    have hs : spl 32 (s.kind :: 32 :: hexOf s.bytes) = [[s.kind], hexOf s.bytes] := by
      have h1 : (32 : UInt8) ∉ [s.kind] := by rcases hk with hk | hk <;> rw [hk] <;> decide
      have := spl_hit (r := hexOf s.bytes) h1
      rw [show [s.kind] ++ 32 :: hexOf s.bytes = s.kind :: 32 :: hexOf s.bytes from rfl] at this
      rw [this, spl_miss (fun h => (hexOf_mem h).1 rfl)]
    unfold lineB normS
    rw [hs, if_neg (by rcases hk with hk | hk <;> rw [hk] <;> decide)]
    dsimp only
    rw [if_pos (by rcases hk with hk | hk <;> rw [hk] <;> simp), hexB_of]
    rfl
  · split at h
    · rename_i hk
      injection h with h
      subst h
      have m : ∀ v : Int, (32 : UInt8) ∉ itoa v := fun v h => (itoa_mem h).1 rfl
      have hs : spl 32 (75 :: 32 :: (itoa s.k1 ++ 32 :: (itoa s.k2 ++ 32 :: itoa s.k3))) = [[75], itoa s.k1, itoa s.k2, itoa s.k3] := by
        have := spl_hit (b := 32) (p := [75]) (r := itoa s.k1 ++ 32 :: (itoa s.k2 ++ 32 :: itoa s.k3)) (by decide)
        rw [show [(75 : UInt8)] ++ 32 :: (itoa s.k1 ++ 32 :: (itoa s.k2 ++ 32 :: itoa s.k3)) = 75 :: 32 :: (itoa s.k1 ++ 32 :: (itoa s.k2 ++ 32 :: itoa s.k3)) from rfl] at this
        rw [this, spl_hit (m _), spl_hit (m _), spl_miss (m _)]
      unfold lineB normS
      rw [hs, if_pos hk]
      dsimp only
      rw [if_pos rfl]
      unfold keyB
      rw [num64_itoa hr.1, num32_itoa hr.2.1, num64_itoa hr.2.2]
    · cases h
theorem lineT_nl {s : Stp} {t : List UInt8} (h : lineT s = some t) : (10 : UInt8) ∉ t := by
  unfold lineT at h
  split at h
  · rename_i hk
    injection h with h
    subst h
    intro hm
    rcases List.mem_cons.1 hm with e | hm
    · rcases hk with hk | hk <;> rw [hk] at e <;> exact absurd e (by decide)
    · rcases List.mem_cons.1 hm with e | hm
      · exact absurd e (by decide)
      · exact (hexOf_mem hm).2 rfl
  · split at h
    · injection h with h
      subst h
      have m : ∀ v : Int, (10 : UInt8) ∉ itoa v := fun v h => (itoa_mem h).2 rfl
      simp [m]
    · cases h
theorem parse_text : ∀ (l : List Stp), (∀ s ∈ l, inR s) → ∀ t acc, textT l = some t → parseL (spl 10 t) acc = .inr (acc ++ l.map normS) := by
  intro l
  induction l with
  | nil => intro _ t acc h; injection h with h; subst h; simp [spl, parseL]
  | cons s r ih =>
    intro hr t acc h
    unfold textT at h
    cases ha : lineT s with
    | none => rw [ha] at h; simp at h
    | some a =>
      cases hb : textT r with
      | none => rw [ha, hb] at h; simp at h
      | some b =>
        rw [ha, hb] at h
        injection h with h
        subst h
        rw [parseL_hit (lineT_nl ha), lineB_T (hr s (by simp)) ha]
        dsimp only
        rw [ih (fun x hx => hr x (by simp [hx])) b _ hb]
        simp
theorem parseB_text {l : List Stp} {t : List UInt8} (hr : ∀ s ∈ l, inR s) (h : textT l = some t) : parseB t = .inr (l.map normS) := by
  unfold parseB
  rw [parse_text l hr t [] h]
  simp
theorem itoa_len {v : Int} (h : -9223372036854775808 ≤ v ∧ v ≤ 9223372036854775807) : (itoa v).length ≤ 21 := by
  by_cases hv : v < 0
  · rw [itoa_neg hv]
    have := dec_19 (u := v.natAbs) (by omega)
    simp; omega
  · rw [itoa_pos hv]
    have := dec_19 (u := v.toNat) (by omega)
    omega
end Go.Proofs.YtefpobkkldgogaaDoor
