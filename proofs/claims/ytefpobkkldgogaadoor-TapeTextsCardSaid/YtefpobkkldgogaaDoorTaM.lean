/- What a text of steps is, in plain Lean: no program in sight. -/
import Derived.Test.YtefpobkkldgogaaDoorTaNum
import Derived.Lib.Split
import Derived.Lib.IndexLaws
namespace Go.Proofs.YtefpobkkldgogaaDoor
open Go.Lib

structure Stp where
  kind : UInt8
  bytes : List UInt8
  k1 : Int
  k2 : Int
  k3 : Int
def hexv (c : UInt8) : Option Nat := if 48 ≤ c.toNat ∧ c.toNat ≤ 57 then some (c.toNat - 48) else if 97 ≤ c.toNat ∧ c.toNat ≤ 102 then some (c.toNat - 87) else none
def hexP : List UInt8 → Option (List UInt8)
  | [] => some []
  | [_] => none
  | a :: b :: r => match hexv a, hexv b, hexP r with
    | some x, some y, some t => some (UInt8.ofNat (x * 16 + y) :: t)
    | _, _, _ => none
def hexB (s : List UInt8) : Option (List UInt8) := if s = [45] then some [] else if s = [] then none else hexP s
def spl (b : UInt8) : List UInt8 → List (List UInt8)
  | [] => [[]]
  | c :: r => if c = b then [] :: spl b r else match spl b r with
    | h :: t => (c :: h) :: t
    | [] => [[c]]
def keyB (a b c : List UInt8) : Option Stp :=
  match numB 64 a, numB 32 b, numB 64 c with
  | some x, some y, some z => some ⟨75, [], x, y, z⟩
  | _, _, _ => none
def lineB (s : List UInt8) : Option Stp :=
  match spl 32 s with
  | [w, x] => if w = [72] ∨ w = [79] then (hexB x).map fun p => ⟨w.headD 0, p, 0, 0, 0⟩ else none
  | [w, a, b, c] => if w = [75] then keyB a b c else none
  | _ => none
/-- the steps of lines behind those that were read; or the number of the bad line -/
def parseL : List (List UInt8) → List Stp → Nat ⊕ List Stp
  | [], acc => .inr acc
  | [last], acc => if last = [] then .inr acc else .inl (acc.length + 1)
  | l :: m :: r, acc => match lineB l with
    | some s => parseL (m :: r) (acc ++ [s])
    | none => .inl (acc.length + 1)
def parseB (s : List UInt8) : Nat ⊕ List Stp := parseL (spl 10 s) []

theorem spl_ne (b : UInt8) (s : List UInt8) : spl b s ≠ [] := by
  cases s with
  | nil => simp [spl]
  | cons c r =>
    unfold spl
    split
    · simp
    · split <;> simp
theorem spl_miss {b : UInt8} {s : List UInt8} (h : b ∉ s) : spl b s = [s] := by
  induction s with
  | nil => rfl
  | cons c r ih =>
    rw [List.mem_cons, not_or] at h
    unfold spl
    rw [if_neg (fun e => h.1 e.symm), ih h.2]
theorem spl_hit {b : UInt8} {p r : List UInt8} (h : b ∉ p) : spl b (p ++ b :: r) = p :: spl b r := by
  induction p with
  | nil => simp [spl]
  | cons c p ih =>
    rw [List.mem_cons, not_or] at h
    rw [List.cons_append]
    conv => lhs; unfold spl
    rw [if_neg (fun e => h.1 e.symm), ih h.2]
end Go.Proofs.YtefpobkkldgogaaDoor
