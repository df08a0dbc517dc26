/- Same, and texts and bytes that are cut: leaf functions of the document's side. -/
import Derived.Test.YtefpobkkldgogaaDoorB
namespace Go.Proofs.YtefpobkkldgogaaDoor
open Go.RowKit

@[simp, go_sem] theorem strOf_get (xs : List UInt8) (k : Nat) (h : k < (strOf xs).size) : (strOf xs)[k] = xs[k]'(by simpa using h) := rfl
@[simp, go_sem] theorem strOf_tl (xs : List UInt8) : (strOf xs).toList = xs := by rw [ByteArray.toList_eq]; rfl
theorem ret_bool {a b : Bool} (h : a = b) : Ending.returned (.bool a) = .returned (.bool b) := by rw [h]
theorem ret_int {k : IntKind} {a b : Int} (h : a = b) : Ending.returned (.int k a) = .returned (.int k b) := by rw [h]
theorem int_eq {k : IntKind} {a b : Int} (h : a = b) : Value.int k a = .int k b := by rw [h]

set_option maxHeartbeats 400000 in
theorem Same_calls (A1 A2 : Option Addr) (n1 c1 n2 c2 : Nat) (xs ys : List UInt8) (w : World) (hn1 : n1 = xs.length) (hn2 : n2 = ys.length) (h1 : RB w A1 xs) (h2 : RB w A2 ys) :
    Calls Tryd.prog 20 #[.slice A1 n1 c1, .slice A2 n2 c2] w fun e w' => e = .returned (.bool (xs == ys)) ∧ w = w' := by
  subst hn1 hn2
  have e1 := h1.convert c1 rfl
  have e2 := h2.convert c2 rfl
  clear h1 h2
  go_enter Tryd.func20, Tryd.ntmps20
  go_wp2
  go_ret
  exact ⟨by simp [strOf_tl], rfl⟩

/-! ### texts cut -/
theorem strOf_extract (s : List UInt8) (i j : Nat) : (strOf s).extract i j = strOf ((s.take j).drop i) := by
  apply Go.WideShapes.bytes_inj
  simp [strOf, ByteArray.extract, ByteArray.copySlice, List.drop_take]
set_option maxHeartbeats 400000 in
theorem CutText_calls (s : List UInt8) (m : Nat) (w : World) (hl : s.length ≤ 9223372036854775807) (hm : m ≤ 1000000) :
    Calls Tryd.prog 6 #[.string (strOf s), .int .i64 m] w fun e w' => e = .returned (.string (strOf (s.take m))) ∧ w = w' := by
  go_enter Tryd.func6, Tryd.ntmps6
  by_cases hlt : m < s.length
  · go_wp2
    go_ret
    exact ⟨by rw [← show (strOf s).extract 0 m = strOf (s.take m) from by rw [strOf_extract]; rfl]; rfl, rfl⟩
  · go_wp2
    go_ret
    exact ⟨by rw [List.take_of_length_le (by omega)]; rfl, rfl⟩

/-! ### bytes cut -/
set_option maxHeartbeats 400000 in
theorem Cut_calls (A : Option Addr) (n c m : Nat) (xs : List UInt8) (w : World) (hn : n = xs.length) (h : RB w A xs) (hl : xs.length ≤ 9223372036854775807) (hc : xs.length ≤ c) (hm : m ≤ 1000000) :
    Calls Tryd.prog 28 #[.slice A n c, .int .i64 m] w fun e w' => ∃ v, e = .returned v ∧ OB w.heap.size w' v (xs.take m) ∧ Below w.heap.size w w' := by
  subst hn
  go_enter Tryd.func28, Tryd.ntmps28
  by_cases hlt : m < xs.length
  · have ht := Lib.hid (show (xs.take m).length = m by simp; omega)
    go_wp2_with fail
    refine (Copy_calls A m c (xs.take m) _ ht.out.symm (by show Reads _ _ _ _ _ _; rw [ht.out]; exact h.take (by omega)) (by rw [ht.out]; omega)).mono ?_
    rintro e w1 ⟨v, rfl, ho, hb⟩
    go_wp2
    go_ret
    exact ⟨v, rfl, ho, hb⟩
  · rw [List.take_of_length_le (by omega)]
    go_wp2_with fail
    refine (Copy_calls A _ c xs _ rfl h (by omega)).mono ?_
    rintro e w1 ⟨v, rfl, ho, hb⟩
    go_wp2
    go_ret
    exact ⟨v, rfl, ho, hb⟩

/-- strings in a row, as Split leaves them -/
def sv (ls : List (List UInt8)) : List Value := ls.map fun l => .string (strOf l)
end Go.Proofs.YtefpobkkldgogaaDoor
