/- Words over this program's numbers: bytes as values, the conversion of bytes to a string, the copy of bytes, the cut of bytes. -/
import Derived.Test.YtefpobkkldgogaaDoorRows
import Derived.Test.YtefpobkkldgogaaDoorWords
namespace Go.Proofs.YtefpobkkldgogaaDoor
open Go.RowKit

def bv (xs : List UInt8) : List Value := xs.map fun x => .int .u8 (x.toNat : Int)
@[simp] theorem bv_length (xs : List UInt8) : (bv xs).length = xs.length := by simp [bv]
@[simp] theorem bv_nil : bv [] = [] := rfl
@[simp] theorem bv_cons (x : UInt8) (xs : List UInt8) : bv (x :: xs) = .int .u8 (x.toNat : Int) :: bv xs := rfl
@[simp] theorem bv_append (xs ys : List UInt8) : bv (xs ++ ys) = bv xs ++ bv ys := by simp [bv]
theorem bv_get (xs : List UInt8) (i : Nat) (h : i < xs.length) : (bv xs)[i]? = some (.int .u8 (xs[i].toNat : Int)) := by simp [bv, h]
theorem bv_take (xs : List UInt8) (k : Nat) : (bv xs).take k = bv (xs.take k) := by simp [bv, List.map_take]
theorem bv_drop (xs : List UInt8) (k : Nat) : (bv xs).drop k = bv (xs.drop k) := by simp [bv, List.map_drop]
theorem bv_one (xs : List UInt8) : ∀ u ∈ bv xs, u.oneCell' = true := by
  intro u hu
  obtain ⟨_, _, rfl⟩ := List.mem_map.1 hu
  rfl
def strOf (xs : List UInt8) : ByteArray := ⟨xs.toArray⟩
@[simp] theorem strOf_toList (xs : List UInt8) : (strOf xs).data.toList = xs := rfl
@[simp] theorem strOf_size (xs : List UInt8) : (strOf xs).size = xs.length := by simp [strOf, ByteArray.size]

/-- bytes that came in or were made: nil let in -/
abbrev RB (w : World) (A : Option Addr) (xs : List UInt8) : Prop := Reads w w.heap.size 1 A xs.length (bv xs)
/-- bytes that the call owns -/
abbrev OB (base : Nat) (w : World) (v : Value) (xs : List UInt8) : Prop := w.ownsRow base 5 1 v xs.length (bv xs)

theorem plain_addr {w : World} {a : Addr} {v : Value} (h : w.cell? a = some v) : a = ⟨a.block, a.off, none⟩ := by
  obtain ⟨b, o, s⟩ := a
  cases s with
  | none => rfl
  | some s => simp [World.cell?] at h; split at h <;> simp at h

theorem Reads.convert {w : World} {B n : Nat} {A : Option Addr} {xs : List UInt8} (h : Reads w B 1 A n (bv xs)) (c : Nat) (hn : n = xs.length) :
    (convert 33 9 (.slice A n c)).run Tryd.prog w = .ok (.string (strOf xs)) w := by
  subst hn
  rcases Nat.eq_zero_or_pos xs.length with h0 | h0
  · have : xs = [] := List.eq_nil_of_length_eq_zero h0
    subst this
    cases A with
    | none =>
      rw [run_convert_bytes_nil (P := Tryd.prog) w 33 5 Tryd.underlying33 Tryd.underlying5 _ _ _ Tryd.underlying9]
      rfl
    | some ad =>
      have hl : (loadCells ad 0).run Tryd.prog w = .ok ((([] : List Int).map (Value.int .u8)).toArray) w := by
        simpa using run_loadCells_list (P := Tryd.prog) w ad [] (fun j v hj => by simp at hj)
      have := run_bytesToString (P := Tryd.prog) w ad 0 c [] hl
      rw [run_convert_bytes_string w 33 9 5 _ _ c Tryd.underlying33 Tryd.underlying5 Tryd.underlying9]
      exact this
  · obtain ⟨ad, rfl, _, hc⟩ := h.2 h0
    have h00 := hc 0 _ (bv_get xs 0 h0)
    have hp := plain_addr h00
    simp only [Addr.add, if_true] at hp
    obtain ⟨b, o, s⟩ := ad
    simp only [Addr.mk.injEq, true_and] at hp
    subst hp
    have := run_convert_bytes_arg (P := Tryd.prog) w 33 5 Tryd.underlying33 Tryd.underlying5 b o xs.length c (xs.map fun (x : UInt8) => (x.toNat : Int)) (by simp) (by
      intro i hi
      have := hc i _ (bv_get xs i hi)
      rw [show (⟨b, o, none⟩ : Addr).add i = ⟨b, o + i, none⟩ from by unfold Addr.add; split <;> simp_all] at this
      rw [this]
      simp [List.getD, hi]) 9 Tryd.underlying9
    rw [this]
    simp [strOfNums, strOf, Function.comp_def]

theorem Reads.take {w : World} {B n m : Nat} {A : Option Addr} {xs : List UInt8} (h : Reads w B 1 A n (bv xs)) (hm : m ≤ n) : Reads w B 1 A m (bv (xs.take m)) := by
  refine ⟨by have := h.1; simp at this ⊢; omega, fun h0 => ?_⟩
  obtain ⟨ad, e, hb, hc⟩ := h.2 (by omega)
  refine ⟨ad, e, hb, fun j u hu => hc j u ?_⟩
  rw [← bv_take, List.getElem?_take] at hu
  split at hu
  · exact hu
  · cases hu
/-- a slice that is owned reads as what it owns -/
theorem OB.reads {base : Nat} {w : World} {v : Value} {xs : List UInt8} (h : OB base w v xs) : ∃ A c, v = .slice A xs.length c ∧ xs.length ≤ c ∧ RB w A xs ∧ (∀ a, A = some a → base ≤ a.block ∧ a.block < w.heap.size) ∧ v.ownBlock = A.map (·.block) := by
  have hl := h.lt
  rcases h.2 with ⟨rfl, h0⟩ | ⟨g, cap, cur, rfl, hb, hg, hc, _⟩
  · have : xs = [] := List.eq_nil_of_length_eq_zero h0
    subst this
    exact ⟨none, 0, rfl, Nat.le_refl _, Reads.none_, fun a ha => (by cases ha), rfl⟩
  · exact ⟨some ⟨g, 0, none⟩, cap, rfl, hc, Reads.of_own h, fun a ha => by cases ha; exact hl g rfl, rfl⟩

theorem u8_info : (Tryd.prog.info? 5).map (fun i => (i.zero, i.size, i.bytes)) = some (some (.int .u8 0), 1, 1) := by kernel_rfl

/-! ### bytes that are copied -/
set_option maxHeartbeats 400000 in
theorem Copy_calls (A : Option Addr) (n c : Nat) (xs : List UInt8) (w : World) (hn : n = xs.length) (h : RB w A xs) (hl : xs.length ≤ 140737488351232) :
    Calls Tryd.prog 31 #[.slice A n c] w fun e w' => ∃ v, e = .returned v ∧ OB w.heap.size w' v xs ∧ Below w.heap.size w w' := by
  subst hn
  obtain ⟨i0, hi0, hz0, hz1, hz2⟩ := info_parts u8_info
  have ho : (w.alloc (.cells #[] 5)).ownsRow w.heap.size 5 1 (.slice (some ⟨w.heap.size, 0, none⟩) 0 0) 0 [] := World.ownsRow_made w #[] 0 (Nat.le_refl _) (by simp) (by simp)
  have h' : Reads (w.alloc (.cells #[] 5)) w.heap.size 1 A xs.length (bv xs) := h.alloc (Nat.le_refl _) _
  go_enter Tryd.func31, Tryd.ntmps31
  go_wp2_with (first
    | (at_builtin
       refine wpList_append_any _ rfl (.tmp 3) (.tmp 4) _ rfl w.heap.size 5 i0 _ 1 1 Tryd.underlying33 hi0 hz0 hz1 hz2 rfl (by omega) _ 0 [] rfl
         ho w.heap.size A xs.length c (bv xs) rfl h' (bv_one xs) (by simp only [maxLen]; omega) (by omega) (by simp) ?_
       intro v1 w1 hown1 hg1 hat1
       have hbw1 : Below w.heap.size w w1 := ((Below.refl _ _).alloc (Nat.le_refl _) _).grown hg1 (by simp) (fun k hk => by cases hk; exact Nat.le_refl _)))
  go_ret
  exact ⟨v1, rfl, by simpa using hown1, hbw1⟩
end Go.Proofs.YtefpobkkldgogaaDoor
