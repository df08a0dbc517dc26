/- Leaves: the library's bytes: Clone, IndexByte, Index, Cut. -/
import Derived.Test.YtfjlgpbplliccaaL1
import Derived.Lib.BytesEntry
namespace Go.Proofs.Ytfjlgpbplliccaa
open Go.RowKit

theorem idxB_lib (l : List UInt8) (c : UInt8) : Lib.indexByte l c = idxB l c := by
  induction l with
  | nil => rfl
  | cons x l ih =>
    unfold Lib.indexByte
    rw [ih]
    unfold idxB
    rw [List.findIdx?_cons]
    cases h : (x == c) with
    | true => simp
    | false =>
      simp only [Bool.false_eq_true, if_false]
      cases List.findIdx? (fun x => x == c) l with
      | none => simp
      | some i => simp [show ¬ ((i : Int) = -1) from by omega]

theorem run_idx {w : World} {B n : Nat} {A : Option Addr} {xs : List UInt8} (h : Reads w B 1 A n (bv xs)) (hn : n = xs.length) (c : Nat) (b : UInt8) :
    (Extern.BytealgIndexByte.indexByte #[.slice A n c, .int .u8 (b.toNat : Int)]).run Try.prog w = .ok (.int .i64 (idxB xs b)) w := by
  subst hn
  cases A with
  | none =>
    have : xs = [] := by
      rcases Nat.eq_zero_or_pos xs.length with h0 | h0
      · exact List.eq_nil_of_length_eq_zero h0
      · obtain ⟨ad, h, _⟩ := h.2 h0
        cases h
    subst this
    exact Lib.run_indexByteNil (P := Try.prog) w 0 c b.toNat
  | some ad =>
    have hl := Lib.run_loadBytesX (P := Try.prog) w (xs.map fun (x : UInt8) => (x.toNat : Int)) ad .empty (fun j x hj => by
      rw [List.getElem?_map] at hj
      obtain ⟨y, hy, rfl⟩ := Option.map_eq_some_iff.1 hj
      have h0 : 0 < xs.length := by have := (List.getElem?_eq_some_iff.1 hy).1; omega
      obtain ⟨ad', e, _, hc⟩ := h.2 h0
      injection e with e
      subst e
      exact hc j _ (by simp [bv, hy]))
    have hb : Lib.bytesOf (xs.map fun (x : UInt8) => (x.toNat : Int)) = xs := by simp [Lib.bytesOf, Function.comp_def]
    rw [hb, List.length_map] at hl
    have hs := Lib.run_indexByteString (P := Try.prog) (strOf xs) b.toNat w
    have he : (⟨ByteArray.empty.data ++ xs.toArray⟩ : ByteArray) = strOf xs := by
      apply ByteArray.ext
      show (#[] : Array UInt8) ++ xs.toArray = xs.toArray
      simp
    rw [he] at hl
    rw [show (b.toNat : Int).toNat.toUInt8 = b from by simp, show (strOf xs).data.toList = xs from rfl, idxB_lib] at hs
    change Sem.run Try.prog (do
      let b' ← Extern.Bytes.bytesOf (.slice (some ad) xs.length c)
      let c' ← Extern.Bytes.asByte (.int .u8 (b.toNat : Int))
      match (List.range b'.size).find? fun i => b'[i]! == c' with
      | some i => pure (goInt i)
      | none => pure (goInt (-1))) w = _
    change Sem.run Try.prog (do
      let b' ← Extern.Bytes.bytesOf (.string (strOf xs))
      let c' ← Extern.Bytes.asByte (.int .u8 (b.toNat : Int))
      match (List.range b'.size).find? fun i => b'[i]! == c' with
      | some i => pure (goInt i)
      | none => pure (goInt (-1))) w = _ at hs
    simp only [Extern.Bytes.bytesOf, Sem.run_bind, Sem.run_pure, hl, Result.andThen] at hs ⊢
    exact hs

set_option maxHeartbeats 400000 in
set_option maxRecDepth 100000 in
theorem IndexByte_calls (A : Option Addr) (n c : Nat) (xs : List UInt8) (b : UInt8) (w : World) (hn : n = xs.length) (h : RB w A xs) :
    Calls Try.prog 39 #[.slice A n c, .int .u8 b.toNat] w fun e w' => e = .returned (.int .i64 (idxB xs b)) ∧ w = w' := by
  subst hn
  have hi := Lib.hid (run_idx h rfl c b)
  clear h
  go_enter Try.func39, Try.ntmps39
  go_wp2
  rw [run_callFunc_extern Try.func45 (by kernel_rfl) (by kernel_rfl) (by kernel_rfl) (e := Extern.BytealgIndexByte.indexByte) (by kernel_rfl), hi.out]
  simp only [Result.andThen]
  rw [Oper.upon_value]
  go_wp2
  go_ret
  exact ⟨rfl, rfl⟩

/-- bytes.Clone: nil stays nil; else a copy of its own. -/
theorem Clone_calls (A : Option Addr) (n c : Nat) (xs : List UInt8) (w : World) (hn : n = xs.length) (h : RB w A xs) (hl : xs.length ≤ 140737488351232) :
    Calls Try.prog 20 #[.slice A n c] w fun e w' => ∃ v, e = .returned v ∧ OB w.heap.size w' v xs ∧ Below w.heap.size w w' := by
  subst hn
  obtain ⟨i0, hi0, hz0, hz1, hz2⟩ := info_parts u8_info
  have ho : (w.alloc (.cells #[] 5)).ownsRow w.heap.size 5 1 (.slice (some ⟨w.heap.size, 0, none⟩) 0 0) 0 [] := World.ownsRow_made w #[] 0 (Nat.le_refl _) (by simp) (by simp)
  have h' : Reads (w.alloc (.cells #[] 5)) w.heap.size 1 A xs.length (bv xs) := h.alloc (Nat.le_refl _) _
  cases A with
  | none =>
    have : xs = [] := by
      rcases Nat.eq_zero_or_pos xs.length with h0 | h0
      · exact List.eq_nil_of_length_eq_zero h0
      · obtain ⟨ad, h, _⟩ := h.2 h0
        cases h
    subst this
    have hn := fun w : World => Lib.run_eql_slice_nil (P := Try.prog) w
    go_enter Try.func20, Try.ntmps20
    go_wp2
    go_ret
    exact ⟨_, rfl, World.ownsRow_nil _ _ _ _, Below.refl _ _⟩
  | some ad =>
    have hn := fun w : World => Lib.run_eql_slice_nil (P := Try.prog) w
    go_enter Try.func20, Try.ntmps20
    go_wp2_with (first
      | (at_builtin
         refine wpList_append_any _ rfl (.tmp 5) (.tmp 6) _ rfl w.heap.size 5 i0 _ 1 1 Try.underlying22 hi0 hz0 hz1 hz2 rfl (by omega) _ 0 [] rfl
           ho w.heap.size (some ad) xs.length c (bv xs) rfl h' (bv_one xs) (by simp only [maxLen]; omega) (by omega) (by simp) ?_
         intro v1 w1 hown1 hg1 hat1
         have hbw1 : Below w.heap.size w w1 := ((Below.refl _ _).alloc (Nat.le_refl _) _).grown hg1 (by simp) (fun k hk => by cases hk; exact Nat.le_refl _)))
    go_ret
    exact ⟨v1, rfl, by simpa using hown1, hbw1⟩

set_option maxHeartbeats 400000 in
set_option maxRecDepth 100000 in
/-- bytes.Index at a separator of one byte. -/
theorem Index1_calls (A : Option Addr) (n c : Nat) (xs : List UInt8) (b : UInt8) (ad : Addr) (c2 : Nat) (w : World) (hn : n = xs.length) (h : RB w A xs) (hb : w.cell? ad = some (.int .u8 b.toNat)) :
    Calls Try.prog 46 #[.slice A n c, .slice (some ad) 1 c2] w fun e w' => e = .returned (.int .i64 (idxB xs b)) ∧ w = w' := by
  subst hn
  go_enter Try.func46, Try.ntmps46
  go_wp2_with fail
  refine (IndexByte_calls A _ c xs b _ rfl h).mono ?_
  rintro e w' ⟨rfl, rfl⟩
  go_wp2_with fail
  go_ret
  exact ⟨rfl, rfl⟩

set_option maxHeartbeats 400000 in
set_option maxRecDepth 100000 in
/-- bytes.Cut at a separator of one byte: not there. -/
theorem Cut1_no (A : Option Addr) (n c : Nat) (xs : List UInt8) (b : UInt8) (ad : Addr) (c2 : Nat) (w : World) (hn : n = xs.length) (h : RB w A xs) (hb : w.cell? ad = some (.int .u8 b.toNat)) (hi : idxB xs b = -1) :
    Calls Try.prog 40 #[.slice A n c, .slice (some ad) 1 c2] w fun e w' => e = .returned (.tuple #[.slice A n c, .slice none 0 0, .bool false]) ∧ w = w' := by
  subst hn
  have HI := Lib.hid hi
  clear hi
  go_enter Try.func40, Try.ntmps40
  go_wp2_with fail
  refine (Index1_calls A _ c xs b ad c2 _ rfl h hb).mono ?_
  rintro e w' ⟨rfl, rfl⟩
  rw [HI.out]
  go_wp2_with fail
  go_ret3
  exact ⟨rfl, rfl⟩

/-- where 's[k:]' begins -/
def cutA (A : Option Addr) (c k : Nat) : Option Addr := if c = k then A else A.map (·.add k)
theorem Reads.cutA {w : World} {B n : Nat} {A : Option Addr} {xs : List UInt8} (h : Reads w B 1 A n (bv xs)) {k c : Nat} (hk : k ≤ n) (hc : n ≤ c) : Reads w B 1 (cutA A c k) (n - k) (bv (xs.drop k)) := by
  have := h.cut (k := k) (cap := c) hk hc
  rw [Nat.mul_one, bv_drop] at this
  exact this
theorem cutA_block {A : Option Addr} {c k : Nat} : (cutA A c k).map (·.block) = A.map (·.block) := by
  unfold cutA
  split
  · rfl
  · cases A with
    | none => rfl
    | some a => simp [block_of_add]
set_option maxHeartbeats 400000 in
set_option maxRecDepth 100000 in
theorem Cut1_yes (A : Option Addr) (n c : Nat) (xs : List UInt8) (b : UInt8) (ad : Addr) (c2 i : Nat) (w : World) (hn : n = xs.length) (hl : n ≤ 140737488351232) (hc : n ≤ c) (h : RB w A xs) (hb : w.cell? ad = some (.int .u8 b.toNat)) (hi : idxB xs b = i) (hlt : i < n) :
    Calls Try.prog 40 #[.slice A n c, .slice (some ad) 1 c2] w fun e w' => e = .returned (.tuple #[.slice A i c, .slice (cutA A c (i + 1)) (n - (i + 1)) (c - (i + 1)), .bool true]) ∧ ∃ k, w' = w.drewN k := by
  subst hn
  have HI := Lib.hid hi
  clear hi
  go_enter Try.func40, Try.ntmps40
  go_wp2_with fail
  refine (Index1_calls A _ c xs b ad c2 _ rfl h hb).mono ?_
  rintro e w' ⟨rfl, rfl⟩
  rw [HI.out]
  go_wp2_with fail
  have e1 : IntKind.i64.wrap ((i : Int) + 1) = (i : Int) + 1 := IntWalk.i64_in _ (by omega)
  have e2 : (0 : Int) ≤ (i : Int) + 1 := by omega
  have e3 : ((i : Int) + 1).toNat = i + 1 := by omega
  have e4 : (i : Int) ≤ (c : Int) := by omega
  have e5 : (i : Int) + 1 ≤ (xs.length : Int) := by omega
  have e6 : (xs.length : Int) ≤ (c : Int) := by omega
  go_quiet (fail)
  clear e1 e2 e3 e4 e5 e6
  go_wp2
  all_goals
    go_ret3
    refine ⟨?_, _, rfl⟩
    unfold cutA
    first
      | (have h : c = i + 1 := by assumption
         subst h
         rw [if_pos rfl]
         rfl)
      | (have h : ¬ c = i + 1 := by assumption
         rw [if_neg h]
         simp [Addr.add])
end Go.Proofs.Ytfjlgpbplliccaa
