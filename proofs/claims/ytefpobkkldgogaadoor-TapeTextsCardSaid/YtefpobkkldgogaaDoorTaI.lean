/- slices.Chunk's iterator over bytes, two by two. -/
import Derived.RangeFuncNested
import Derived.RangeFuncBound
import Derived.RangeFuncCalls
import Derived.RangeFuncLeaves
import Derived.RangeFuncBox
import Derived.Shelf.Abstract
import Derived.Shelf.RegionOpen
import Derived.OwnWalkIn
import Derived.TacticsInMore
import Derived.LoopNIn
import Derived.LoopIn
import Derived.Sort.QuietIn
import Derived.Test.YtefpobkkldgogaaDoorTaK
import Derived.Test.YtefpobkkldgogaaDoorTaB
namespace Go.Proofs.YtefpobkkldgogaaDoor
open Go.RowKit Go.Shelf

attribute [local go_sem] Oper.semAt_some

/-- what a round keeps: the blocks from a on, ahead of b -/
def KIn (a b : Nat) (W W' : World) : Prop := ∀ i, a ≤ i → i < b → W'.heap[i]? = W.heap[i]?
theorem KIn.refl (a b : Nat) (W : World) : KIn a b W W := fun _ _ _ => rfl
theorem KIn.trans {a b : Nat} {A B C : World} (h : KIn a b A B) (k : KIn a b B C) : KIn a b A C := fun i h1 h2 => (k i h1 h2).trans (h i h1 h2)
theorem KIn.cell {a b : Nat} {W W' : World} (h : KIn a b W W') {p : Addr} (h1 : a ≤ p.block) (h2 : p.block < b) : W'.cell? p = W.cell? p := World.cell?_of_block (h _ h1 h2)
theorem KIn.drewN {a b : Nat} {W W' : World} (h : KIn a b W W') (n : Nat) : KIn a b W (W'.drewN n) := h

/-- a chunk's number, of n bytes -/
abbrev Ck (n : Nat) := { k : Nat // 2 * k < n }
def ckv (ad : Addr) (n k : Nat) : Value := .slice (some (ad.add (2 * k))) (min 2 (n - 2 * k)) (min 2 (n - 2 * k))
def cks (n j : Nat) (hj : 2 * j < n + 2) : List (Ck n) := (List.range j).attach.map fun k => ⟨k.1, by have := List.mem_range.1 k.2; omega⟩
theorem cks_len {n j : Nat} (hj : 2 * j < n + 2) : (cks n j hj).length = j := by simp [cks]
theorem cks_val {n j : Nat} (hj : 2 * j < n + 2) : (cks n j hj).map (·.1) = List.range j := by
  unfold cks
  rw [List.map_map]
  exact List.attach_map_subtype_val _

set_option maxRecDepth 100000 in
set_option maxHeartbeats 2000000 in
/-- the closure: for every loop body that keeps the blocks from a on, ahead of b. -/
theorem chunk1_in (n : Nat) (hn : 1 ≤ n) (l Bs Bn a b len cap : Nat) (ad : Addr) (hcap : len ≤ cap) (hreach : len ≤ 140737488351232) (J Jx : List (Ck len) → World → Prop) (hJd : ∀ pre W m, J pre W → J pre (W.drewN m))
    (hY : ∀ pre x W, J pre W → pre.length < len → YieldAt Fence.wide (n - 1) Tryd.prog l #[ckv ad len x.1] W fun e W' =>
      (e = .returned (.bool true) ∧ J (pre ++ [x]) W' ∧ KIn a b W W') ∨ (e = .returned (.bool false) ∧ Jx (pre ++ [x]) W'))
    (W : World) (hBs : W.cell? ⟨Bs, 0, none⟩ = some (.slice (some ad) len cap)) (hBn : W.cell? ⟨Bn, 0, none⟩ = some (.int .i64 2)) (hsa : a ≤ Bs) (hna : a ≤ Bn) (hs0 : Bs < b) (hn0 : Bn < b) (h0 : J [] W) :
    CallsIn Fence.wide n Tryd.prog 58 #[.func (.yield l) #[] #[], .pointer (some ⟨Bs, 0, none⟩), .pointer (some ⟨Bn, 0, none⟩)] W fun e W' => (∃ v, e = .returned v) ∧
      ((∃ ys : List (Ck len), (∃ j, len ≤ 2 * j ∧ ys.map (·.1) = List.range j) ∧ J ys W') ∨ (∃ pre : List (Ck len), (∃ j, pre.map (·.1) = List.range j) ∧ Jx pre W')) := by
  refine callsIn_of_wp Tryd.func58 rfl trivial ?_ rfl
  simp only [Tryd.ntmps58, List.size_toArray, List.length_cons, List.length_nil, Nat.reduceAdd, Nat.reduceSub, Array.replicate_succ, Array.replicate_zero, List.push_toArray, List.append_toArray, List.nil_append, List.cons_append]
  gi_wp2_with fail
  gi_loopw [4] (fun i wr => ∃ pre : List (Ck len), ∃ k : Nat, pre.map (·.1) = List.range k ∧ 2 * k < len + 2 ∧ i = .int .i64 (2 * k : Nat) ∧ J pre wr ∧ KIn a b W wr)
    (fun i _ => len + 2 - (intOf i).toNat)
  case atStart => exact ⟨[], 0, rfl, by omega, rfl, h0, KIn.refl _ _ _⟩
  case round =>
    obtain ⟨pre, k, hpre, hk, rfl, hJ, hnx⟩ := hrel
    have b1 := (hnx.cell (p := ⟨Bs, 0, none⟩) hsa hs0).trans hBs
    have b2 := (hnx.cell (p := ⟨Bn, 0, none⟩) hna hn0).trans hBn
    have e0 : (0 : Int) ≤ ((2 * k : Nat) : Int) := by omega
    by_cases hlt : 2 * k < len
    · obtain ⟨en, hen⟩ : ∃ en, min 2 (len - 2 * k) = en := ⟨_, rfl⟩
      have h1 : 1 ≤ en := by omega
      have h2 : en ≤ 2 := by omega
      have h3 : 2 * k + en ≤ len := by omega
      have hmin : min (2 : Int) ((len - 2 * k : Nat) : Int) = (en : Int) := by omega
      have hpl : pre.length = k := by have := congrArg List.length hpre; simpa using this
      have HE := Lib.hid hen
      have HMIN := Lib.hid hmin
      have HPRE := Lib.hid hpre
      have HPL := Lib.hid hpl
      have e1 : ((2 * k : Nat) : Int) ≤ (len : Int) := by omega
      clear hen hmin hpre hpl
      gi_wp2_with fail
      gi_quiet (fail)
      rw [HMIN.out]
      have hy0 := hY pre ⟨k, hlt⟩ (wr.drewN nq) (hJd _ _ _ hJ) (by rw [HPL.out]; omega)
      have hck : ckv ad len k = .slice (some (ad.add (2 * k))) en en := by unfold ckv; rw [HE.out]
      rw [hck] at hy0
      obtain ⟨fn, tmps, assign, body, hy, hR⟩ := hy0
      have e2 : ((2 * k : Nat) : Int) ≤ ((2 * k : Nat) : Int) + (en : Int) := by omega
      have e3 : ((2 * k : Nat) : Int) + (en : Int) ≤ (cap : Int) := by omega
      have e4 : IntKind.i64.wrap (((2 * k : Nat) : Int) + (en : Int)) = ((2 * k : Nat) : Int) + (en : Int) := IntWalk.i64_in _ (by omega)
      have c1 : (wr.drewN nq).cell? ⟨Bs, 0, none⟩ = some (.slice (some ad) len cap) := b1
      clear hY hck b1
      gi_wp2_with fail
      refine hR.mono ?_
      rintro e W3 (⟨rfl, hJ3, hk3⟩ | ⟨rfl, hJx3⟩)
      · have hnx3 : KIn a b W W3 := (hnx.drewN nq).trans hk3
        have b3 := (hnx3.cell (p := ⟨Bn, 0, none⟩) hna hn0).trans hBn
        clear b2 c1 hk3 e2 e3 e4
        gi_wp2_with fail
        go_roundw
        case rel => exact ⟨pre ++ [⟨k, hlt⟩], k + 1, by rw [List.map_append, HPRE.out, List.range_succ]; rfl, by omega, by go_num, hJ3, hnx3⟩
        case measure => simp [intOf]; omega
      · gi_wp2_with fail
        refine bodyPost_ret (results_none rfl _ _ _) rfl ?_
        exact ⟨⟨_, rfl⟩, .inr ⟨_, ⟨k + 1, by rw [List.map_append, HPRE.out, List.range_succ]; rfl⟩, hJx3⟩⟩
    · gi_wp2_with fail
      go_end0
      exact ⟨⟨_, rfl⟩, .inl ⟨_, ⟨k, by omega, hpre⟩, hJ⟩⟩

theorem chunk_stops (n : Nat) (hn : 1 ≤ n) (Bs Bn a b len cap : Nat) (ad : Addr) (hcap : len ≤ cap) (hreach : len ≤ 140737488351232) (w : World) (hBs : w.cell? ⟨Bs, 0, none⟩ = some (.slice (some ad) len cap)) (hBn : w.cell? ⟨Bn, 0, none⟩ = some (.int .i64 2)) (hsa : a ≤ Bs) (hna : a ≤ Bn) (hs0 : Bs < b) (hn0 : Bn < b) (hw : b ≤ w.heap.size) :
    SeqStopsK Fence.wide n Tryd.prog 58 #[.pointer (some ⟨Bs, 0, none⟩), .pointer (some ⟨Bn, 0, none⟩)] (fun x : Ck len => #[ckv ad len x.1]) (KIn a b) (fun ys => ∃ j, len ≤ 2 * j ∧ ys.map (·.1) = List.range j) (fun pre => ∃ j, pre.map (·.1) = List.range j) len w := fun l J Jx W hW hJ _ hY h0 =>
  chunk1_in n hn l Bs Bn a b len cap ad hcap hreach J Jx (fun pre W m h => hJ pre W _ none h (only_drewN (World.grownBy.refl _ _) m) (fun r e => by cases e)) hY W ((hW.cell (p := ⟨Bs, 0, none⟩) (Nat.lt_of_lt_of_le hs0 hw)).trans hBs) ((hW.cell (p := ⟨Bn, 0, none⟩) (Nat.lt_of_lt_of_le hn0 hw)).trans hBn) hsa hna hs0 hn0 h0

theorem Chunk_calls (A : Option Addr) (n c : Nat) (w : World) :
    Calls Tryd.prog 41 #[.slice A n c, .int .i64 2] w fun e w' => e = .returned (.func (.func 58) #[] #[.pointer (some ⟨w.heap.size, 0, none⟩), .pointer (some ⟨w.heap.size + 1, 0, none⟩)]) ∧
      w' = (w.alloc (.cells #[.slice A n c] 33)).alloc (.cells #[.int .i64 2] 3) := by
  go_enter Tryd.func41, Tryd.ntmps41
  go_wp2_with fail
  go_ret
  exact ⟨rfl, rfl⟩
end Go.Proofs.YtefpobkkldgogaaDoor
