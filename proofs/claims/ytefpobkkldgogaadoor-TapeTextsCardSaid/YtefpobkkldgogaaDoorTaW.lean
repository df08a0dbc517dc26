/- Steps carried over, and held against each other. -/
import Derived.Test.YtefpobkkldgogaaDoorTaV
namespace Go.Proofs.YtefpobkkldgogaaDoor
open Go.RowKit

/-- a slice value that reads as bytes in blocks below B -/
def BV (B : Nat) (w : World) (v : Value) (xs : List UInt8) : Prop := ∃ A c, v = .slice A xs.length c ∧ xs.length ≤ c ∧ Reads w B 1 A xs.length (bv xs)
theorem BV.of_own {base : Nat} {w : World} {v : Value} {xs : List UInt8} (h : OB base w v xs) : BV w.heap.size w v xs := by
  obtain ⟨A, c, h1, h2, h3, _⟩ := h.reads
  exact ⟨A, c, h1, h2, h3⟩
theorem BV.below {B : Nat} {w w' : World} {v : Value} {xs : List UInt8} (h : BV B w v xs) (hb : Below B w w') : BV B w' v xs := by
  obtain ⟨A, c, h1, h2, h3⟩ := h
  exact ⟨A, c, h1, h2, h3.below hb⟩
theorem BV.more {B B' : Nat} {w : World} {v : Value} {xs : List UInt8} (h : BV B w v xs) (hb : B ≤ B') : BV B' w v xs := by
  obtain ⟨A, c, h1, h2, h3⟩ := h
  exact ⟨A, c, h1, h2, h3.more hb⟩
structure StR (w : World) (A : Option Addr) (n : Nat) (ps : List (Stp × Value)) : Prop where
  len : n = ps.length
  row : Reads w w.heap.size 5 A n (stl ps)
  el : ∀ p ∈ ps, BV w.heap.size w p.2 p.1.bytes
theorem StAt.toR {base t : Nat} {w : World} {A : Option Addr} {n c : Nat} {ps : List (Stp × Value)} (h : StAt base t w (.slice A n c) ps) : StR w A n ps := by
  obtain ⟨A', c', he, _, hr⟩ := h.slice
  injection he with h1 h2 _
  subst h1 h2
  exact ⟨rfl, hr, fun p hp => BV.of_own (h.own p hp)⟩
theorem StR.below {w w' : World} {A : Option Addr} {n : Nat} {ps : List (Stp × Value)} (h : StR w A n ps) (hb : Below w.heap.size w w') : StR w' A n ps :=
  ⟨h.len, (h.row.below hb).more hb.size, fun p hp => ((h.el p hp).below hb).more hb.size⟩
structure StB (B base : Nat) (t : TypeId) (w : World) (v : Value) (ps : List (Stp × Value)) : Prop where
  row : w.ownsRow base t 5 v ps.length (stl ps)
  el : ∀ p ∈ ps, BV B w p.2 p.1.bytes
theorem StB.slice {B base t : Nat} {w : World} {v : Value} {ps : List (Stp × Value)} (h : StB B base t w v ps) : ∃ A c, v = .slice A ps.length c ∧ ps.length ≤ c ∧ Reads w w.heap.size 5 A ps.length (stl ps) := by
  rcases h.row.2 with ⟨rfl, h0⟩ | ⟨g, cap, cur, rfl, hb, hg, hc, _⟩
  · have : ps = [] := List.eq_nil_of_length_eq_zero h0
    subst this
    exact ⟨none, 0, rfl, Nat.le_refl _, Reads.none_⟩
  · exact ⟨some ⟨g, 0, none⟩, cap, rfl, hc, Reads.of_own h.row⟩
theorem StB.toR {B base t : Nat} {w : World} {A : Option Addr} {n c : Nat} {ps : List (Stp × Value)} (h : StB B base t w (.slice A n c) ps) (hB : B ≤ w.heap.size) : StR w A n ps := by
  obtain ⟨A', c', he, _, hr⟩ := h.slice
  injection he with h1 h2 _
  subst h1 h2
  exact ⟨rfl, hr, fun p hp => (h.el p hp).more hB⟩
theorem bv_cellone {B : Nat} {w : World} {st : Stp} {u : Value} (h : BV B w u st.bytes) : ∀ x ∈ (stc st u).toList, x.oneCell' = true := by
  obtain ⟨A, c, rfl, _⟩ := h
  intro x hx
  simp only [stc, List.mem_cons, List.not_mem_nil, or_false] at hx
  rcases hx with rfl | rfl | rfl | rfl | rfl <;> rfl
section
variable {ops : Array Oper} {rest : List Oper} {o : Oper} {a : Act} {Q : Exit → Act → World → Prop} {w : World}
theorem wpl_stb (hgd : o.guard = none) (s x : Operand) (T t : TypeId) (ho : o.op = .call { callee := .builtin .append, args := #[s, x], argTypes := #[T, T] }) (hT : Tryd.prog.underlying T = some (.slice t))
    (hi : (Tryd.prog.info? t).map (fun i => (i.zero, i.size, i.bytes)) = some (some (.agg #[.int .u8 0, .slice none 0 0, .int .i64 0, .int .i32 0, .int .i64 0]), 5, 56))
    (w0 : World) (B base : Nat) (hBb : B ≤ base) (v : Value) (ps : List (Stp × Value)) (hs : a.eval s = v) (hst : StB B base t w0 v ps) (st : Stp) (u : Value) (hu : BV B w0 u st.bytes) (hx : a.eval x = .slice (some ⟨w0.heap.size, 0, none⟩) 1 1)
    (hw : w = w0.alloc (.cells (stc st u) t)) (hlen : ps.length ≤ 1000000) (hbase : base ≤ w0.heap.size)
    (h : ∀ v' w', StB B base t w' v' (ps ++ [(st, u)]) → w.grownBy w' v.ownBlock → wpList Tryd.prog ops Q rest (a.put o.dst v') w') : wpList Tryd.prog ops Q (o :: rest) a w := by
  subst hw
  obtain ⟨i0, hi0, hz0, hz1, hz2⟩ := info_parts hi
  have hal : Below base w0 (w0.alloc (.cells (stc st u) t)) := (Below.refl _ w0).alloc hbase _
  have hr1 := World.ownsRow.alloc hst.row (.cells (stc st u) t)
  refine wpList_append_any _ hgd s x T ho base t i0 _ 5 56 hT hi0 hz0 hz1 hz2 rfl (by omega) v ps.length (stl ps) hs hr1 _ _ 1 1 _ hx (Reads.new_row w0 t (stc st u) 1 5 rfl) (bv_cellone hu) (by simp only [maxLen]; omega) (by omega) (by simp; omega) ?_
  intro v' w' h1 h2 _
  have hb2 : Below B w0 w' := (Below.refl B w0).alloc (by omega) (.cells (stc st u) t) |>.grown h2 (by simp; omega) (fun k hk => by have := (hr1.lt k hk).1; omega)
  refine h v' w' ⟨?_, fun p hp => ?_⟩ h2
  · rw [stl_append, stl_one, List.length_append]
    exact h1
  · rcases List.mem_append.1 hp with hp | hp
    · exact (hst.el p hp).below hb2
    · rw [List.mem_singleton.1 hp]
      exact hu.below hb2
end
theorem StB.below_step {B base t : Nat} {w0 wr w8 : World} {v : Value} {ps : List (Stp × Value)} {o : Obj} (h : StB B base t wr v ps) (hB : w0.heap.size ≤ base) (hb : Below w0.heap.size w0 wr) (hg : (wr.alloc o).grownBy w8 v.ownBlock) : Below w0.heap.size w0 w8 :=
  (hb.alloc hb.size o).grown hg (hb.alloc hb.size o).size (fun k hk => Nat.le_trans hB (h.row.lt k hk).1)
theorem StB.below' {B base t : Nat} {w w' : World} {v : Value} {ps : List (Stp × Value)} (h : StB B base t w v ps) (hb : Below w.heap.size w w') (hB : B ≤ w.heap.size) : StB B base t w' v ps :=
  ⟨World.ownsRow.kept h.row (only_of_below hb none) (none_or v), fun p hp => (h.el p hp).below (hb.mono hB)⟩
/-- the cells of step k -/
theorem StR.cells {w : World} {A : Option Addr} {n : Nat} {ps : List (Stp × Value)} (h : StR w A n ps) {k : Nat} (hk : k < n) : ∃ ad st u, A = some ad ∧ ad.block < w.heap.size ∧ ps[k]? = some (st, u) ∧ BV w.heap.size w u st.bytes ∧
    w.cell? (ad.add (k * 5)) = some (.int .u8 (st.kind.toNat : Int)) ∧ w.cell? ⟨(ad.add (k * 5)).block, (ad.add (k * 5)).off + 1, none⟩ = some u ∧ w.cell? ⟨(ad.add (k * 5)).block, (ad.add (k * 5)).off + 2, none⟩ = some (.int .i64 st.k1) ∧
    w.cell? ⟨(ad.add (k * 5)).block, (ad.add (k * 5)).off + 3, none⟩ = some (.int .i32 st.k2) ∧ w.cell? ⟨(ad.add (k * 5)).block, (ad.add (k * 5)).off + 4, none⟩ = some (.int .i64 st.k3) := by
  obtain ⟨ad, e, hb, hc⟩ := h.row.2 (by omega)
  have hlen := h.len
  obtain ⟨⟨st, u⟩, hp⟩ : ∃ p, ps[k]? = some p := ⟨ps[k]'(by omega), List.getElem?_eq_getElem _⟩
  have hel := h.el _ (List.mem_of_getElem? hp)
  have hg : ∀ j, j < 5 → ∀ x, (stc st u)[j]? = some x → w.cell? ((ad.add (k * 5)).add j) = some x := fun j hj x hx => by
    rw [add_of_add]
    exact hc _ _ ((stl_get ps k st u j hp hj).trans hx)
  refine ⟨ad, st, u, e, hb, hp, hel, ?_, hg 1 (by omega) _ rfl, hg 2 (by omega) _ rfl, hg 3 (by omega) _ rfl, hg 4 (by omega) _ rfl⟩
  have := hg 0 (by omega) (.int .u8 (st.kind.toNat : Int)) rfl
  rwa [show ∀ x : Addr, x.add 0 = x from fun x => by unfold Addr.add; rfl] at this

set_option maxRecDepth 100000 in
set_option maxHeartbeats 2000000 in
theorem back_calls (A : Option Addr) (n c : Nat) (ps : List (Stp × Value)) (w : World) (h : StR w A n ps) (hn : n ≤ 1000000) :
    Calls Tryd.prog 10 #[.slice A n c] w fun e w' => ∃ v, e = .returned v ∧ StB w.heap.size w.heap.size 42 w' v ps ∧ Below w.heap.size w w' := by
  have H := Lib.hid h
  clear h
  go_enter Tryd.func10, Tryd.ntmps10
  go_wp2_with fail
  go_loopw [3, 8] (fun v i wr => ∃ k : Nat, k ≤ n ∧ i = .int .i64 k ∧ StB w.heap.size w.heap.size 42 wr v (ps.take k) ∧ Below w.heap.size w wr) (fun _ i _ => n - (intOf i).toNat)
  case atStart => exact ⟨0, Nat.zero_le _, rfl, ⟨World.ownsRow_nil _ _ _ _, fun p hp => by simp at hp⟩, Below.refl _ _⟩
  case round =>
    obtain ⟨k, hk, rfl, hst, hb⟩ := hrel
    have HST := Lib.hid hst
    have HB := Lib.hid hb
    clear hst hb
    obtain ⟨va, vc, rfl, _, _⟩ := HST.out.slice
    have HTL : Hid ((ps.take k).length = k) := Lib.hid (by have := H.out.len; simp; omega)
    rw [HTL.out] at HST ⊢
    by_cases hlt : k < n
    · obtain ⟨ad, st, u, rfl, hadb, hp, hel, a0, a1, a2, a3, a4⟩ := H.out.cells hlt
      have c0 := (HB.out.cell (World.block_lt_of_cell? _ _ a0)).trans a0
      have c1 := (HB.out.cell (World.block_lt_of_cell? _ _ a1)).trans a1
      have c2 := (HB.out.cell (World.block_lt_of_cell? _ _ a2)).trans a2
      have c3 := (HB.out.cell (World.block_lt_of_cell? _ _ a3)).trans a3
      have c4 := (HB.out.cell (World.block_lt_of_cell? _ _ a4)).trans a4
      have HP := Lib.hid hp
      have HEL := Lib.hid (hel.below HB.out)
      obtain ⟨ua, uc, rfl, _, _⟩ := hel
      have HTK : Hid (ps.take (k + 1) = ps.take k ++ [(st, .slice ua st.bytes.length uc)]) := Lib.hid (by rw [List.take_add_one, HP.out]; rfl)
      clear a0 a1 a2 a3 a4 hp
      go_wp2_with (at_builtin; refine wpl_stb rfl _ _ 28 42 rfl Tryd.underlying28 rstep_info (wr.alloc (.cells (stc st (.slice ua st.bytes.length uc)) 37)) w.heap.size w.heap.size (Nat.le_refl _) (.slice va k vc) (ps.take k) rfl (HST.out.below' ((Below.refl _ wr).alloc (Nat.le_refl _) _) HB.out.size) st (.slice ua st.bytes.length uc) (HEL.out.below ((Below.refl _ wr).alloc HB.out.size _)) (by rw [show (wr.alloc (.cells (stc st (.slice ua st.bytes.length uc)) 37)).heap.size = wr.heap.size + 1 by simp]; rfl) rfl (by have := HTL.out; omega) (by have := HB.out.size; simp; omega) ?_; intro v' w8 hst' hg'; have HST8 := Lib.hid hst'; have HG8 := Lib.hid hg'; clear hst' hg')
      go_roundw
      case rel => exact ⟨k + 1, by omega, by go_num, by rw [HTK.out]; exact HST8.out, StB.below_step (HST.out.below' ((Below.refl _ wr).alloc (Nat.le_refl _) _) HB.out.size) (Nat.le_refl _) (HB.out.alloc HB.out.size _) HG8.out⟩
      case measure => simp [intOf]; omega
    · obtain rfl : k = n := by omega
      go_wp2_with fail
      go_ret
      refine ⟨_, rfl, ?_, HB.out⟩
      have := HST.out
      rw [List.take_of_length_le (by have := H.out.len; omega)] at this
      exact this
end Go.Proofs.YtefpobkkldgogaaDoor
