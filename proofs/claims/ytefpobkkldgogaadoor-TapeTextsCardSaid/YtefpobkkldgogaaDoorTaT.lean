/- Steps in a row. -/
import Derived.Test.YtefpobkkldgogaaDoorTaL
namespace Go.Proofs.YtefpobkkldgogaaDoor
open Go.RowKit

/-- a row's cells: steps with their slices -/
def stl (ps : List (Stp × Value)) : List Value := ps.flatMap fun p => (stc p.1 p.2).toList
theorem stl_append (a b : List (Stp × Value)) : stl (a ++ b) = stl a ++ stl b := by simp [stl]
theorem stl_one (st : Stp) (u : Value) : stl [(st, u)] = (stc st u).toList := by simp [stl]
theorem stl_length (ps : List (Stp × Value)) : (stl ps).length = ps.length * 5 := by
  induction ps with
  | nil => rfl
  | cons p r ih =>
    have : (stl (p :: r)).length = 5 + (stl r).length := by simp [stl, stc]; omega
    rw [this, ih, List.length_cons]; omega
theorem stl_get : ∀ (ps : List (Stp × Value)) (k : Nat) (st : Stp) (u : Value) (j : Nat), ps[k]? = some (st, u) → j < 5 → (stl ps)[k * 5 + j]? = (stc st u)[j]? := by
  intro ps
  induction ps with
  | nil => intro k st u j h; simp at h
  | cons p r ih =>
    intro k st u j h hj
    have he : stl (p :: r) = (stc p.1 p.2).toList ++ stl r := by simp [stl]
    have hl : (stc p.1 p.2).toList.length = 5 := rfl
    cases k with
    | zero =>
      simp at h
      subst h
      rw [he, List.getElem?_append_left (by omega)]
      simp
    | succ k =>
      simp at h
      rw [he, List.getElem?_append_right (by omega), ← ih k st u j h hj]
      congr 1
      omega
structure StAt (base : Nat) (t : TypeId) (w : World) (v : Value) (ps : List (Stp × Value)) : Prop where
  row : w.ownsRow base t 5 v ps.length (stl ps)
  own : ∀ p ∈ ps, OB base w p.2 p.1.bytes
theorem own_apart {w : World} {b e s n b' e' s' n' : Nat} {v v' : Value} {xs xs' : List Value} (h : w.ownsRow b e s v n xs) (h' : w.ownsRow b' e' s' v' n' xs') (hne : e ≠ e') : v.ownBlock = none ∨ v.ownBlock ≠ v'.ownBlock := by
  rcases h.2 with ⟨rfl, _⟩ | ⟨g, cap, cur, rfl, _, hh, _⟩
  · exact .inl rfl
  · refine .inr fun he => ?_
    rcases h'.2 with ⟨rfl, _⟩ | ⟨g', cap', cur', rfl, _, hh', _⟩
    · simp [Value.ownBlock] at he
    · have : g = g' := by simpa [Value.ownBlock] using he
      subst this
      rw [hh] at hh'
      injection hh' with hh'
      injection hh' with _ ht
      exact hne ht
theorem StAt.nil {base t : Nat} {w : World} : StAt base t w (.slice none 0 0) [] := ⟨World.ownsRow_nil _ _ _ _, fun p hp => by simp at hp⟩
theorem StAt.kept {base t : Nat} {w w' : World} {v : Value} {ps : List (Stp × Value)} (h : StAt base t w v ps) {row : Option Nat} (hg : w.grownBy w' row) (hv : v.ownBlock = none ∨ v.ownBlock ≠ row) (hp : ∀ p ∈ ps, p.2.ownBlock = none ∨ p.2.ownBlock ≠ row) : StAt base t w' v ps :=
  ⟨World.ownsRow.kept h.row hg hv, fun p hm => World.ownsRow.kept (h.own p hm) hg (hp p hm)⟩
theorem StAt.below {base t : Nat} {w w' : World} {v : Value} {ps : List (Stp × Value)} (h : StAt base t w v ps) (hb : Below w.heap.size w w') : StAt base t w' v ps :=
  h.kept (only_of_below hb none) (none_or v) (fun p _ => none_or p.2)
theorem StAt.low {base b' t : Nat} {w : World} {v : Value} {ps : List (Stp × Value)} (h : StAt base t w v ps) (hb : b' ≤ base) : StAt b' t w v ps := by
  refine ⟨⟨h.row.1, ?_⟩, fun p hp => OB.low (h.own p hp) hb⟩
  rcases h.row.2 with hn | ⟨g, cap, cur, h1, h2, h3⟩
  · exact .inl hn
  · exact .inr ⟨g, cap, cur, h1, by omega, h3⟩
theorem Reads.new_row (w : World) (t : TypeId) (cs : Array Value) (n size : Nat) (h : cs.size = n * size) : Reads (w.alloc (.cells cs t)) (w.heap.size + 1) size (some ⟨w.heap.size, 0, none⟩) n cs.toList := by
  refine ⟨by simpa using h, fun _ => ⟨_, rfl, by simp, fun j u hu => ?_⟩⟩
  rw [addr_plain', (Blk.new w t cs).cell j]
  simpa using hu
theorem stc_one {base : Nat} {w : World} {st : Stp} {u : Value} (h : OB base w u st.bytes) : ∀ x ∈ (stc st u).toList, x.oneCell' = true := by
  obtain ⟨A, c, rfl, _⟩ := h.reads
  intro x hx
  simp only [stc, List.mem_cons, List.not_mem_nil, or_false] at hx
  rcases hx with rfl | rfl | rfl | rfl | rfl <;> rfl

section
variable {ops : Array Oper} {rest : List Oper} {o : Oper} {a : Act} {Q : Exit → Act → World → Prop} {w : World}
theorem wpl_stp (hgd : o.guard = none) (s x : Operand) (T t : TypeId) (ho : o.op = .call { callee := .builtin .append, args := #[s, x], argTypes := #[T, T] }) (hT : Tryd.prog.underlying T = some (.slice t))
    (hi : (Tryd.prog.info? t).map (fun i => (i.zero, i.size, i.bytes)) = some (some (.agg #[.int .u8 0, .slice none 0 0, .int .i64 0, .int .i32 0, .int .i64 0]), 5, 56)) (ht8 : t ≠ 5)
    (w0 : World) (base : Nat) (v : Value) (ps : List (Stp × Value)) (hs : a.eval s = v) (hst : StAt base t w0 v ps) (st : Stp) (u : Value) (hu : OB base w0 u st.bytes) (hx : a.eval x = .slice (some ⟨w0.heap.size, 0, none⟩) 1 1)
    (hw : w = w0.alloc (.cells (stc st u) t)) (hlen : ps.length ≤ 1000000) (hbase : base ≤ w0.heap.size)
    (h : ∀ v' w', StAt base t w' v' (ps ++ [(st, u)]) → w.grownBy w' v.ownBlock → wpList Tryd.prog ops Q rest (a.put o.dst v') w') : wpList Tryd.prog ops Q (o :: rest) a w := by
  subst hw
  obtain ⟨i0, hi0, hz0, hz1, hz2⟩ := info_parts hi
  have hst1 : StAt base t (w0.alloc (.cells (stc st u) t)) v ps := hst.below ((Below.refl _ w0).alloc (Nat.le_refl _) _)
  have hu1 : OB base (w0.alloc (.cells (stc st u) t)) u st.bytes := World.ownsRow.alloc hu _
  refine wpList_append_any _ hgd s x T ho base t i0 _ 5 56 hT hi0 hz0 hz1 hz2 rfl (by omega) v ps.length (stl ps) hs hst1.row _ _ 1 1 _ hx (Reads.new_row w0 t (stc st u) 1 5 rfl) (stc_one hu) (by simp only [maxLen]; omega) (by omega) (by simp; omega) ?_
  intro v' w' h1 h2 _
  refine h v' w' ⟨?_, fun p hp => ?_⟩ h2
  · rw [stl_append, stl_one, List.length_append]
    exact h1
  · rcases List.mem_append.1 hp with hp | hp
    · exact World.ownsRow.kept (hst1.own p hp) h2 (own_apart (hst1.own p hp) hst1.row ht8.symm)
    · rw [List.mem_singleton.1 hp]
      exact World.ownsRow.kept hu1 h2 (own_apart hu1 hst1.row ht8.symm)
end
theorem StAt.below_step {base t : Nat} {w0 wr w8 : World} {v : Value} {ps : List (Stp × Value)} {o : Obj} (h : StAt base t wr v ps) (hB : w0.heap.size ≤ base) (hb : Below w0.heap.size w0 wr) (hg : (wr.alloc o).grownBy w8 v.ownBlock) : Below w0.heap.size w0 w8 :=
  (hb.alloc hb.size o).grown hg (hb.alloc hb.size o).size (fun k hk => Nat.le_trans hB (h.row.lt k hk).1)
theorem tstep_info : (Tryd.prog.info? 37).map (fun i => (i.zero, i.size, i.bytes)) = some (some (.agg #[.int .u8 0, .slice none 0 0, .int .i64 0, .int .i32 0, .int .i64 0]), 5, 56) := by kernel_rfl
theorem rstep_info : (Tryd.prog.info? 42).map (fun i => (i.zero, i.size, i.bytes)) = some (some (.agg #[.int .u8 0, .slice none 0 0, .int .i64 0, .int .i32 0, .int .i64 0]), 5, 56) := by kernel_rfl
end Go.Proofs.YtefpobkkldgogaaDoor
