/- Whole structs in blocks: read, written. No program in sight. -/
import Derived.Test.YtefpobkkldgogaaDoorWords
import Derived.Laws.Tables
import Derived.Laws.CopyOwn
namespace Go.Proofs.YtefpobkkldgogaaDoor
open Go.RowKit

theorem addr_plain' (g j : Nat) : (⟨g, 0, none⟩ : Addr).add j = ⟨g, j, none⟩ := by unfold Addr.add; split <;> simp_all
section
variable {w : World} {g k : Nat} {t : TypeId} {cs : Array Value}
theorem Blk.row (h : Blk w g t cs) (cs' : Array Value) : Blk (w.setRow g cs') g t cs' := setRow_heap w g cs cs' t (0, 0) h
theorem Blk.row_far (h : Blk w g t cs) (hk : g ≠ k) (cs' : Array Value) : Blk (w.setRow k cs') g t cs := (setRow_other w k g cs' hk).trans h
theorem grown_row (w : World) (g : Nat) (cs' : Array Value) : w.grownBy (w.setRow g cs') (some g) :=
  ⟨rfl, rfl, rfl, by simp, fun i _ hne => setRow_other w g i cs' (fun e => hne (by rw [e]))⟩
theorem below_row {B : Nat} {a w : World} (hb : Below B a w) (hg : B ≤ g) (cs' : Array Value) : Below B a (w.setRow g cs') := below_setRow hb hg cs'
end
theorem results_row_tmp {P : Program} {fn : Func} {p u : Tmp} {ty : TypeId} (h : fn.results = #[.cell p ty, .tmp u]) (tmps : Array Value) (w : World) (g : Nat) (t : TypeId) (cs : Array Value) (fr : Nat × Nat) (d : TypeDesc)
    (hp : tmps.getD p undef = .pointer (some ⟨g, 0, none⟩)) (hg : w.heap[g]? = some (.cells cs t fr))
    (hu : P.underlying ty = some d) (hd : (match d with | .struct _ | .array _ _ => true | _ => false) = true) (hi : (P.info? ty).map (·.size) = some cs.size) :
    (results fn tmps).run P w = .ok (.tuple #[.agg cs, tmps.getD u undef]) w := by
  rw [results_cell_tmp h, hp]
  simp [asAddr, run_loadVar_row w g t ty cs fr d hg hu hd hi, Result.andThen]
def set5 (w : World) (g : Nat) (a b c d f : Value) : World := ((((w.setCell ⟨g, 0, none⟩ a).setCell ⟨g, 1, none⟩ b).setCell ⟨g, 2, none⟩ c).setCell ⟨g, 3, none⟩ d).setCell ⟨g, 4, none⟩ f
theorem Blk.set5 {w : World} {g : Nat} {t : TypeId} {x0 x1 x2 x3 x4 : Value} (h : Blk w g t #[x0, x1, x2, x3, x4]) (a b c d f : Value) : Blk (set5 w g a b c d f) g t #[a, b, c, d, f] :=
  ((((h.set_ 0 a).set_ 1 b).set_ 2 c).set_ 3 d).set_ 4 f
theorem grown_set5 (w : World) (g : Nat) (a b c d f : Value) : w.grownBy (set5 w g a b c d f) (some g) :=
  only_setCell (p := ⟨g, 4, none⟩) (only_setCell (p := ⟨g, 3, none⟩) (only_setCell (p := ⟨g, 2, none⟩) (only_setCell (p := ⟨g, 1, none⟩) (only_setCell (p := ⟨g, 0, none⟩) (World.grownBy.refl w _) (.inl rfl) a) (.inl rfl) b) (.inl rfl) c) (.inl rfl) d) (.inl rfl) f
theorem below_set5 {B : Nat} {a0 w : World} (h : Below B a0 w) {g : Nat} (hg : B ≤ g) (a b c d f : Value) : Below B a0 (set5 w g a b c d f) :=
  ((((h.setCell (p := ⟨g, 0, none⟩) hg a).setCell (p := ⟨g, 1, none⟩) hg b).setCell (p := ⟨g, 2, none⟩) hg c).setCell (p := ⟨g, 3, none⟩) hg d).setCell (p := ⟨g, 4, none⟩) hg f
theorem own_set5 {w : World} {base : Nat} {e : TypeId} {size n : Nat} {v : Value} {xs : List Value} (h : w.ownsRow base e size v n xs) {g : Nat} (hne : v.ownBlock ≠ some g) (a b c d f : Value) : (set5 w g a b c d f).ownsRow base e size v n xs :=
  World.ownsRow.kept h (grown_set5 w g a b c d f) (.inr hne)
section
variable {P : Program} {ops : Array Oper} {rest : List Oper} {o : Oper} {a : Act} {w : World} {Q : Exit → Act → World → Prop}
theorem wpl_load (hgd : o.guard = none) (ty : TypeId) (x : Operand) (ho : o.op = .load ty x) (g : Nat) (hx : a.eval x = .pointer (some ⟨g, 0, none⟩)) (t : TypeId) (cs : Array Value) (hb : Blk w g t cs)
    (d : TypeDesc) (hu : P.underlying ty = some d) (hd : (match d with | .struct _ | .array _ _ => true | _ => false) = true) (n : Nat) (hi : (P.info? ty).map (·.size) = some n) (hn : cs.size = n)
    (h : wpList P ops Q rest (a.put o.dst (.agg cs)) w) : wpList P ops Q (o :: rest) a w :=
  wpList_load_row hgd ty x ho g hx t cs (0, 0) d hb hu hd (hi.trans (by rw [hn])) h
theorem wpl_store (hgd : o.guard = none) (ty : TypeId) (x y : Operand) (ho : o.op = .store ty x y) (g : Nat) (hx : a.eval x = .pointer (some ⟨g, 0, none⟩)) (cells : Array Value) (hy : a.eval y = .agg cells)
    (t : TypeId) (old : Array Value) (hb : Blk w g t old) (n : Nat) (hi : (P.info? ty).map (·.size) = some n) (hold : old.size = n) (hn : cells.size = n) (h1 : ∀ v ∈ cells.toList, v.oneCell' = true)
    (h : wpList P ops Q rest (a.put o.dst undef) (w.setRow g cells)) : wpList P ops Q (o :: rest) a w :=
  wpList_store_row hgd ty x y ho g cells hx hy t old hb (hi.trans (by rw [hn])) (hold.trans hn.symm) (by rw [Array.all_eq_true_iff_forall_mem]; exact fun v hv => h1 v (by simpa using hv)) h
end
end Go.Proofs.YtefpobkkldgogaaDoor
