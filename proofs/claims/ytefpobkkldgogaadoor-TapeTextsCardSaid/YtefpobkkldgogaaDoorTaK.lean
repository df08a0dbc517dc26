/- Bytes of the call's own: appended to, cut, in literals. -/
import Derived.Test.YtefpobkkldgogaaDoorTaC
import Derived.Lib.AppendStr
import Derived.Deep.RegionHeld3
namespace Go.Proofs.YtefpobkkldgogaaDoor
open Go.RowKit
open Go.Lib (strCells wpList_append_own_string)
/-- where 's[k:]' begins -/
def cutA (A : Option Addr) (c k : Nat) : Option Addr := if c = k then A else A.map (·.add k)
theorem Reads.cutA {w : World} {B n : Nat} {A : Option Addr} {xs : List UInt8} (h : Reads w B 1 A n (bv xs)) {k c : Nat} (hk : k ≤ n) (hc : n ≤ c) : Reads w B 1 (cutA A c k) (n - k) (bv (xs.drop k)) := by
  have := h.cut (k := k) (cap := c) hk hc
  rw [Nat.mul_one, bv_drop] at this
  exact this
theorem cutA_block {A : Option Addr} {c k : Nat} : (cutA A c k).map (·.block) = A.map (·.block) := by
  unfold cutA
  split
  · rfl
  · cases A with
    | none => rfl
    | some a => simp [block_of_add]
theorem none_or (v : Value) : v.ownBlock = none ∨ v.ownBlock ≠ none := by cases v.ownBlock <;> simp

section
variable {ops : Array Oper} {rest : List Oper} {o : Oper} {a : Act} {Q : Exit → Act → World → Prop} {w : World}
theorem wpl_app (hgd : o.guard = none) (s x : Operand) (ho : o.op = .call { callee := .builtin .append, args := #[s, x], argTypes := #[33, 33] })
    (base : Nat) (v : Value) (xs : List UInt8) (hs : a.eval s = v) (hown : OB base w v xs) (B : Nat) (A : Option Addr) (m c : Nat) (ys : List UInt8) (hm : m = ys.length) (hx : a.eval x = .slice A m c)
    (hr : Reads w B 1 A m (bv ys)) (hsz : xs.length + ys.length ≤ 1000000) (hbase : base ≤ w.heap.size)
    (h : ∀ v' w', OB base w' v' (xs ++ ys) → w.grownBy w' v.ownBlock → (v'.ownBlock = v.ownBlock ∨ v'.ownBlock = some w.heap.size) → wpList Tryd.prog ops Q rest (a.put o.dst v') w') : wpList Tryd.prog ops Q (o :: rest) a w := by
  subst hm
  obtain ⟨i0, hi0, hz0, hz1, hz2⟩ := info_parts u8_info
  exact wpList_append_any w hgd s x 33 ho base 5 i0 _ 1 1 Tryd.underlying33 hi0 hz0 hz1 hz2 rfl (by omega) v xs.length (bv xs) hs hown B A ys.length c (bv ys) hx hr (bv_one ys)
    (by simp only [maxLen]; omega) (by omega) hbase (fun v' w' h1 h2 h3 => h v' w' (by rw [← bv_append, ← List.length_append] at h1; exact h1) h2 h3)

theorem strCells_strOf (ys : List UInt8) : strCells (strOf ys) = bv ys := by simp [strCells, bv, strOf]

theorem wpl_apps (hgd : o.guard = none) (s x : Operand) (ho : o.op = .call { callee := .builtin .append, args := #[s, x], argTypes := #[33, 9] })
    (base : Nat) (v : Value) (xs : List UInt8) (hs : a.eval s = v) (hown : OB base w v xs) (ys : List UInt8) (hx : a.eval x = .string (strOf ys))
    (hsz : xs.length + ys.length ≤ 1000000) (hbase : base ≤ w.heap.size)
    (h : ∀ v' w', OB base w' v' (xs ++ ys) → w.grownBy w' v.ownBlock → wpList Tryd.prog ops Q rest (a.put o.dst v') w') : wpList Tryd.prog ops Q (o :: rest) a w := by
  obtain ⟨i0, hi0, hz0, hz1, hz2⟩ := info_parts u8_info
  exact wpList_append_own_string w hgd s x 33 9 ho base 5 i0 Tryd.underlying33 Tryd.underlying9 hi0 hz0 hz1 hz2 v xs.length (bv xs) hs hown (strOf ys) hx
    (by simp only [maxLen, strOf_size]; omega) (by simp only [strOf_size]; omega) hbase (fun v' w' h1 h2 h3 => h v' w' (by rw [strCells_strOf, ← bv_append, strOf_size, ← List.length_append] at h1; exact h1) h2)
end

section
variable {ops : Array Oper} {o : Oper} {a : Act} {K : Act → World → Prop} {Q : Exit → Act → World → Prop} {w : World} {E : Prop}
theorem step_app (hgd : o.guard = none) (s x : Operand) (ho : o.op = .call { callee := .builtin .append, args := #[s, x], argTypes := #[33, 33] })
    (base : Nat) (v : Value) (xs : List UInt8) (hs : a.eval s = v) (hown : OB base w v xs) (B : Nat) (A : Option Addr) (m c : Nat) (ys : List UInt8) (hm : m = ys.length) (hx : a.eval x = .slice A m c)
    (hr : Reads w B 1 A m (bv ys)) (hsz : xs.length + ys.length ≤ 1000000) (hbase : base ≤ w.heap.size)
    (h : ∀ v' w', OB base w' v' (xs ++ ys) → w.grownBy w' v.ownBlock → (v'.ownBlock = v.ownBlock ∨ v'.ownBlock = some w.heap.size) → K (a.put o.dst v') w') : if Region.wanted o (yielded ops a.tmps) = true then Oper.wp Tryd.prog o a w K Q else E := by
  subst hm
  obtain ⟨i0, hi0, hz0, hz1, hz2⟩ := info_parts u8_info
  exact step_append_any w hgd s x 33 ho base 5 i0 _ 1 1 Tryd.underlying33 hi0 hz0 hz1 hz2 rfl (by omega) v xs.length (bv xs) hs hown B A ys.length c (bv ys) hx hr (bv_one ys)
    (by simp only [maxLen]; omega) (by omega) hbase (fun v' w' h1 h2 h3 => h v' w' (by rw [← bv_append, ← List.length_append] at h1; exact h1) h2 h3)
theorem step_apps (hgd : o.guard = none) (s x : Operand) (ho : o.op = .call { callee := .builtin .append, args := #[s, x], argTypes := #[33, 9] })
    (base : Nat) (v : Value) (xs : List UInt8) (hs : a.eval s = v) (hown : OB base w v xs) (ys : List UInt8) (hx : a.eval x = .string (strOf ys))
    (hsz : xs.length + ys.length ≤ 1000000) (hbase : base ≤ w.heap.size)
    (h : ∀ v' w', OB base w' v' (xs ++ ys) → w.grownBy w' v.ownBlock → K (a.put o.dst v') w') : if Region.wanted o (yielded ops a.tmps) = true then Oper.wp Tryd.prog o a w K Q else E := by
  have hw : Region.wanted o (yielded ops a.tmps) = true := by simp [Region.wanted, hgd]
  rw [if_pos hw]
  obtain ⟨i0, hi0, hz0, hz1, hz2⟩ := info_parts u8_info
  obtain ⟨v', w', hr, h2, h3, _⟩ := Go.Lib.run_append_own_string (P := Tryd.prog) w base 33 9 o.type 5 i0 Tryd.underlying33 Tryd.underlying9 hi0 hz0 hz1 hz2 v xs.length (bv xs) hown (strOf ys)
    (by simp only [maxLen, strOf_size]; omega) (by simp only [strOf_size]; omega) hbase
  rw [strCells_strOf, ← bv_append, strOf_size, ← List.length_append] at h2
  unfold Oper.wp execOp
  simp only [ho, resolve, invoke, builtin, Sem.run_bind, Sem.run_pure, Result.andThen_ok, List.map_toArray, List.map_cons, List.map_nil, hs, hx, hr]
  exact h v' w' h2 h3
end

@[go_sem high] theorem run_cut_bytes (w : World) (A : Option Addr) (n c : Nat) (kl : IntKind) (l : Int) (h0 : 0 ≤ l) (hl : l ≤ n) :
    (Instr.sliceAt 33 (.slice A n c) (some (.int kl l)) none none).run Tryd.prog w = .ok (.slice (cutA A c l.toNat) (n - l.toNat) (c - l.toNat)) w := by
  obtain ⟨i0, hi0, _, hz1, _⟩ := info_parts u8_info
  have hel : Tryd.prog.elem 33 = 5 := by simp [Program.elem, Tryd.underlying33]
  have ht' : Tryd.prog.underlying 33 = some (.slice (Tryd.prog.elem 33)) := by rw [hel]; exact Tryd.underlying33
  rw [run_sliceAt_slice w _ _ _ _ _ ht', run_slice_l w _ A n c ht' kl l h0 hl]
  simp [sizeOf, typeInfo, hel, hi0, hz1, Result.andThen, sliced, cutA]
theorem keep_cell {w w' : World} {row : Option Nat} (hg : w.grownBy w' row) {g : Nat} (hne : row ≠ some g) (hlt : g < w.heap.size) (i : Nat) : w'.cell? ⟨g, i, none⟩ = w.cell? ⟨g, i, none⟩ :=
  World.cell?_of_block (w := w) (hg.block g hlt (fun e => hne e.symm))
/-- a literal of bytes -/
theorem OB.lit (w : World) (base : Nat) (hb : base ≤ w.heap.size) (xs : List UInt8) (hl : xs.length ≤ 1000000) (cs : Array Value) (hcs : cs.toList = bv xs) (n : Nat) (hn : n = xs.length) :
    OB base (w.alloc (.cells cs 5)) (.slice (some ⟨w.heap.size, 0, none⟩) n n) xs := by
  subst hn
  have := World.ownsRow_lit (base := base) (e := 5) (size := 1) w cs xs.length hb (by simp only [maxLen]; omega) (by rw [← Array.length_toList, hcs]; simp)
  rwa [hcs] at this

theorem OB.frame {base : Nat} {w w' : World} {v : Value} {xs : List UInt8} (h : OB base w v xs) (hg : w.grownBy w' v.ownBlock) {B : Nat} {a : World} (hb : Below B a w) (hB : B ≤ w.heap.size) (hbB : B ≤ base) : Below B a w' :=
  hb.grown hg hB (fun k hk => by have := (h.lt k hk).1; omega)
theorem OB.below {base : Nat} {w w' : World} {v : Value} {xs : List UInt8} (h : OB base w v xs) (hb : Below w.heap.size w w') : OB base w' v xs := h.kept (only_of_below hb none) (none_or v)
theorem OB.low {base b' : Nat} {w : World} {v : Value} {xs : List UInt8} (h : OB base w v xs) (hb : b' ≤ base) : OB b' w v xs := by
  refine ⟨h.1, ?_⟩
  rcases h.2 with hn | ⟨g, cap, cur, h1, h2, h3⟩
  · exact .inl hn
  · exact .inr ⟨g, cap, cur, h1, by omega, h3⟩
theorem grown_trans_own {a b c : World} {row : Option Nat} (h : a.grownBy b row) (k : b.grownBy c row) : a.grownBy c row :=
  ⟨k.os.trans h.os, k.tape.trans h.tape, k.output.trans h.output, Nat.le_trans h.size k.size, fun i hi hne => (k.block i (Nat.lt_of_lt_of_le hi h.size) hne).trans (h.block i hi hne)⟩
theorem grown_below {a b c : World} {row : Option Nat} (h : a.grownBy b row) (k : Below a.heap.size b c) : a.grownBy c row :=
  ⟨k.os.trans h.os, k.tape.trans h.tape, k.output.trans h.output, Nat.le_trans h.size k.size, fun i hi hne => (k.block i hi).trans (h.block i hi hne)⟩

theorem grown_set (w : World) (g i : Nat) (u : Value) : w.grownBy (w.setCell ⟨g, i, none⟩ u) (some g) := only_setCell (p := ⟨g, i, none⟩) (World.grownBy.refl w _) (.inl rfl) u
@[go_sem high] theorem run_cut3_bytes (w : World) (A : Option Addr) (n c : Nat) (kl kh km : IntKind) (l h m : Int) (h0 : 0 ≤ l) (h1 : l ≤ h) (h2 : h ≤ m) (h3 : m ≤ c) :
    (Instr.sliceAt 33 (.slice A n c) (some (.int kl l)) (some (.int kh h)) (some (.int km m))).run Tryd.prog w = .ok (.slice (cutA A m.toNat l.toNat) (h.toNat - l.toNat) (m.toNat - l.toNat)) w := by
  obtain ⟨i0, hi0, _, hz1, _⟩ := info_parts u8_info
  have hel : Tryd.prog.elem 33 = 5 := by simp [Program.elem, Tryd.underlying33]
  have ht' : Tryd.prog.underlying 33 = some (.slice (Tryd.prog.elem 33)) := by rw [hel]; exact Tryd.underlying33
  rw [run_sliceAt_slice w _ _ _ _ _ ht', run_slice_lhm w _ A n c ht' kl kh km l h m h0 h1 h2 h3]
  simp [sizeOf, typeInfo, hel, hi0, hz1, Result.andThen, sliced, cutA]
end Go.Proofs.YtefpobkkldgogaaDoor
