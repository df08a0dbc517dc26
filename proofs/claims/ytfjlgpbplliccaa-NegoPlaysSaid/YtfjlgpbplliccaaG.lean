/- append over bytes of the call's own; got, offer, agree, asks. -/
import Derived.Test.YtfjlgpbplliccaaE
import Derived.Lib.AppendStr
import Derived.Deep.RegionHeld3
namespace Go.Proofs.Ytfjlgpbplliccaa
open Go.RowKit
open Go.Lib (strCells wpList_append_own_string)

section
variable {ops : Array Oper} {rest : List Oper} {o : Oper} {a : Act} {Q : Exit → Act → World → Prop} {w : World}
theorem wpl_app (hgd : o.guard = none) (s x : Operand) (ho : o.op = .call { callee := .builtin .append, args := #[s, x], argTypes := #[22, 22] })
    (base : Nat) (v : Value) (xs : List UInt8) (hs : a.eval s = v) (hown : OB base w v xs) (B : Nat) (A : Option Addr) (m c : Nat) (ys : List UInt8) (hm : m = ys.length) (hx : a.eval x = .slice A m c)
    (hr : Reads w B 1 A m (bv ys)) (hsz : xs.length + ys.length ≤ 1000000) (hbase : base ≤ w.heap.size)
    (h : ∀ v' w', OB base w' v' (xs ++ ys) → w.grownBy w' v.ownBlock → (v'.ownBlock = v.ownBlock ∨ v'.ownBlock = some w.heap.size) → wpList Try.prog ops Q rest (a.put o.dst v') w') : wpList Try.prog ops Q (o :: rest) a w := by
  subst hm
  obtain ⟨i0, hi0, hz0, hz1, hz2⟩ := info_parts u8_info
  exact wpList_append_any w hgd s x 22 ho base 5 i0 _ 1 1 Try.underlying22 hi0 hz0 hz1 hz2 rfl (by omega) v xs.length (bv xs) hs hown B A ys.length c (bv ys) hx hr (bv_one ys)
    (by simp only [maxLen]; omega) (by omega) hbase (fun v' w' h1 h2 h3 => h v' w' (by rw [← bv_append, ← List.length_append] at h1; exact h1) h2 h3)

theorem strCells_strOf (ys : List UInt8) : strCells (strOf ys) = bv ys := by simp [strCells, bv, strOf]

theorem wpl_apps (hgd : o.guard = none) (s x : Operand) (ho : o.op = .call { callee := .builtin .append, args := #[s, x], argTypes := #[22, 9] })
    (base : Nat) (v : Value) (xs : List UInt8) (hs : a.eval s = v) (hown : OB base w v xs) (ys : List UInt8) (hx : a.eval x = .string (strOf ys))
    (hsz : xs.length + ys.length ≤ 1000000) (hbase : base ≤ w.heap.size)
    (h : ∀ v' w', OB base w' v' (xs ++ ys) → w.grownBy w' v.ownBlock → wpList Try.prog ops Q rest (a.put o.dst v') w') : wpList Try.prog ops Q (o :: rest) a w := by
  obtain ⟨i0, hi0, hz0, hz1, hz2⟩ := info_parts u8_info
  exact wpList_append_own_string w hgd s x 22 9 ho base 5 i0 Try.underlying22 Try.underlying9 hi0 hz0 hz1 hz2 v xs.length (bv xs) hs hown (strOf ys) hx
    (by simp only [maxLen, strOf_size]; omega) (by simp only [strOf_size]; omega) hbase (fun v' w' h1 h2 h3 => h v' w' (by rw [strCells_strOf, ← bv_append, strOf_size, ← List.length_append] at h1; exact h1) h2)
end

section
variable {ops : Array Oper} {o : Oper} {a : Act} {K : Act → World → Prop} {Q : Exit → Act → World → Prop} {w : World} {E : Prop}
theorem step_app (hgd : o.guard = none) (s x : Operand) (ho : o.op = .call { callee := .builtin .append, args := #[s, x], argTypes := #[22, 22] })
    (base : Nat) (v : Value) (xs : List UInt8) (hs : a.eval s = v) (hown : OB base w v xs) (B : Nat) (A : Option Addr) (m c : Nat) (ys : List UInt8) (hm : m = ys.length) (hx : a.eval x = .slice A m c)
    (hr : Reads w B 1 A m (bv ys)) (hsz : xs.length + ys.length ≤ 1000000) (hbase : base ≤ w.heap.size)
    (h : ∀ v' w', OB base w' v' (xs ++ ys) → w.grownBy w' v.ownBlock → (v'.ownBlock = v.ownBlock ∨ v'.ownBlock = some w.heap.size) → K (a.put o.dst v') w') : if Region.wanted o (yielded ops a.tmps) = true then Oper.wp Try.prog o a w K Q else E := by
  subst hm
  obtain ⟨i0, hi0, hz0, hz1, hz2⟩ := info_parts u8_info
  exact step_append_any w hgd s x 22 ho base 5 i0 _ 1 1 Try.underlying22 hi0 hz0 hz1 hz2 rfl (by omega) v xs.length (bv xs) hs hown B A ys.length c (bv ys) hx hr (bv_one ys)
    (by simp only [maxLen]; omega) (by omega) hbase (fun v' w' h1 h2 h3 => h v' w' (by rw [← bv_append, ← List.length_append] at h1; exact h1) h2 h3)
theorem step_apps (hgd : o.guard = none) (s x : Operand) (ho : o.op = .call { callee := .builtin .append, args := #[s, x], argTypes := #[22, 9] })
    (base : Nat) (v : Value) (xs : List UInt8) (hs : a.eval s = v) (hown : OB base w v xs) (ys : List UInt8) (hx : a.eval x = .string (strOf ys))
    (hsz : xs.length + ys.length ≤ 1000000) (hbase : base ≤ w.heap.size)
    (h : ∀ v' w', OB base w' v' (xs ++ ys) → w.grownBy w' v.ownBlock → K (a.put o.dst v') w') : if Region.wanted o (yielded ops a.tmps) = true then Oper.wp Try.prog o a w K Q else E := by
  have hw : Region.wanted o (yielded ops a.tmps) = true := by simp [Region.wanted, hgd]
  rw [if_pos hw]
  obtain ⟨i0, hi0, hz0, hz1, hz2⟩ := info_parts u8_info
  obtain ⟨v', w', hr, h2, h3, _⟩ := Go.Lib.run_append_own_string (P := Try.prog) w base 22 9 o.type 5 i0 Try.underlying22 Try.underlying9 hi0 hz0 hz1 hz2 v xs.length (bv xs) hown (strOf ys)
    (by simp only [maxLen, strOf_size]; omega) (by simp only [strOf_size]; omega) hbase
  rw [strCells_strOf, ← bv_append, strOf_size, ← List.length_append] at h2
  unfold Oper.wp execOp
  simp only [ho, resolve, invoke, builtin, Sem.run_bind, Sem.run_pure, Result.andThen_ok, List.map_toArray, List.map_cons, List.map_nil, hs, hx, hr]
  exact h v' w' h2 h3
end

@[go_sem high] theorem run_cut_bytes (w : World) (A : Option Addr) (n c : Nat) (kl : IntKind) (l : Int) (h0 : 0 ≤ l) (hl : l ≤ n) :
    (Instr.sliceAt 22 (.slice A n c) (some (.int kl l)) none none).run Try.prog w = .ok (.slice (cutA A c l.toNat) (n - l.toNat) (c - l.toNat)) w := by
  obtain ⟨i0, hi0, _, hz1, _⟩ := info_parts u8_info
  have hel : Try.prog.elem 22 = 5 := by simp [Program.elem, Try.underlying22]
  have ht' : Try.prog.underlying 22 = some (.slice (Try.prog.elem 22)) := by rw [hel]; exact Try.underlying22
  rw [run_sliceAt_slice w _ _ _ _ _ ht', run_slice_l w _ A n c ht' kl l h0 hl]
  simp [sizeOf, typeInfo, hel, hi0, hz1, Result.andThen, sliced, cutA]
theorem keep_cell {w w' : World} {row : Option Nat} (hg : w.grownBy w' row) {g : Nat} (hne : row ≠ some g) (hlt : g < w.heap.size) (i : Nat) : w'.cell? ⟨g, i, none⟩ = w.cell? ⟨g, i, none⟩ :=
  World.cell?_of_block (w := w) (hg.block g hlt (fun e => hne e.symm))
/-- a literal of bytes -/
theorem OB.lit (w : World) (base : Nat) (hb : base ≤ w.heap.size) (xs : List UInt8) (hl : xs.length ≤ 1000000) (cs : Array Value) (hcs : cs.toList = bv xs) (n : Nat) (hn : n = xs.length) :
    OB base (w.alloc (.cells cs 5)) (.slice (some ⟨w.heap.size, 0, none⟩) n n) xs := by
  subst hn
  have := World.ownsRow_lit (base := base) (e := 5) (size := 1) w cs xs.length hb (by simp only [maxLen]; omega) (by rw [← Array.length_toList, hcs]; simp)
  rwa [hcs] at this

theorem OB.frame {base : Nat} {w w' : World} {v : Value} {xs : List UInt8} (h : OB base w v xs) (hg : w.grownBy w' v.ownBlock) {B : Nat} {a : World} (hb : Below B a w) (hB : B ≤ w.heap.size) (hbB : B ≤ base) : Below B a w' :=
  hb.grown hg hB (fun k hk => by have := (h.lt k hk).1; omega)
theorem OB.below {base : Nat} {w w' : World} {v : Value} {xs : List UInt8} (h : OB base w v xs) (hb : Below w.heap.size w w') : OB base w' v xs := h.kept (only_of_below hb none) (none_or v)
theorem OB.low {base b' : Nat} {w : World} {v : Value} {xs : List UInt8} (h : OB base w v xs) (hb : b' ≤ base) : OB b' w v xs := by
  refine ⟨h.1, ?_⟩
  rcases h.2 with hn | ⟨g, cap, cur, h1, h2, h3⟩
  · exact .inl hn
  · exact .inr ⟨g, cap, cur, h1, by omega, h3⟩
theorem grown_trans_own {a b c : World} {row : Option Nat} (h : a.grownBy b row) (k : b.grownBy c row) : a.grownBy c row :=
  ⟨k.os.trans h.os, k.tape.trans h.tape, k.output.trans h.output, Nat.le_trans h.size k.size, fun i hi hne => (k.block i (Nat.lt_of_lt_of_le hi h.size) hne).trans (h.block i hi hne)⟩
theorem grown_below {a b c : World} {row : Option Nat} (h : a.grownBy b row) (k : Below a.heap.size b c) : a.grownBy c row :=
  ⟨k.os.trans h.os, k.tape.trans h.tape, k.output.trans h.output, Nat.le_trans h.size k.size, fun i hi hne => (k.block i hi).trans (h.block i hi hne)⟩

section
variable {base t : Nat} {w : World} {g : Nat} {F G : Value} {c : Cfg} {s : St}
theorem OB.ne_end {b0 : Nat} {v : Value} {xs : List UInt8} (h : OB b0 w v xs) (he : EndAt base t w g F G c s) (ht : 5 ≠ t) : v.ownBlock ≠ some g := own_blk_ne h he.blk ht
theorem grown_set (w : World) (g i : Nat) (u : Value) : w.grownBy (w.setCell ⟨g, i, none⟩ u) (some g) := only_setCell (p := ⟨g, i, none⟩) (World.grownBy.refl w _) (.inl rfl) u
theorem EndAt.setState (h : EndAt base t w g F G c s) (ht : 5 ≠ t) (n : Nat) (hn : n ≤ 4) : EndAt base t (w.setCell ⟨g, 3, none⟩ (.int .i64 (n : Int))) g F G c { s with state := n } :=
  ⟨h.lo, h.blk.set_ 3 _, h.fns.kept (grown_set w g 3 _) (.inr (h.fns.ne_end h ht)), h.agr.kept (grown_set w g 3 _) (.inr (h.agr.ne_end h ht)), h.cs, hn, h.ss.2⟩
theorem EndAt.setDevice (h : EndAt base t w g F G c s) (ht : 5 ≠ t) (d : List UInt8) (hd : d.length ≤ 1000) : EndAt base t (w.setCell ⟨g, 4, none⟩ (.string (strOf d))) g F G c { s with device := d } :=
  ⟨h.lo, h.blk.set_ 4 _, h.fns.kept (grown_set w g 4 _) (.inr (h.fns.ne_end h ht)), h.agr.kept (grown_set w g 4 _) (.inr (h.agr.ne_end h ht)), h.cs, h.ss.1, hd, h.ss.2.2⟩
theorem EndAt.setAgreed (h : EndAt base t w g F G c s) (ht : 5 ≠ t) (G' : Value) (l : List UInt8) (hG : OB base w G' l) (hl : l.length ≤ 1000) : EndAt base t (w.setCell ⟨g, 5, none⟩ G') g F G' c { s with agreed := l } :=
  ⟨h.lo, h.blk.set_ 5 _, h.fns.kept (grown_set w g 5 _) (.inr (h.fns.ne_end h ht)), hG.kept (grown_set w g 5 _) (.inr (hG.ne_end h ht)), h.cs, h.ss.1, h.ss.2.1, hl⟩

set_option maxHeartbeats 1000000 in
/-- what is asked for: only that block is another, and what is new. -/
theorem offer_calls (h : EndAt base 55 w g F G c s) (b0 : Nat) (v : Value) (l : List UInt8) (hl : OB b0 w v l) (hsz : l.length ≤ 1000) :
    Calls Try.prog 34 #[.pointer (some ⟨g, 0, none⟩), v] w fun e w' => ∃ v', e = .returned v' ∧ OB w.heap.size w' v' ([3, 7] ++ l) ∧ EndAt base 55 w' g F (.slice none 0 0) c { s with state := 2, agreed := [] } ∧ w.grownBy w' (some g) := by
  have hne := hl.ne_end h (by decide)
  have h1 := h.setState (by decide) 2 (by omega)
  have h2 := h1.setAgreed (by decide) (.slice none 0 0) [] (World.ownsRow_nil _ _ _ _) (by simp)
  have hl1 : OB b0 _ v l := (hl.kept (grown_set w g 3 (.int .i64 2)) (.inr hne)).kept (grown_set _ g 5 (.slice none 0 0)) (.inr hne)
  have hg2 : w.grownBy ((w.setCell ⟨g, 3, none⟩ (.int .i64 2)).setCell ⟨g, 5, none⟩ (.slice none 0 0)) (some g) := grown_trans_own (grown_set w g 3 _) (grown_set _ g 5 _)
  obtain ⟨c0, c1, c2, c3, c4, c5⟩ := h.cells
  obtain ⟨f0, f1, f2, f3, f4, f5⟩ := h.free
  obtain ⟨W, hW⟩ : ∃ W, (w.setCell ⟨g, 3, none⟩ (.int .i64 2)).setCell ⟨g, 5, none⟩ (.slice none 0 0) = W := ⟨_, rfl⟩
  have h2' : EndAt base 55 W g F (.slice none 0 0) c { s with state := 2, agreed := [] } := by rw [← hW]; exact h2
  rw [hW] at hl1 hg2
  have hx := hg2.size
  obtain ⟨A, cp, hv, hc, hr, _, _⟩ := hl1.reads
  subst hv
  have HL := Lib.hid (OB.lit W w.heap.size hx [3, 7] (by simp) #[.int .u8 3, .int .u8 7] rfl 2 rfl)
  have HR := Lib.hid (hr.alloc (Nat.le_refl _) (.cells #[.int .u8 3, .int .u8 7] 5))
  have HE := Lib.hid h2'
  have HG := Lib.hid hg2
  have HW := Lib.hid hW
  clear h h1 h2 hl hl1 hne h2' hg2 hW c0 c1 c2 f0 f1 f2 f4 c4 hr
  go_enter Try.func34, Try.ntmps34
  go_upto_region 2 with (fail)
  rw [HW.out]
  clear HW c3 c5 f3 f5
  go_wp2_with (first
    | (at_builtin
       refine wpl_app rfl (.tmp 11) (.tmp 12) rfl w.heap.size _ [3, 7] rfl HL.out _ A l.length cp l rfl rfl HR.out (by simp; omega) (by simp; omega) ?_
       intro v1 w1 hown1 hg1 hat1))
  go_ret
  have hb : Below W.heap.size W w1 := ((Below.refl _ W).alloc (Nat.le_refl _) _).grown hg1 (by simp) (fun k hk => by cases hk; exact Nat.le_refl _)
  exact ⟨v1, rfl, hown1, HE.out.below hb, grown_trans_own HG.out (only_of_below hb _)⟩

theorem EndAt.lt {t : Nat} (h : EndAt base t w g F G c s) : g < w.heap.size := h.blk.lt
theorem sort_len {l bs : List UInt8} (h : SortOf l bs) : bs.length = l.length := h.1.length_eq

set_option maxHeartbeats 1000000 in
theorem agree_calls (h : EndAt base 55 w g F G c s) (A : Option Addr) (n cp : Nat) (l : List UInt8) (hn : n = l.length) (hr : RB w A l) (hl : n ≤ 12) :
    Calls Try.prog 37 #[.pointer (some ⟨g, 0, none⟩), .slice A n cp] w fun e w' => ∃ G' bs, e = .returned (.tuple #[]) ∧ SortOf l bs ∧ EndAt base 55 w' g F G' c { s with state := 3, agreed := bs } ∧ w.grownBy w' (some g) ∧ (∀ b, G'.ownBlock = some b → w.heap.size ≤ b) := by
  have hb1 : Below w.heap.size w (w.alloc (.cells #[.slice A n cp] 22)) := (Below.refl _ w).alloc (Nat.le_refl _) _
  have HS := Lib.hid (Sorted_calls w.heap.size n cp A l hn hl (w.alloc (.cells #[.slice A n cp] 22)) (by have := Blk.cell (Blk.new w 22 #[.slice A n cp]) 0; exact this) ((hr.below hb1).more hb1.size |> fun x => by subst hn; exact x))
  have HN := Lib.hid hn
  have h1 := h.below hb1
  have hlo := h.lo
  have hlt := h.lt
  have HE := Lib.hid h1
  have HB := Lib.hid hb1
  clear h h1 hn hr hb1
  go_enter Try.func37, Try.ntmps37
  go_wp2_with fail
  refine (Values_calls A n cp _).mono ?_
  rintro e w1 ⟨rfl, rfl⟩
  go_wp2_with fail
  refine HS.out.mono ?_
  rintro e w2 ⟨v, bs, rfl, ho, hso, hb2⟩
  have h2 := HE.out.below hb2
  have hb02 : Below w.heap.size w w2 := HB.out.trans (hb2.mono (by simp))
  have ho' : OB base w2 v bs := ho.low (by simp; omega)
  have hbl : bs.length ≤ 1000 := by have := sort_len hso; have := HN.out; omega
  have h3 := h2.setAgreed (by decide) v bs ho' hbl
  have h4 := h3.setState (by decide) 3 (by omega)
  obtain ⟨c0, c1, c2, c3, c4, c5⟩ := h2.cells
  obtain ⟨f0, f1, f2, f3, f4, f5⟩ := h2.free
  have hvb : ∀ b, v.ownBlock = some b → w.heap.size ≤ b := fun b hb => by have := (ho.lt b hb).1; simp at this; omega
  have hg : w.grownBy ((w2.setCell ⟨g, 5, none⟩ v).setCell ⟨g, 3, none⟩ (.int .i64 3)) (some g) := grown_trans_own (only_of_below hb02 _) (grown_trans_own (grown_set w2 g 5 _) (grown_set _ g 3 _))
  obtain ⟨A', cp', hv, _, _, _, _⟩ := ho.reads
  subst hv
  have H4 := Lib.hid h4
  have HG := Lib.hid hg
  have HV := Lib.hid hvb
  clear h2 h3 h4 hg hvb ho ho' hb2 hb02 c0 c1 c2 c4 f0 f1 f2 f4
  go_wp2_with fail
  go_end0
  exact ⟨_, bs, rfl, hso, H4.out, HG.out, HV.out⟩

set_option maxHeartbeats 1000000 in
theorem got_calls (A : Option Addr) (n cp : Nat) (l : List UInt8) (hn : n = l.length) (hr : RB w A l) (hl : n ≤ 1000) (hc : n ≤ cp) :
    Calls Try.prog 33 #[.slice A n cp] w fun e w' => e = .returned (.tuple #[.string (strOf (gotB l).1), .bool (gotB l).2]) ∧ Below w.heap.size w w' := by
  subst hn
  have hb1 : Below w.heap.size w (w.alloc (.cells #[.int .u8 1] 5)) := (Below.refl _ w).alloc (Nat.le_refl _) _
  have hcell : (w.alloc (.cells #[.int .u8 1] 5)).cell? ⟨w.heap.size, 0, none⟩ = some (.int .u8 ((1 : UInt8).toNat : Int)) := by have := Blk.cell (Blk.new w 5 #[.int .u8 1]) 0; exact this
  have hr1 := (hr.below hb1).more hb1.size
  cases hi : l.findIdx? (· == 1) with
  | none =>
    have hx : idxB l 1 = -1 := by unfold idxB; rw [hi]
    have HG := Lib.hid (show gotB l = ([], false) by unfold gotB; rw [hi])
    have HC := Lib.hid (Cut1_no A l.length cp l 1 ⟨w.heap.size, 0, none⟩ 1 (w.alloc (.cells #[.int .u8 1] 5)) rfl hr1 hcell hx)
    have HB := Lib.hid hb1
    clear hx hi hb1 hcell hr1
    go_enter Try.func33, Try.ntmps33
    go_wp2_with fail
    refine HC.out.mono ?_
    rintro e w1 ⟨rfl, rfl⟩
    go_wp2_with fail
    have kc : ∀ W : World, (convert 22 9 (.slice none 0 0)).run Try.prog W = .ok (.string (strOf [])) W := fun W => (Reads.none_ (w := W) (B := 0) (size := 1)).convert (xs := []) 0 rfl
    go_quiet (fail)
    go_wp2_with fail
    go_ret2
    exact ⟨by rw [HG.out]; rfl, below_drewN HB.out _⟩
  | some i =>
    obtain ⟨hil, hp, _⟩ := List.findIdx?_eq_some_iff_getElem.1 hi
    have hx : idxB l 1 = (i : Int) := by unfold idxB; rw [hi]
    have HG := Lib.hid (show gotB l = (l.drop (i + 1), nameOk (l.take i) && nameOk (l.drop (i + 1))) by unfold gotB; rw [hi])
    have HC := Lib.hid (Cut1_yes A l.length cp l 1 ⟨w.heap.size, 0, none⟩ 1 i (w.alloc (.cells #[.int .u8 1] 5)) rfl (by omega) hc hr1 hcell hx hil)
    have HB := Lib.hid hb1
    have k1 := fun k => ((hr1.drewN k).take (m := i) (by omega)).convert (xs := l.take i) cp (by simp; omega)
    have k2 := fun k => ((hr1.drewN k).cutA (k := i + 1) (c := cp) (by omega) hc).convert (xs := l.drop (i + 1)) (cp - (i + 1)) (by simp)
    have hs1 : (l.take i).length ≤ 1000 := by simp; omega
    have hs2 : (l.drop (i + 1)).length ≤ 1000 := by simp; omega
    clear hx hi hb1 hcell hr1 hp hr
    cases h1 : nameOk (l.take i)
    · have HN1 := Lib.hid (fun W => Name_calls (l.take i) W (by omega))
      have HG2 := Lib.hid (show gotB l = (l.drop (i + 1), false) by rw [HG.out, h1]; rfl)
      rw [h1] at HN1
      clear h1
      go_enter Try.func33, Try.ntmps33
      go_wp2_with fail
      refine HC.out.mono ?_
      rintro e w1 ⟨rfl, k, rfl⟩
      go_wp2_with fail
      go_quiet ((go_at_call 18; exact quiet_add_left (HN1.out _)))
      go_wp2_with fail
      go_ret2
      exact ⟨by rw [HG2.out]; rfl, below_drewN (below_drewN HB.out _) _⟩
    · have HN1 := Lib.hid (fun W => Name_calls (l.take i) W (by omega))
      have HN2 := Lib.hid (fun W => Name_calls (l.drop (i + 1)) W (by omega))
      have HG2 := Lib.hid (show gotB l = (l.drop (i + 1), nameOk (l.drop (i + 1))) by rw [HG.out, h1]; rfl)
      rw [h1] at HN1
      clear h1
      obtain ⟨l1, hl1⟩ : ∃ x, l.take i = x := ⟨_, rfl⟩
      obtain ⟨l2, hl2⟩ : ∃ x, l.drop (i + 1) = x := ⟨_, rfl⟩
      rw [hl1] at HN1 k1
      rw [hl2] at HN2 k2 HG2
      clear hl1 hl2
      go_enter Try.func33, Try.ntmps33
      go_wp2_with fail
      refine HC.out.mono ?_
      rintro e w1 ⟨rfl, k, rfl⟩
      go_wp2_with fail
      go_quiet ((go_at_call 18; first | (with_reducible exact quiet_add_left (HN1.out _)) | (with_reducible exact quiet_add_left (HN2.out _))))
      go_wp2_with fail
      go_ret2
      exact ⟨by rw [HG2.out]; rfl, below_drewN (below_drewN HB.out _) _⟩

set_option maxHeartbeats 1000000 in
theorem asks_calls (h : EndAt base 55 w g F G c s) :
    Calls Try.prog 23 #[.pointer (some ⟨g, 0, none⟩)] w fun e w' => ∃ v', e = .returned v' ∧ OB w.heap.size w' v' (asksB c) ∧ EndAt base 55 w' g F (.slice none 0 0) c ⟨1, [], []⟩ ∧ w.grownBy w' (some g) := by
  have h1 := h.setState (by decide) 1 (by omega)
  have h2 := h1.setDevice (by decide) [] (by simp)
  have h3 := h2.setAgreed (by decide) (.slice none 0 0) [] (World.ownsRow_nil _ _ _ _) (by simp)
  obtain ⟨c0, c1, c2, c3, c4, c5⟩ := h.cells
  obtain ⟨f0, f1, f2, f3, f4, f5⟩ := h.free
  have hg3 : w.grownBy (((w.setCell ⟨g, 3, none⟩ (.int .i64 1)).setCell ⟨g, 4, none⟩ (.string (strOf []))).setCell ⟨g, 5, none⟩ (.slice none 0 0)) (some g) := grown_trans_own (grown_set w g 3 _) (grown_trans_own (grown_set _ g 4 _) (grown_set _ g 5 _))
  obtain ⟨W, hW⟩ : ∃ W, ((w.setCell ⟨g, 3, none⟩ (.int .i64 1)).setCell ⟨g, 4, none⟩ (.string (strOf []))).setCell ⟨g, 5, none⟩ (.slice none 0 0) = W := ⟨_, rfl⟩
  have h3' : EndAt base 55 W g F (.slice none 0 0) c ⟨1, [], []⟩ := by rw [← hW]; exact h3
  rw [hW] at hg3
  have hx := hg3.size
  have hcs := h.cs
  obtain ⟨d0, d1, _, _, _, _⟩ := h3'.cells
  have HL := Lib.hid (OB.lit W W.heap.size (Nat.le_refl _) [2, 7] (by simp) #[.int .u8 2, .int .u8 7] rfl 2 rfl)
  have HE := Lib.hid h3'
  have HG := Lib.hid hg3
  have HW := Lib.hid (show ((w.setCell ⟨g, 3, none⟩ (.int .i64 1)).setCell ⟨g, 4, none⟩ (.string ⟨#[]⟩)).setCell ⟨g, 5, none⟩ (.slice none 0 0) = W from hW)
  have hgW := h3'.lt
  obtain ⟨hc1, hc2, _⟩ := hcs
  clear h h1 h2 h3 h3' hg3 hW c0 c1 c2 f0 f1 f2
  go_enter Try.func23, Try.ntmps23
  go_upto_region 2 with (fail)
  rw [HW.out]
  clear HW c3 c4 c5 f3 f4 f5
  go_upto_region 3 with (first
    | (at_builtin
       refine wpl_apps rfl (.tmp 13) (.tmp 18) rfl W.heap.size _ [2, 7] rfl HL.out c.typ rfl (by simp; omega) (by simp) ?_
       intro v1 w1 hown1 hg1))
  have hb : Below W.heap.size W w1 := ((Below.refl _ W).alloc (Nat.le_refl _) _).grown hg1 (by simp) (fun k hk => by cases hk; exact Nat.le_refl _)
  have e1 := (HE.out.below hb).cells.2.1
  have hsz := hb.size
  obtain ⟨xs1, hxs⟩ : ∃ x, [2, 7] ++ c.typ = x := ⟨_, rfl⟩
  have hown1' : OB W.heap.size w1 v1 ([2, 7] ++ c.typ) := hown1
  rw [hxs] at hown1'
  have hxl : xs1.length ≤ 1002 := by rw [← hxs]; simp; omega
  have HX := Lib.hid hxs
  have HO := Lib.hid hown1'
  have HB := Lib.hid hb
  obtain ⟨A, cp, hv, hcp, _, hbk, _⟩ := hown1'.reads
  subst hv
  clear hown1 hown1' hb hg1 d0 d1 hbk hxs
  by_cases hd : c.dev = []
  · have HA := Lib.hid (show asksB c = [2, 7] ++ c.typ by simp [asksB, hd])
    rw [hd] at e1
    go_wp2_with fail
    go_ret
    exact ⟨_, rfl, by rw [HA.out, HX.out]; exact HO.out.low hx, HE.out.below HB.out, grown_trans_own HG.out (only_of_below HB.out _)⟩
  · have hd' : c.dev.isEmpty = false := by cases hdv : c.dev with
      | nil => exact absurd hdv hd
      | cons a t => rfl
    have HA := Lib.hid (show asksB c = [2, 7] ++ c.typ ++ [1] ++ c.dev by simp [asksB, hd])
    have HL1 := Lib.hid (HO.out.alloc (.cells #[.int .u8 1] 5))
    have hr1 : Reads (w1.alloc (.cells #[.int .u8 1] 5)) (w1.alloc (.cells #[.int .u8 1] 5)).heap.size 1 (some ⟨w1.heap.size, 0, none⟩) 1 (bv [1]) := Reads.of_own (OB.lit w1 w1.heap.size (Nat.le_refl _) [1] (by simp) #[.int .u8 1] rfl 1 rfl)
    have HR := Lib.hid hr1
    have hgw1 : g < w1.heap.size := by omega
    clear hr1 hd
    go_wp2_with fail
    have hne1 : (Value.slice A xs1.length cp).ownBlock ≠ some g := HO.out.ne_end (HE.out.below HB.out) (by decide)
    go_region_held3 (fun w' => w'.cell? ⟨g, 1, none⟩ = some (.string (strOf c.dev))) (first | go_keep | (rw [hkeep2]; assumption) | (rw [hkeep3]; assumption))
      (first
       | (refine step_app rfl (.tmp 26) (.tmp 27) rfl W.heap.size _ xs1 rfl HL1.out _ _ 1 1 [1] rfl rfl HR.out (by simp; omega) (by simp; omega) ?_
          intro v2 w2 hown2 hg2 hat2
          have hkeep2 : w2.cell? ⟨g, 1, none⟩ = _ := keep_cell hg2 hne1 (by simp; omega) 1
          have hne2 : v2.ownBlock ≠ some g := by
            rcases hat2 with e | e
            · rw [e]; exact hne1
            · rw [e]; simp; omega
          have hsz2 : w1.heap.size + 1 ≤ w2.heap.size := by have := hg2.size; simpa using this)
       | (refine step_apps rfl (.tmp 28) (.tmp 33) rfl W.heap.size _ (xs1 ++ [1]) rfl (by assumption) c.dev rfl (by simp; omega) (by omega) ?_
          intro v3 w3 hown3 hg3
          have hkeep3 : w3.cell? ⟨g, 1, none⟩ = _ := keep_cell hg3 hne2 (by omega) 1))
    go_wp2_with fail
    go_ret
    have HB1 := HB.out
    have hb1 : Below W.heap.size W (w1.alloc (.cells #[.int .u8 1] 5)) := HB1.alloc HB1.size _
    have hb2 : Below W.heap.size W w2 := hb1.drew.grown hg2 hb1.size (fun k hk => (HO.out.lt k hk).1)
    have hb3 : Below W.heap.size W w3 := hb2.grown hg3 hb2.size (fun k hk => (hown2.lt k hk).1)
    exact ⟨v3, rfl, by rw [HA.out, HX.out]; exact hown3.low hx, HE.out.below hb3, grown_trans_own HG.out (only_of_below hb3 _)⟩
end
end Go.Proofs.Ytfjlgpbplliccaa
