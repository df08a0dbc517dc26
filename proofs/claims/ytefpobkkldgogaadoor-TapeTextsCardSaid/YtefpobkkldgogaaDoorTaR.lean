/- read: letters as bytes. -/
import Derived.Test.YtefpobkkldgogaaDoorTaI
import Derived.Test.YtefpobkkldgogaaDoorTaH
namespace Go.Proofs.YtefpobkkldgogaaDoor
open Go.RowKit Go.Shelf

attribute [local go_sem] Oper.semAt_some

theorem addr_plain (g j : Nat) : (⟨g, 0, none⟩ : Addr).add j = ⟨g, j, none⟩ := by unfold Addr.add; split <;> simp_all
theorem or_zero_fin : ∀ x : Fin 16, bits .or .i64 0 (x.val : Int) = x.val := by decide +kernel
theorem or_zero {x : Nat} (h : x < 16) : bits .or .i64 0 (x : Int) = x := or_zero_fin ⟨x, h⟩
theorem or_16_fin : ∀ x y : Fin 16, bits .or .i64 ((x.val : Int) * 16) (y.val : Int) = ((x.val * 16 + y.val : Nat) : Int) := by decide +kernel
theorem or_16 {x y : Nat} (h : x < 16) (k : y < 16) : bits .or .i64 ((x : Int) * 16) (y : Int) = ((x * 16 + y : Nat) : Int) := or_16_fin ⟨x, h⟩ ⟨y, k⟩
def hexes : List UInt8 := [48, 49, 50, 51, 52, 53, 54, 55, 56, 57, 97, 98, 99, 100, 101, 102]
theorem hexes_fin : ∀ i : Fin 256, Lib.indexByte hexes (UInt8.ofNat i.val) = (match hexv (UInt8.ofNat i.val) with | some x => (x : Int) | none => -1) := by decide +kernel
theorem hexes_at (c : UInt8) : Lib.indexByte hexes c = (match hexv c with | some x => (x : Int) | none => -1) := by
  have := hexes_fin ⟨c.toNat, c.toNat_lt⟩
  simpa using this
theorem hexv_lt {c : UInt8} {x : Nat} (h : hexv c = some x) : x < 16 := by
  unfold hexv at h
  split at h
  · simp only [Option.some.injEq] at h; omega
  · split at h
    · simp only [Option.some.injEq] at h; omega
    · cases h
theorem IndexHex_calls (c : UInt8) (w : World) : Calls Tryd.prog 42 #[.string ⟨#[48, 49, 50, 51, 52, 53, 54, 55, 56, 57, 97, 98, 99, 100, 101, 102]⟩, .int .u8 c.toNat] w fun e w' =>
    e = .returned (.int .i64 (match hexv c with | some x => (x : Int) | none => -1)) ∧ w = w' := by
  refine (Tryd.strings_IndexByte ⟨#[48, 49, 50, 51, 52, 53, 54, 55, 56, 57, 97, 98, 99, 100, 101, 102]⟩ (c.toNat : Int) w).mono ?_
  rintro e w' ⟨rfl, rfl⟩
  refine ⟨?_, rfl⟩
  rw [← hexes_at]
  simp [hexes]

theorem KIn.trans' {a b : Nat} {A B C : World} (h : KIn a b A B) (k : KIn a b B C) : KIn a b A C := h.trans k
theorem KIn.putObj {a b l : Nat} {W : World} {o : Obj} (h : b ≤ l) : KIn a b W (W.putObj l o) := fun i _ h2 => by
  have : l ≠ i := by omega
  simp [World.putObj, Array.getElem?_setIfInBounds, this]
/-- all that lay in A but block c lies as it lay -/
def Keep2 (c : Nat) (A W : World) : Prop := A.heap.size ≤ W.heap.size ∧ ∀ i, i < A.heap.size → i ≠ c → W.heap[i]? = A.heap[i]?
theorem Keep2.grown {c : Nat} {A W W' : World} {row : Option Nat} (h : Keep2 c A W) (hg : W.grownBy W' row) (hr : ∀ r, row = some r → A.heap.size ≤ r) : Keep2 c A W' :=
  ⟨Nat.le_trans h.1 hg.size, fun i hi hne => (hg.block i (Nat.lt_of_lt_of_le hi h.1) (fun e => by have := hr i e.symm; omega)).trans (h.2 i hi hne)⟩
theorem out_step {W w1 w7 w : World} {B : Nat} {v v' : Value} {k m : Nat} {xs ys : List Value} {tmp : Obj} (hv : Boxed W B 33 v) (hrow : W.ownsRow w7.heap.size 5 1 v k xs) (hk : Keep2 B w7 W) (hb : Below w.heap.size w W) (hB : w.heap.size ≤ B ∧ B < w7.heap.size)
    (hown' : w1.ownsRow w7.heap.size 5 1 v' m ys) (hgrow : (W.alloc tmp).grownBy w1 v.ownBlock) :
    Boxed w1 B 33 v ∧ Boxed (w1.setCell ⟨B, 0, none⟩ v') B 33 v' ∧ (w1.setCell ⟨B, 0, none⟩ v').ownsRow w7.heap.size 5 1 v' m ys ∧ KeepsOthers W (w1.setCell ⟨B, 0, none⟩ v') ∧ Keep2 B w7 (w1.setCell ⟨B, 0, none⟩ v') ∧ Below w.heap.size w (w1.setCell ⟨B, 0, none⟩ v') := by
  have hte : 33 ≠ 5 := by decide
  have hv1 : Boxed w1 B 33 v := (hv.alloc tmp).kept hgrow (hv.not_row hte hrow)
  have hlt : ∀ b, v.ownBlock = some b → w7.heap.size ≤ b := fun b hb' => (hrow.lt b hb').1
  refine ⟨hv1, hv1.set v', hown'.kept (grownBy_setCell' w1 B v') (.inr (hv1.not_row hte hown').symm), ?_, ⟨?_, fun i hi hne => ?_⟩, ?_⟩
  · refine ((KeepsOthers.alloc W tmp).trans (KeepsOthers.of_grownBy hgrow fun j o ej hj => ?_)).trans (KeepsOthers.setCell _ _ _)
    rcases (hrow.alloc tmp).2 with ⟨rfl, _⟩ | ⟨g, cap, cur, rfl, _, hgb, _⟩
    · simp [Value.ownBlock] at ej
    · obtain rfl : g = j := by simpa [Value.ownBlock] using ej
      rw [hgb] at hj; cases hj; rfl
  · have h1 := hgrow.size
    have h2 := hk.1
    simp at h1
    show w7.heap.size ≤ (w1.setCell ⟨B, 0, none⟩ v').heap.size
    simp [World.setCell]
    omega
  · have h2 := hk.1
    rw [Below.heap_setCell w1 ⟨B, 0, none⟩ v' i hne]
    rw [hgrow.block i (by simp; omega) (fun e => by have := hlt i e.symm; omega)]
    rw [Below.heap_alloc W tmp i (by omega)]
    exact hk.2 i hi hne
  · exact ((hb.alloc hb.size tmp).grown hgrow (hb.alloc hb.size tmp).size (fun b e => by have := hlt b e; omega)).setCell (p := ⟨B, 0, none⟩) hB.1 _
theorem run_loadVar_one {P : Program} (w : World) (g : Nat) (ty : TypeId) (v : Value) (d : TypeDesc) (hc : w.cell? ⟨g, 0, none⟩ = some v) (hu : P.underlying ty = some d) (hd : (match d with | .struct _ | .array _ _ => true | _ => false) = false) :
    (loadVar ty ⟨g, 0, none⟩).run P w = .ok v w := by
  have hagg : (isAgg ty).run P w = .ok false w := by
    unfold isAgg
    rw [Sem.run_bind, run_underlying hu w]
    cases d <;> simp_all
  simp [loadVar, Sem.run_bind, hagg, hc, go_sem]
theorem results_two_cells {P : Program} {fn : Func} {p q : Tmp} {tp tq : TypeId} (h : fn.results = #[.cell p tp, .cell q tq]) (tmps : Array Value) (w : World) (g k : Nat) (u v : Value)
    (hp : tmps.getD p undef = .pointer (some ⟨g, 0, none⟩)) (hq : tmps.getD q undef = .pointer (some ⟨k, 0, none⟩)) (h1 : (loadVar tp ⟨g, 0, none⟩).run P w = .ok u w) (h2 : (loadVar tq ⟨k, 0, none⟩).run P w = .ok v w) :
    (results fn tmps).run P w = .ok (.tuple #[u, v]) w := by
  have hp' : tmps[p]?.getD undef = .pointer (some ⟨g, 0, none⟩) := by simpa using hp
  have hq' : tmps[q]?.getD undef = .pointer (some ⟨k, 0, none⟩) := by simpa using hq
  simp [results, h, hp', hq', asAddr, h1, h2, Sem.run_bind, Result.andThen]
def ReadRet (r : Option (List UInt8)) (w : World) (e : Ending) (w' : World) : Prop :=
  Below w.heap.size w w' ∧ ∃ v, e = .returned (.tuple #[v, .bool r.isSome]) ∧ OB w.heap.size w' v (r.getD [])
def dash : List UInt8 := [45]
set_option maxRecDepth 100000 in
set_option maxHeartbeats 2000000 in
theorem read_in (s : List UInt8) (w : World) (hs : s.length ≤ 1000000) (hne : (s == [45]) = false) : CallsIn Fence.wide 5 Tryd.prog 24 #[.string (strOf s)] w (ReadRet (hexB s) w) := by
  have hb0 : Below w.heap.size w (((w.alloc (.cells #[.slice none 0 0] 33)).alloc (.cells #[.bool false] 4)).alloc (.cells #[.slice none 0 0] 33)) := (((Below.refl _ w).alloc (Nat.le_refl _) _).alloc (by simp) _).alloc (by simp; omega) _
  have x0 := Blk.new w 33 #[.slice none 0 0]
  obtain ⟨w1, hw1⟩ : ∃ w1, w.alloc (.cells #[.slice none 0 0] 33) = w1 := ⟨_, rfl⟩
  have hz1 : w1.heap.size = w.heap.size + 1 := by rw [← hw1]; exact Array.size_push ..
  rw [hw1] at hb0 x0
  have x1 := Blk.new w1 4 #[.bool false]
  obtain ⟨w2, hw2⟩ : ∃ w2, w1.alloc (.cells #[.bool false] 4) = w2 := ⟨_, rfl⟩
  have hz2 : w2.heap.size = w.heap.size + 1 + 1 := by rw [← hw2, ← hz1]; exact Array.size_push ..
  have x0' : Blk w2 w.heap.size 33 #[.slice none 0 0] := by rw [← hw2]; exact x0.below ((Below.refl _ w1).alloc (Nat.le_refl _) _) (by omega)
  rw [hw2] at hb0 x1
  have x2 := Blk.new w2 33 #[.slice none 0 0]
  obtain ⟨w3, hw3⟩ : ∃ w3, w2.alloc (.cells #[.slice none 0 0] 33) = w3 := ⟨_, rfl⟩
  have hz3 : w3.heap.size = w.heap.size + 3 := by
    have h : w3.heap.size = w2.heap.size + 1 := by rw [← hw3]; exact Array.size_push ..
    omega
  have hb23 : Below w2.heap.size w2 w3 := by rw [← hw3]; exact (Below.refl _ w2).alloc (Nat.le_refl _) _
  have y0 := x0'.below hb23 (by omega)
  have y1 := x1.below hb23 (by omega)
  rw [hw3] at hb0 x2
  rw [hz1] at y1
  rw [hz2] at x2
  have HW3 := Lib.hid (show ((w.alloc (.cells #[.slice none 0 0] 33)).alloc (.cells #[.bool false] 4)).alloc (.cells #[.slice none 0 0] 33) = w3 by rw [hw1, hw2, hw3])
  clear hw1 hw2 hw3 x0 x1 x0' hb23 hz1 hz2
  have kc := Lib.run_convert_string_bytes (P := Tryd.prog) w3 9 33 5 (strOf s) Tryd.underlying9 Tryd.underlying33 Tryd.underlying5
  have hcap : (strOf s).size ≤ grownCap w3 (strOf s).size 0 5 := grownCap_ge _ _ _ _
  rw [strOf_size] at kc hcap
  obtain ⟨C, hC⟩ : ∃ C, grownCap w3 s.length 0 5 = C := ⟨_, rfl⟩
  rw [hC] at kc hcap
  have hb34 : Below w3.heap.size w3 (Lib.bytesWorld w3 5 (strOf s)) := Joins.below_bytesWorld _ _ _ _ (Nat.le_refl _)
  have hz4 := Lib.bytesWorld_size w3 5 (strOf s)
  have hr4 : Reads (Lib.bytesWorld w3 5 (strOf s)) (w3.heap.size + 1) 1 (some ⟨w3.heap.size, 0, none⟩) s.length (bv s) := by
    refine ⟨by simp, fun _ => ⟨_, rfl, by simp, fun j u hu => ?_⟩⟩
    have hj : j < s.length := by have := (List.getElem?_eq_some_iff.1 hu).1; simpa using this
    have hcell := Lib.bytesWorld_cell w3 5 (strOf s) j (by simpa using hj)
    have hadd : (⟨w3.heap.size, 0, none⟩ : Addr).add j = ⟨w3.heap.size, j, none⟩ := by unfold Addr.add; split <;> simp_all
    rw [hadd, hcell, ← hu, bv_get s j hj]
    simp [List.getD, hj]
  obtain ⟨w4, hw4⟩ : ∃ w4, Lib.bytesWorld w3 5 (strOf s) = w4 := ⟨_, rfl⟩
  rw [hw4] at kc hb34 hz4 hr4
  have hb4 : Below w.heap.size w w4 := hb0.trans (hb34.mono hb0.size)
  have y0' := y0.below hb34 y0.lt
  have y1' := y1.below hb34 y1.lt
  have y2' := x2.below hb34 x2.lt
  have hb46 : Below w4.heap.size w4 ((w4.alloc (.cells #[.slice (some ⟨w3.heap.size, 0, none⟩) s.length C] 33)).alloc (.cells #[.int .i64 2] 3)) := ((Below.refl _ w4).alloc (Nat.le_refl _) _).alloc (by simp) _
  obtain ⟨w5, hw5⟩ : ∃ w5, w4.alloc (.cells #[.slice (some ⟨w3.heap.size, 0, none⟩) s.length C] 33) = w5 := ⟨_, rfl⟩
  have z3 := Blk.new w4 33 #[.slice (some ⟨w3.heap.size, 0, none⟩) s.length C]
  have hz5 : w5.heap.size = w4.heap.size + 1 := by rw [← hw5]; exact Array.size_push ..
  rw [hw5] at z3 hb46
  obtain ⟨w6, hw6⟩ : ∃ w6, w5.alloc (.cells #[.int .i64 2] 3) = w6 := ⟨_, rfl⟩
  have z4 := Blk.new w5 3 #[.int .i64 2]
  have hz6 : w6.heap.size = w5.heap.size + 1 := by rw [← hw6]; exact Array.size_push ..
  have hb56 : Below w5.heap.size w5 w6 := by rw [← hw6]; exact (Below.refl _ w5).alloc (Nat.le_refl _) _
  have z3' := z3.below hb56 (by omega)
  rw [hw6] at z4 hb46
  have hr6 := (hr4.below (hb46.mono (by omega)))
  have y0'' := y0'.below hb46 y0'.lt
  have y1'' := y1'.below hb46 y1'.lt
  have y2'' := y2'.below hb46 y2'.lt
  have hb6 : Below w.heap.size w w6 := hb4.trans (hb46.mono hb4.size)
  have HCH := Lib.hid (callsIn_wide (n := 4) |>.2 (Chunk_calls (some ⟨w3.heap.size, 0, none⟩) s.length C w4))
  rw [hw5, hw6] at HCH
  have HB6 := Lib.hid hb6
  have HR6 := Lib.hid hr6
  have HY0 := Lib.hid y0''
  have HY1 := Lib.hid y1''
  have HY2 := Lib.hid y2''
  have HZ3 := Lib.hid z3'
  have HZ4 := Lib.hid z4
  have HSZ := Lib.hid (And.intro hz3 (And.intro hz4 (And.intro hz5 hz6)))
  clear hb0 y0 y1 x2 hb34 hz3 hz4 hz5 hz6 hr4 hb4 y0' y1' y2' hb46 z3 hb56 z3' z4 hr6 y0'' y1'' y2'' hb6 hw5 hw6 hC hw4
  refine callsIn_of_wp_marks Tryd.func24 rfl trivial ?_ rfl
  simp only [Tryd.ntmps24, List.size_toArray, List.length_cons, List.length_nil, Nat.reduceAdd, Nat.reduceSub, Array.replicate_succ, Array.replicate_zero, List.push_toArray, List.append_toArray, List.nil_append, List.cons_append]
  gi_wp2_with fail
  rw [HW3.out, kc]
  clear kc
  gi_wp2_with fail
  refine ⟨trivial, HCH.out.mono ?_⟩
  rintro e w7 ⟨rfl, rfl⟩
  gi_wp2_with fail
  rw [HSZ.out.2.2.1] at HZ4
  refine wpIn_rangeFunc_ownG rfl (by decide) (gf := 58) (lb := #[.pointer (some ⟨w4.heap.size, 0, none⟩), .pointer (some ⟨w4.heap.size + 1, 0, none⟩)]) rfl trivial (enters_of Tryd.func58 (by kernel_rfl) rfl)
    (chunk_stops 4 (by decide) w4.heap.size (w4.heap.size + 1) w3.heap.size w7.heap.size s.length C ⟨w3.heap.size, 0, none⟩ hcap (by omega) w7 (HZ3.out.cell 0) (HZ4.out.cell 0) (by have := HSZ.out; omega) (by have := HSZ.out; omega) (by have := HSZ.out; omega) (by have := HSZ.out; omega) (Nat.le_refl _))
    KIn.trans' (fun W l o o' h1 h2 h3 h4 => KIn.putObj h1) (Below.refl _ _) (fun _ => rfl)
    (fun pre W => (∀ x ∈ pre, (cv s x.1).isSome = true) ∧ (∃ v, Boxed W (w.heap.size + 1 + 1) 33 v ∧ W.ownsRow w7.heap.size 5 1 v pre.length (bv (pre.map fun x => (cv s x.1).getD 0)) ∧ True) ∧ Keep2 (w.heap.size + 1 + 1) w7 W ∧ Below w.heap.size w W)
    (fun c pre W => c = .ret ∧ (∃ x ∈ pre, cv s x.1 = none) ∧ Boxed W w.heap.size 33 (.slice none 0 0) ∧ Boxed W (w.heap.size + 1) 4 (.bool false) ∧ Below w.heap.size w W)
    (fun pre A B row hs hg hr => ⟨hs.1, Own.from (holdsRow_own w7.heap.size (w.heap.size + 1 + 1) 33 5 1 (fun pre => pre.length) (fun pre : List (Ck s.length) => bv (pre.map fun x => (cv s x.1).getD 0)) (fun _ _ => True)) _ pre A B row hs.2.1 hg hr, hs.2.2.1.grown hg (fun r e => (hr r e).1), hs.2.2.2.grown hg hs.2.2.2.size (fun k e => by have := (hr k e).1; have := HSZ.out; omega)⟩)
    (fun c pre A B row hs hg hr => ⟨hs.1, hs.2.1, hs.2.2.1.kept hg (fun e => by have := (hr _ e.symm).1; have := HSZ.out; omega), hs.2.2.2.1.kept hg (fun e => by have := (hr _ e.symm).1; have := HSZ.out; omega), hs.2.2.2.2.grown hg hs.2.2.2.2.size (fun k e => by have := (hr k e).1; have := HSZ.out; omega)⟩)
    ⟨(fun x hx => by cases hx), ⟨_, HY2.out, World.ownsRow_nil _ _ _ _, trivial⟩, ⟨Nat.le_refl _, fun _ _ _ => rfl⟩, HB6.out⟩
    (fun x => { tmps := #[.string (strOf s), undef, .pointer (some ⟨w.heap.size, 0, none⟩), .pointer (some ⟨w.heap.size + 1, 0, none⟩), .pointer (some ⟨w.heap.size + 1 + 1, 0, none⟩), ckv ⟨w3.heap.size, 0, none⟩ s.length x.1, undef, undef, undef, undef, .string (strOf s), .bool false, .string (strOf s), .slice (some ⟨w3.heap.size, 0, none⟩) s.length C,
      .func (.func 58) #[] #[.pointer (some ⟨w4.heap.size, 0, none⟩), .pointer (some ⟨w4.heap.size + 1, 0, none⟩)], ckv ⟨w3.heap.size, 0, none⟩ s.length x.1, undef, undef, undef, undef, undef, undef, undef, undef, undef, undef, undef, undef, undef, undef, undef, undef, undef, undef, undef, undef, undef, undef, undef, undef, undef, undef, undef, undef, undef], defers := [] }) ?assign ?body ?done ?stop
  case assign =>
    intro l x W K hK
    gi_wp2
    exact hK
  case body =>
    rintro l pre x W ⟨hall, ⟨v, hv, hrow, _⟩, hk2, hB⟩ hlt
    have hc := hv.cell
    obtain ⟨k, hk⟩ := x
    have hcells : ∀ j (hj : j < s.length), W.cell? ⟨w3.heap.size, j, none⟩ = some (.int .u8 (s[j].toNat : Int)) := fun j hj => by
      rw [← addr_plain]
      obtain ⟨ad', e, _, hcell⟩ := HR6.out.2 (by omega)
      injection e with e
      subst e
      have h1 := hcell j _ (by rw [bv_get s j hj])
      rw [← h1]
      refine World.cell?_of_block (hk2.2 _ ?_ ?_)
      · rw [block_of_add]; have := HSZ.out; show w3.heap.size < _; omega
      · rw [block_of_add]; have := HSZ.out; show w3.heap.size ≠ _; omega
    dsimp only [ckv]
    simp only [addr_plain]
    obtain ⟨en, hen⟩ : ∃ en, min 2 (s.length - 2 * k) = en := ⟨_, rfl⟩
    rw [hen]
    have he1 : 1 ≤ en := by omega
    have hca := hcells (2 * k) hk
    obtain ⟨a, hae⟩ : ∃ a, s[2 * k] = a := ⟨_, rfl⟩
    rw [hae] at hca
    have HALL := Lib.hid hall
    have HROW := Lib.hid hrow
    have HK2 := Lib.hid hk2
    have HB := Lib.hid hB
    have HV := Lib.hid hv
    have HIX := Lib.hid (fun c W => callsIn_wide (n := 2) |>.2 (IndexHex_calls c W))
    by_cases h2 : en = 2
    · subst h2
      have hk1 : 2 * k + 1 < s.length := by omega
      have hcb := hcells (2 * k + 1) hk1
      obtain ⟨b, hbe⟩ : ∃ b, s[2 * k + 1] = b := ⟨_, rfl⟩
      rw [hbe] at hcb
      have HCV : Hid (cv s k = match hexv a, hexv b with | some x, some y => some (UInt8.ofNat (x * 16 + y)) | _, _ => none) := Lib.hid (by
        unfold cv
        rw [List.drop_eq_getElem_cons hk, List.drop_eq_getElem_cons hk1, hae, hbe]
        rfl)
      have v0 : Boxed W w.heap.size 33 (.slice none 0 0) := (hk2.2 _ (by have := HSZ.out; omega) (by omega)).trans HY0.out
      have v1 : Boxed W (w.heap.size + 1) 4 (.bool false) := (hk2.2 _ (by have := HSZ.out; omega) (by omega)).trans HY1.out
      have V0 := Lib.hid v0
      have V1 := Lib.hid v1
      have p0 := v0.cell
      have p1 := v1.cell
      have f0 := v0.frozen
      have f1 := v1.frozen
      clear hall hrow hk2 hB hv hen hcells hae hc v0 v1 hbe
      gi_wp2_with fail
      gi_loopw [18, 6] (fun i bb wr => wr = W ∧ ((i = .int .i64 0 ∧ bb = .int .i64 0) ∨ (i = .int .i64 1 ∧ ∃ x : Nat, hexv a = some x ∧ bb = .int .i64 x) ∨ (i = .int .i64 2 ∧ ∃ x y : Nat, hexv a = some x ∧ hexv b = some y ∧ bb = .int .i64 ((x * 16 + y : Nat) : Int)))) (fun i _ _ => 2 - (intOf i).toNat)
      case atStart => exact ⟨rfl, .inl ⟨rfl, rfl⟩⟩
      case round =>
        obtain ⟨rfl, hh⟩ := hrel
        rcases hh with ⟨rfl, rfl⟩ | ⟨rfl, x, hx, rfl⟩ | ⟨rfl, x, y, hx, hy, rfl⟩
        · gi_wp2_with fail
          refine ⟨trivial, (CallsIn.inRound l (HIX.out a wr)).mono ?_⟩
          rintro e wz ⟨rfl, rfl⟩
          cases hv : hexv a with
          | none =>
            gi_wp2_with fail
            exact ⟨((KeepsOthers.setCell _ _ _).trans (KeepsOthers.setCell _ _ _)).from _, rfl, ⟨⟨k, hk⟩, by simp, by rw [HCV.out, hv]⟩, (V0.out.set _).other (by omega) _, (V1.out.other (by omega) _).set _,
              (HB.out.setCell (p := ⟨w.heap.size, 0, none⟩) (Nat.le_refl _) _).setCell (p := ⟨w.heap.size + 1, 0, none⟩) (by simp) _⟩
          | some x =>
            have hx16 := hexv_lt hv
            have HX := Lib.hid hv
            clear hv
            gi_wp2_with fail
            go_roundw
            case rel => exact ⟨trivial, .inr (.inl ⟨rfl, x, HX.out, by rw [or_zero hx16]⟩)⟩
            case measure => simp [intOf]
        · have hx16 := hexv_lt hx
          have HX := Lib.hid hx
          clear hx
          gi_wp2_with fail
          refine ⟨trivial, (CallsIn.inRound l (HIX.out b wr)).mono ?_⟩
          rintro e wz ⟨rfl, rfl⟩
          cases hv : hexv b with
          | none =>
            gi_wp2_with fail
            exact ⟨((KeepsOthers.setCell _ _ _).trans (KeepsOthers.setCell _ _ _)).from _, rfl, ⟨⟨k, hk⟩, by simp, by rw [HCV.out, HX.out, hv]⟩, (V0.out.set _).other (by omega) _, (V1.out.other (by omega) _).set _,
              (HB.out.setCell (p := ⟨w.heap.size, 0, none⟩) (Nat.le_refl _) _).setCell (p := ⟨w.heap.size + 1, 0, none⟩) (by simp) _⟩
          | some y =>
            have hy16 := hexv_lt hv
            have HY := Lib.hid hv
            clear hv
            gi_wp2_with fail
            go_roundw
            case rel =>
              exact ⟨trivial, .inr (.inr ⟨rfl, x, y, HX.out, HY.out, by rw [or_16 hx16 hy16]⟩)⟩
            case measure => simp [intOf]
        · have hx16 := hexv_lt hx
          have hy16 := hexv_lt hy
          have hc := HV.out.cell
          have HXY := Lib.hid (And.intro hx hy)
          obtain ⟨z, hz⟩ : ∃ z : Nat, x * 16 + y = z := ⟨_, rfl⟩
          have hz256 : z ≤ 255 := by omega
          rw [hz]
          have HZ := Lib.hid hz
          clear hx hy hz p0 p1 f0 f1
          obtain ⟨i0, hi, hz0, hz1, hz2⟩ := info_parts u8_info
          gi_wp2_with (gi_at_builtin; refine wpListIn_append_own _ rfl _ _ 33 rfl w7.heap.size 5 i0 (.int .u8 0) 1 1 Tryd.underlying33 hi hz0 hz1 hz2 rfl (by decide) _ _ _ rfl (HROW.out.alloc _) ⟨wr.heap.size, 0, none⟩ 1 1 [.int .u8 (z : Int)] rfl rfl (cell_one_new _ _ _) (by simp [Value.oneCell']) (by simp only [maxLen]; omega) (by omega) (by have := HK2.out.1; simp; omega) ?_; intro v' w8 hown' hgrow _; obtain ⟨g', cap', rfl⟩ := ownsRow_succ hown'; have hst := Lib.hid (out_step HV.out HROW.out HK2.out HB.out (by have := HSZ.out; omega) hown' hgrow); have hc1 := hst.out.1.cell; have hf1 := hst.out.1.frozen)
          obtain ⟨_, hb2, hr2, hko, hkk, hbb⟩ := hst.out
          have hcv : cv s k = some (UInt8.ofNat z) := by
            rw [HCV.out, HXY.out.1, HXY.out.2]
            dsimp only
            rw [HZ.out]
          have hzb : ((UInt8.ofNat z).toNat : Int) = (z : Int) := by simp; omega
          refine ⟨hko.from _, fun i h1 h2 => (hkk.2 i h2 (by have := HSZ.out; omega)).trans (HK2.out.2 i h2 (by have := HSZ.out; omega)).symm, fun x hx => ?_, ⟨_, hb2, ?_, trivial⟩, hkk, hbb⟩
          · rcases List.mem_append.1 hx with hx | hx
            · exact HALL.out x hx
            · rw [List.mem_singleton.1 hx, hcv]; rfl
          · rw [List.length_append, List.map_append, bv_append]
            simp only [List.map_cons, List.map_nil, hcv, Option.getD_some, bv_cons, bv_nil, hzb, List.length_cons, List.length_nil]
            exact hr2
    · have h1 : en = 1 := by omega
      subst h1
      have HCV : Hid (cv s k = none) := Lib.hid (by
        unfold cv
        rw [List.drop_eq_getElem_cons hk, show s.drop (2 * k + 1) = [] from List.drop_eq_nil_of_le (by omega)]
        rfl)
      have v0 : Boxed W w.heap.size 33 (.slice none 0 0) := (hk2.2 _ (by have := HSZ.out; omega) (by omega)).trans HY0.out
      have v1 : Boxed W (w.heap.size + 1) 4 (.bool false) := (hk2.2 _ (by have := HSZ.out; omega) (by omega)).trans HY1.out
      have V0 := Lib.hid v0
      have V1 := Lib.hid v1
      have p0 := v0.cell
      have p1 := v1.cell
      have f0 := v0.frozen
      have f1 := v1.frozen
      clear hall hrow hk2 hB hv hen hcells hae hc v0 v1
      gi_wp2_with fail
      gi_loopw [18] (fun i wr => i = .int .i64 0 ∧ wr = W) (fun _ _ => 0)
      case atStart => exact ⟨rfl, rfl⟩
      case round =>
        obtain ⟨rfl, rfl⟩ := hrel
        gi_wp2_with fail
        refine ⟨trivial, (CallsIn.inRound l (HIX.out a wr)).mono ?_⟩
        rintro e wz ⟨rfl, rfl⟩
        cases hv : hexv a
        all_goals
          gi_wp2_with fail
          exact ⟨((KeepsOthers.setCell _ _ _).trans (KeepsOthers.setCell _ _ _)).from _, rfl, ⟨⟨k, hk⟩, by simp, HCV.out⟩, (V0.out.set _).other (by omega) _, (V1.out.other (by omega) _).set _,
            (HB.out.setCell (p := ⟨w.heap.size, 0, none⟩) (Nat.le_refl _) _).setCell (p := ⟨w.heap.size + 1, 0, none⟩) (by simp) _⟩
  case done =>
    rintro D ys W hD ⟨j, hj, hys⟩ ⟨hall, ⟨v, hv, hrow, _⟩, hk2, hB⟩ hK
    have hc := hv.cell
    have v0 : Boxed W w.heap.size 33 (.slice none 0 0) := (hk2.2 _ (by have := HSZ.out; omega) (by omega)).trans HY0.out
    have v1 : Boxed W (w.heap.size + 1) 4 (.bool false) := (hk2.2 _ (by have := HSZ.out; omega) (by omega)).trans HY1.out
    have p0 := v0.cell
    have p1 := v1.cell
    have f0 := v0.frozen
    have f1 := v1.frozen
    have hlo : v.ownBlock ≠ some w.heap.size := fun e => by have := (hrow.lt _ e).1; have := HSZ.out; omega
    have hOB : OB w7.heap.size W v (ys.map fun x => (cv s x.1).getD 0) := by
      show W.ownsRow _ _ _ v (ys.map _).length _
      rw [List.length_map]
      exact hrow
    obtain ⟨av, cvv, hvv, _, _, _, _⟩ := hOB.reads
    rw [List.length_map] at hvv
    subst hvv
    gi_wp2_with fail
    gi_region
    gi_wp2_with fail
    have hDw : w7.heap.size ≤ D := by simpa using hD
    have hK2 := ((KeepsOthers.setCell W ⟨w.heap.size, 0, none⟩ (.slice av ys.length cvv)).trans (KeepsOthers.setCell _ ⟨w.heap.size + 1, 0, none⟩ (.bool (decide (0 < ys.length))))).same D _ hK rfl
    have z0 := ((v0.set (.slice av ys.length cvv)).other (B' := w.heap.size + 1) (by omega) (.bool (decide (0 < ys.length))))
    have z1 := ((v1.other (B' := w.heap.size) (by omega) (.slice av ys.length cvv)).set (.bool (decide (0 < ys.length))))
    have hlo2 : (Value.slice av ys.length cvv).ownBlock ≠ some (w.heap.size + 1) := fun e => by have := (hrow.lt _ e).1; have := HSZ.out; omega
    have zr : OB w7.heap.size _ (.slice av ys.length cvv) (ys.map fun x => (cv s x.1).getD 0) := World.ownsRow.kept (World.ownsRow.kept hOB (grown_set W w.heap.size 0 (.slice av ys.length cvv)) (.inr hlo)) (grown_set _ (w.heap.size + 1) 0 (.bool (decide (0 < ys.length)))) (.inr hlo2)
    have zb := (hB.setCell (p := ⟨w.heap.size, 0, none⟩) (Nat.le_refl _) (.slice av ys.length cvv)).setCell (p := ⟨w.heap.size + 1, 0, none⟩) (by simp) (.bool (decide (0 < ys.length)))
    obtain ⟨X, hX⟩ : ∃ X, ((W.setCell ⟨w.heap.size, 0, none⟩ (.slice av ys.length cvv)).setCell ⟨w.heap.size + 1, 0, none⟩ (.bool (decide (0 < ys.length)))) = X := ⟨_, rfl⟩
    rw [hX] at hK2 z0 z1 zr zb ⊢
    have hK3 : X.drew.heap[D]? = some (.deferred (some [])) := hK2
    have y0 : Boxed X.drew w.heap.size 33 (.slice av ys.length cvv) := z0
    have y1 : Boxed X.drew (w.heap.size + 1) 4 (.bool (decide (0 < ys.length))) := z1
    have yr : OB w7.heap.size X.drew (.slice av ys.length cvv) (ys.map fun x => (cv s x.1).getD 0) := zr
    have yb : Below w.heap.size w X.drew := zb.drew
    refine ⟨by simp, .inl ⟨_, _, rfl, run_takeDeferred hK3, ?_⟩⟩
    have u0 := y0.kept (grownBy_putObj' X.drew D (.deferred none)) (fun e => by have := HSZ.out; injection e with e; omega)
    have u1 := y1.kept (grownBy_putObj' X.drew D (.deferred none)) (fun e => by have := HSZ.out; injection e with e; omega)
    refine ⟨_, results_two_cells rfl _ _ w.heap.size (w.heap.size + 1) _ _ rfl rfl (run_loadVar_one _ _ _ _ _ u0.cell Tryd.underlying33 rfl) (run_loadVar_one _ _ _ _ _ u1.cell Tryd.underlying4 rfl), ?_⟩
    have hyl : ys.length = j := by have := congrArg List.length hys; simpa using this
    have hres : (hexB s).isSome = decide (0 < ys.length) ∧ (hexB s).getD [] = ys.map fun x => (cv s x.1).getD 0 := by
      unfold hexB
      rw [if_neg (by intro e; rw [e] at hne; exact absurd hne (by decide))]
      by_cases hs0 : s = []
      · rw [if_pos hs0]
        have : ys = [] := by
          cases ys with
          | nil => rfl
          | cons x t =>
            have h2 := x.2
            have h3 : s.length = 0 := List.length_eq_zero_iff.2 hs0
            omega
        subst this
        exact ⟨rfl, rfl⟩
      · rw [if_neg hs0]
        have hlen : 0 < s.length := by
          cases s with
          | nil => exact absurd rfl hs0
          | cons a t => simp
        have hj2 : 2 * j < s.length + 2 := by
          rcases Nat.eq_zero_or_pos j with e | e
          · omega
          · have hm : j - 1 ∈ ys.map (·.1) := by rw [hys]; exact List.mem_range.2 (by omega)
            obtain ⟨x, _, hx⟩ := List.mem_map.1 hm
            have := x.2
            omega
        have hall' : ∀ k, k < j → (cv s k).isSome = true := fun k hk => by
          have hm : k ∈ ys.map (·.1) := by rw [hys]; exact List.mem_range.2 hk
          obtain ⟨x, hx, rfl⟩ := List.mem_map.1 hm
          exact hall x hx
        rw [hexP_all _ s (Nat.le_refl _) j hj hj2 hall', ← hys, List.map_map]
        refine ⟨?_, rfl⟩
        have : 0 < ys.length := by omega
        simp [this]
    refine ⟨yb.trans (belowK_b (w := w) (Nat.le_refl _) X.drew D _ _ (by have := HSZ.out; omega) hK3 rfl rfl), .slice av ys.length cvv, by rw [hres.1], ?_⟩
    rw [hres.2]
    exact OB.low (base := w7.heap.size) (show OB _ _ _ _ from ownsRow_putObj yr _ hK3 rfl) (by have := HSZ.out; omega)
  case stop =>
    rintro D c pre W hD ⟨j, hpre⟩ ⟨rfl, ⟨x, hx, hxc⟩, v0, v1, hB⟩ hK
    have p0 := v0.cell
    have p1 := v1.cell
    gi_wp2_with fail
    have hDw : w7.heap.size ≤ D := by simpa using hD
    refine ⟨by simp, .inl ⟨_, _, rfl, run_takeDeferred hK, ?_⟩⟩
    have u0 := v0.kept (grownBy_putObj' W D (.deferred none)) (fun e => by have := HSZ.out; injection e with e; omega)
    have u1 := v1.kept (grownBy_putObj' W D (.deferred none)) (fun e => by have := HSZ.out; injection e with e; omega)
    refine ⟨_, results_two_cells rfl _ _ w.heap.size (w.heap.size + 1) _ _ rfl rfl (run_loadVar_one _ _ _ _ _ u0.cell Tryd.underlying33 rfl) (run_loadVar_one _ _ _ _ _ u1.cell Tryd.underlying4 rfl), ?_⟩
    have hh : hexB s = none := by
      unfold hexB
      rw [if_neg (by intro e; rw [e] at hne; exact absurd hne (by decide))]
      split
      · rfl
      · exact hexP_bad _ s (Nat.le_refl _) x.1 x.2 hxc
    rw [hh]
    exact ⟨hB.trans (belowK_b (w := w) (Nat.le_refl _) W D _ _ (by have := HSZ.out; omega) hK rfl rfl), _, rfl, World.ownsRow_nil _ _ _ _⟩
end Go.Proofs.YtefpobkkldgogaaDoor
