/- The given statement on NegoPlays, off the walk. -/
import Derived.Test.YtfjlgpbplliccaaRows
import Derived.Test.YtfjlgpbplliccaaV
import Derived.ProofKit
import Derived.OpenShut
import Derived.ShutString
import Derived.Lib.SmallJoins
import Derived.Deep.Slices
import Derived.Deep.Fields
namespace Go.Proofs.Ytfjlgpbplliccaa
open Go.ChangeShapes Go.WideShapes Go.ChangeAt Go.RowKit Go.Joins Go.Deep

section
variable {H : Type} {enc : TypeId × Value → H} {P : Program} {w : World} {base : Nat} {spare : Nat → Bool} {held : Bool}
theorem open_slice_fields {t e : TypeId} {fs : Array Field} {fuel : Nat} {cs : List Value} {x : DataW H × List MemPlace} (ht : P.underlying t = some (.slice e)) (he : P.underlying e = some (.struct fs))
    (hone : oneCellFields P fs = true) (hC : P.cellsOf e = fs.size) (h : DataW.trod enc P w base spare held fuel t cs = some x) :
    (cs = [.slice none 0 0] ∧ x = (.nil, [])) ∨
    ∃ (a : Addr) (len cap m : Nat) (D : Nat → DataW H) (Pl : Nat → List MemPlace), cs = [.slice (some a) len cap] ∧ base ≤ a.block ∧ len ≤ cap ∧ cap ≤ maxLen ∧ m = (if spare a.block then cap else len) ∧
      x = (.slice ((List.range len).map D) ((List.range (m - len)).map fun j => D (len + j)), MemPlace.row a (m * fs.size) ++ (List.range m).flatMap Pl) ∧
      ∀ i, i < m → ∃ (ys : List (DataW H × List MemPlace)) (n : Nat), D i = .agg (ys.map (·.1)) ∧ Pl i = ys.flatMap (·.2) ∧ ys.length = fs.size ∧
        ∀ (j : Nat) (f : Field), fs[j]? = some f → ∃ (v : Value) (y : DataW H × List MemPlace), w.cell? (a.add (i * fs.size + j)) = some v ∧ ys[j]? = some y ∧ DataW.trod enc P w base spare held n f.type [v] = some y := by
  rcases open_slice ht h with h0 | ⟨a, len, cap, m, n, D, Pl, hcs, hb, hl, hm, hmm, hx, hi⟩
  · exact .inl h0
  · refine .inr ⟨a, len, cap, m, D, Pl, hcs, hb, hl, hm, hmm, by rw [hC] at hx; exact hx, fun i him => ?_⟩
    obtain ⟨cs', hc, ht'⟩ := hi i him
    rw [hC] at hc
    obtain ⟨ys, n', hn', hy, hlen, hyl, hf⟩ := DataW.trod_struct he ht'
    obtain ⟨_, hcl, hat⟩ := World.cells?_some hc
    simp only [Prod.mk.injEq] at hy
    refine ⟨ys, n', hy.1, hy.2, hyl, fun j f hj => ?_⟩
    obtain ⟨ho, hk⟩ := hone_of hone j f hj
    have hjl : j < fs.size := (Array.getElem?_eq_some_iff.1 hj).1
    have hcell := hat j hjl
    have hv : cs'[j]? = some (cs'[j]'(by omega)) := List.getElem?_eq_getElem (by omega)
    have h1 := hf j f hj
    rw [ho, hk] at h1
    have hone' : (cs'.drop j).take 1 = [cs'[j]'(by omega)] := by
      rw [List.drop_eq_getElem_cons (by omega)]
      rfl
    rw [hone'] at h1
    have hys : ys[j]? = some (ys[j]'(by omega)) := List.getElem?_eq_getElem (by omega)
    refine ⟨_, _, ?_, hys, h1.trans hys⟩
    rw [← Go.Deep.add_add, hcell, hv]

/-- a slice of bytes that came in, as the walks have it -/
theorem read_bytes {fuel : Nat} {v : Value} {x : DataW H × List MemPlace} (ht : P.underlying 22 = some (.slice 5)) (he : P.underlying 5 = some (.int .u8)) (hc : P.cellsOf 5 = 1)
    (h : DataW.trod enc P w base spare held fuel 22 [v] = some x) : ∃ (A : Option Addr) (cp : Nat) (xs : List UInt8), v = .slice A xs.length cp ∧ xs.length ≤ cp ∧ cp ≤ maxLen ∧ RB w A xs := by
  rcases open_ints ht he hc h with ⟨hcs, _⟩ | ⟨a, l, c, zs, hcs, _, hl, hm, hz, _, hcell, hwz⟩
  · injection hcs with hcs
    subst hcs
    exact ⟨none, 0, [], rfl, Nat.le_refl _, by decide, Reads.none_⟩
  · injection hcs with hcs
    subst hcs
    have hzl : l ≤ zs.length := by rw [hz]; split <;> omega
    have hlen : ((zs.take l).map fun z => UInt8.ofNat z.toNat).length = l := by simp; omega
    refine ⟨some a, c, (zs.take l).map fun z => UInt8.ofNat z.toNat, by rw [hlen], by rw [hlen]; exact hl, hm, ⟨by simp, fun hn => ⟨a, rfl, ?_, fun j u hu => ?_⟩⟩⟩
    · have h0 := hcell 0 (by omega)
      have := World.block_lt_of_cell? _ _ h0
      simpa [Addr.add] using this
    · have hj : j < l := by
        have := (List.getElem?_eq_some_iff.1 hu).1
        rw [bv_length, hlen] at this
        exact this
      rw [hcell j (by omega)]
      rw [bv_get _ j (by rw [hlen]; exact hj)] at hu
      rw [← hu]
      have hw := hwz zs[j] (List.getElem_mem _)
      have hb := bounds_u8 hw
      simp only [List.getElem_map, List.getElem_take]
      rw [show zs.getD j 0 = zs[j] from by simp [List.getD, show j < zs.length from by omega]]
      congr 2
      simp
      omega
end
theorem own : ownKnob Try.prog.godebug = none := by kernel_rfl
theorem laidOut : laidOutB Try.prog = true := by kernel_rfl
theorem list_of {α : Type} {P : Nat → α → Prop} (n : Nat) (h : ∀ i, i < n → ∃ o, P i o) : ∃ os : List α, os.length = n ∧ ∀ k o, os[k]? = some o → P k o := by
  induction n with
  | zero => exact ⟨[], rfl, fun k o h => by simp at h⟩
  | succ n ih =>
    obtain ⟨os, hl, hp⟩ := ih fun i hi => h i (by omega)
    obtain ⟨o, ho⟩ := h n (by omega)
    refine ⟨os ++ [o], by simp [hl], fun k x hk => ?_⟩
    by_cases hkn : k < os.length
    · rw [List.getElem?_append_left hkn] at hk
      exact hp k x hk
    · rw [List.getElem?_append_right (by omega)] at hk
      have h0 : k - os.length = 0 := by
        rcases Nat.eq_zero_or_pos (k - os.length) with e | e
        · exact e
        · rw [List.getElem?_eq_none (by simp; omega)] at hk
          cases hk
      rw [h0] at hk
      simp at hk
      rw [show k = n by omega, ← hk]
      exact ho
theorem toStr (b : ByteArray) : ∃ xs : List UInt8, b = strOf xs := ⟨b.data.toList, by simp [strOf]⟩

set_option maxRecDepth 100000 in
theorem negoPlays_lifted (os : Os) (started : os.Started) (H : Type) (enc : TypeId × Value → H) :
    ReturnsInHanded {} Try.checked os 3 .any (Rows.negoPlaysSpec.pre6 enc Try.prog Try.f3 Rows.negoPlaysRow.domain false) (Rows.negoPlaysSpec.post enc Try.prog Try.f3 false true false false) := by
  refine returnsInHanded_of_change (C := Try.checked) own started (by kernel_rfl) Try.func3
    (ChangeSpec.witness6 (enc := enc) (C := Try.checked) false ⟨#[], #[.agg #[.string ⟨#[]⟩, .string ⟨#[]⟩, .slice none 0 0], .slice none 0 0], []⟩ 8 (by kernel_rfl) (by kernel_rfl) (by kernel_rfl) (by kernel_rfl)) ?_
  intro W base args ds gs before hval0 hW hcnd _
  have hval : ∀ (j : Nat) t v, Try.f3.params[j]? = some t → args[j]? = some v → Value.okWide Try.prog W .any base t v := hval0
  have hW' := hW
  obtain ⟨p, q, hA0, hV, rfl, hfz, hnd⟩ := hW
  have hA : DataW.TrodAll enc Try.prog W 0 (fun _ => true) true Try.f3.params.toList args.toList ds p := hA0
  rw [Try.params3] at hA hval
  obtain ⟨v0, vs0, d0, ds0, p0, q0, hargs, rfl, rfl, h0, r0⟩ := trodAll_cons hA
  obtain ⟨v1, vs1, d1, ds1, p1, q1, rfl, rfl, rfl, h1, r1⟩ := trodAll_cons r0
  obtain ⟨rfl, rfl, rfl⟩ := trodAll_nil r1
  obtain rfl : args = #[v0, v1] := by cases args; simp_all
  obtain ⟨rfl, rfl⟩ := trodVars_none hV
  have k0 := h0
  have k1 := h1
  have lt0 : ∀ x ∈ p0, x.block < W.heap.size := by obtain ⟨m, hm⟩ := k0; exact DataW.trod_lt m _ _ _ hm
  have lt1 : ∀ x ∈ p1, x.block < W.heap.size := by obtain ⟨m, hm⟩ := k1; exact DataW.trod_lt m _ _ _ hm
  obtain ⟨u0, u1, u2, y0, y1, y2, n0, rfl, _, _, t0, t1, t2⟩ := open_agg3 Try.underlying24 (by kernel_rfl) (by kernel_rfl) (hval 0 24 v0 rfl rfl) h0
  obtain ⟨s0, e0, _, hs0⟩ := DataW.trod_string Try.underlying9 t0
  obtain ⟨s1, e1, _, hs1⟩ := DataW.trod_string Try.underlying9 t1
  injection e0 with e0
  injection e1 with e1
  subst e0 e1
  obtain ⟨xs0, rfl⟩ := toStr s0
  obtain ⟨xs1, rfl⟩ := toStr s1
  rw [strOf_size] at hs0 hs1
  obtain ⟨A, cp, xs2, rfl, hl2, hm2, hr2⟩ := read_bytes Try.underlying22 Try.underlying5 (by kernel_rfl) t2
  obtain ⟨S, m, mc, rfl⟩ := okWide_slice Try.underlying25 (hval 1 25 v1 rfl rfl)
  obtain ⟨os, hm, hs⟩ : ∃ os : List (Bool × UInt8 × List UInt8), m = os.length ∧ Script W S os := by
    obtain ⟨fuel, hf⟩ := h1
    rcases open_slice_fields Try.underlying25 Try.underlying38 (by kernel_rfl) (by kernel_rfl) hf with ⟨hcs, _⟩ | ⟨a, l, c, mm, D, Pl, hcs, _, hl, hm, hmm, _, hi⟩
    · simp [Value.cells] at hcs
      obtain ⟨rfl, rfl, rfl⟩ := hcs
      exact ⟨[], rfl, ⟨by simp, fun k o h => by simp at h⟩⟩
    · simp [Value.cells] at hcs
      obtain ⟨rfl, rfl, rfl⟩ := hcs
      obtain ⟨os, ho, hP⟩ := list_of (P := fun i o => OpAt W W.heap.size (a.add (i * 3)) o) m (fun i hil => by
        obtain ⟨ys, n, _, _, _, hf⟩ := hi i (by rw [hmm]; simp; omega)
        obtain ⟨x0, z0, hc0, _, g0⟩ := hf 0 _ rfl
        obtain ⟨x1, z1, hc1, _, g1⟩ := hf 1 _ rfl
        obtain ⟨x2, z2, hc2, _, g2⟩ := hf 2 _ rfl
        obtain ⟨b, eb, _⟩ := DataW.trod_bool Try.underlying4 g0
        obtain ⟨k, ek, _, wk⟩ := DataW.trod_int Try.underlying5 g1
        obtain ⟨A', cp', xs', rfl, hl', hm', hr'⟩ := read_bytes Try.underlying22 Try.underlying5 (by kernel_rfl) g2
        injection eb with eb
        injection ek with ek
        subst eb ek
        have hk := bounds_u8 wk
        refine ⟨(b, UInt8.ofNat k.toNat, xs'), A', xs'.length, cp', hc0, ?_, ?_, rfl, hl', ?_, hr'⟩
        · rw [add_of_add]
          refine hc1.trans ?_
          congr 2
          simp
          omega
        · rw [add_of_add]
          exact hc2
        · have := hm'
          unfold maxLen at this
          omega)
      refine ⟨os, ho.symm, ⟨?_, fun k o h => ⟨a, rfl, hP k o h⟩⟩⟩
      rw [ho]
      unfold maxLen at hm
      omega
  clear hA0 hval0
  refine (NegoPlays_calls W A cp ⟨xs0, xs1, xs2⟩ hr2 hl2 (by unfold maxLen at hs0; exact hs0) (by unfold maxLen at hs1; exact hs1) (by unfold maxLen at hm2; exact Nat.le_trans hl2 hm2) S m mc os hm hs).mono fun e W' ⟨he, bel⟩ => ?_
  subst he
  exact ⟨_, rfl, _, _, _, [], _, [], hW', trodAll_mk1 (shut_bool Try.underlying4 _), (trodAll_cons_mk (Below.trod laidOut (by kernel_rfl) (of_decide_eq_true (by kernel_rfl)) k0 bel lt0) (trodAll_cons_mk (Below.trod laidOut (by kernel_rfl) (of_decide_eq_true (by kernel_rfl)) k1 bel lt1) trodAll_mk0)), rfl, bel.frame _, fun h => by cases h⟩

theorem negoPlays_holds : Rows.NegoPlaysSaid :=
  OpenClaim.holds_of_wide 3 Try.f3 rfl rfl rfl rfl rfl rfl rfl ⟨rfl, rfl, rfl, rfl, rfl⟩ rfl rfl rfl rfl rfl (by kernel_rfl) Try.func3 (by kernel_rfl)
    (of_decide_eq_true (by kernel_rfl)) (by unfold Func.isWrapper; first | (rw [if_pos (by decide +kernel)]; kernel_rfl) | (rw [if_neg (by decide +kernel)]; exact ⟨rfl, rfl⟩))
    (fun os started H enc _ => negoPlays_lifted os started H enc)
end Go.Proofs.Ytfjlgpbplliccaa
