/- TapeTexts, the given statement: steps of any kind and size are text as the two packages write it, or none, and come back. No condition of ours. -/
import Derived.Test.YtefpobkkldgogaaDoorTaGW
import Derived.Test.YtefpobkkldgogaaDoorTuZ
import Derived.Test.YtefpobkkldgogaaDoorCards
import Derived.Test.YtefpobkkldgogaaDoorTie
import Derived.Lib.SmallJoins
import Derived.ChangeMaps5
import Derived.Deep.Slices
import Derived.Deep.Fields
namespace Go.Proofs.YtefpobkkldgogaaDoor
open Go.ChangeShapes Go.WideShapes Go.ChangeAt Go.RowKit Go.Joins Go.ChangeMaps Go.Deep

section
variable {H : Type} {enc : TypeId × Value → H} {P : Program} {w : World} {base : Nat} {spare : Nat → Bool} {held : Bool}
/-- a slice of bytes that came in, as the walks have it -/
theorem open_bv {fuel : Nat} {v : Value} {x : DataW H × List MemPlace} (ht : P.underlying 33 = some (.slice 5)) (he : P.underlying 5 = some (.int .u8)) (hc : P.cellsOf 5 = 1)
    (h : DataW.trod enc P w base spare held fuel 33 [v] = some x) : ∃ xs : List UInt8, xs.length ≤ maxLen ∧ BV w.heap.size w v xs := by
  rcases open_ints ht he hc h with ⟨hcs, _⟩ | ⟨a, l, c, zs, hcs, _, hl, hm, hz, _, hcell, hwz⟩
  · injection hcs with hcs
    subst hcs
    exact ⟨[], by decide, none, 0, rfl, Nat.le_refl _, Reads.none_⟩
  · injection hcs with hcs
    subst hcs
    have hzl : l ≤ zs.length := by rw [hz]; split <;> omega
    have hlen : ((zs.take l).map fun z => UInt8.ofNat z.toNat).length = l := by simp; omega
    refine ⟨(zs.take l).map fun z => UInt8.ofNat z.toNat, by rw [hlen]; omega, some a, c, by rw [hlen], by rw [hlen]; exact hl, ⟨by simp, fun hn => ⟨a, rfl, ?_, fun j u hu => ?_⟩⟩⟩
    · have h0 := hcell 0 (by omega)
      have := World.block_lt_of_cell? _ _ h0
      simpa [Addr.add] using this
    · have hj : j < l := by
        have := (List.getElem?_eq_some_iff.1 hu).1
        rw [bv_length, hlen] at this
        exact this
      rw [hcell j (by omega)]
      rw [bv_get _ j (by rw [hlen]; exact hj)] at hu
      rw [← hu]
      have hw := hwz zs[j] (List.getElem_mem _)
      have hb := bounds_u8 hw
      simp only [List.getElem_map, List.getElem_take]
      rw [show zs.getD j 0 = zs[j] from by simp [List.getD, show j < zs.length from by omega]]
      congr 2
      simp
      omega
end
theorem list_of' {α : Type} {P : Nat → α → Prop} (n : Nat) (h : ∀ i, i < n → ∃ o, P i o) : ∃ os : List α, os.length = n ∧ ∀ k o, os[k]? = some o → P k o := by
  induction n with
  | zero => exact ⟨[], rfl, fun k o h => by simp at h⟩
  | succ n ih =>
    obtain ⟨os, hl, hp⟩ := ih fun i hi => h i (by omega)
    obtain ⟨o, ho⟩ := h n (by omega)
    refine ⟨os ++ [o], by simp [hl], fun k x hk => ?_⟩
    by_cases hkn : k < os.length
    · rw [List.getElem?_append_left hkn] at hk
      exact hp k x hk
    · rw [List.getElem?_append_right (by omega)] at hk
      have h0 : k - os.length = 0 := by
        rcases Nat.eq_zero_or_pos (k - os.length) with e | e
        · exact e
        · rw [List.getElem?_eq_none (by simp; omega)] at hk
          cases hk
      rw [h0] at hk
      simp at hk
      rw [show k = n by omega, ← hk]
      exact ho
theorem list5 {α : Type} {l : List α} (h : l.length = 5) : ∃ a b c d e, l = [a, b, c, d, e] := by
  match l, h with
  | [a, b, c, d, e], _ => exact ⟨a, b, c, d, e, rfl⟩
/-- one step that came in -/
theorem open_stp {H : Type} {enc : TypeId × Value → H} {w : World} {base : Nat} {spare : Nat → Bool} {held : Bool} {n : Nat} {cs : List Value} {x : DataW H × List MemPlace}
    (h : DataW.trod enc Tryd.prog w base spare held n 42 cs = some x) :
    ∃ p : Stp × Value, cs = (stc p.1 p.2).toList ∧ BV w.heap.size w p.2 p.1.bytes ∧ p.1.bytes.length ≤ maxLen ∧ inR p.1 := by
  obtain ⟨y0, y1, y2, m, _, hl, h0, h1, h2⟩ := trod_struct3 Tryd.underlying42 h
  rw [show Tryd.prog.cellsOf 42 = 5 by kernel_rfl] at hl
  obtain ⟨c0, c1, c2, c3, c4, rfl⟩ := list5 hl
  have h0' : DataW.trod enc Tryd.prog w base spare held m 5 [c0] = some y0 := by
    dsimp only at h0
    rw [show Tryd.prog.cellsOf 5 = 1 by kernel_rfl] at h0
    exact h0
  have h1' : DataW.trod enc Tryd.prog w base spare held m 33 [c1] = some y1 := by
    dsimp only at h1
    rw [show Tryd.prog.cellsOf 33 = 1 by kernel_rfl] at h1
    exact h1
  have h2' : DataW.trod enc Tryd.prog w base spare held m 40 [c2, c3, c4] = some y2 := by
    dsimp only at h2
    rw [show Tryd.prog.cellsOf 40 = 3 by kernel_rfl] at h2
    exact h2
  obtain ⟨z0, z1, z2, m', _, _, g0, g1, g2⟩ := trod_struct3 Tryd.underlying40 h2'
  have g0' : DataW.trod enc Tryd.prog w base spare held m' 3 [c2] = some z0 := by
    dsimp only at g0
    rw [show Tryd.prog.cellsOf 3 = 1 by kernel_rfl] at g0
    exact g0
  have g1' : DataW.trod enc Tryd.prog w base spare held m' 21 [c3] = some z1 := by
    dsimp only at g1
    rw [show Tryd.prog.cellsOf 21 = 1 by kernel_rfl] at g1
    exact g1
  have g2' : DataW.trod enc Tryd.prog w base spare held m' 3 [c4] = some z2 := by
    dsimp only at g2
    rw [show Tryd.prog.cellsOf 3 = 1 by kernel_rfl] at g2
    exact g2
  obtain ⟨k, ek, _, wk⟩ := DataW.trod_int Tryd.underlying5 h0'
  obtain ⟨k1, e1, _, w1⟩ := DataW.trod_int Tryd.underlying3 g0'
  obtain ⟨k2, e2, _, w2⟩ := DataW.trod_int Tryd.underlying21 g1'
  obtain ⟨k3, e3, _, w3⟩ := DataW.trod_int Tryd.underlying3 g2'
  injection ek with ek
  injection e1 with e1
  injection e2 with e2
  injection e3 with e3
  subst ek e1 e2 e3
  obtain ⟨xs, hx, hbv⟩ := open_bv Tryd.underlying33 Tryd.underlying5 (by kernel_rfl) h1'
  have hk := bounds_u8 wk
  refine ⟨(⟨UInt8.ofNat k.toNat, xs, k1, k2, k3⟩, c1), ?_, hbv, hx, bounds_i64 w1, bounds_i32 w2, bounds_i64 w3⟩
  simp [stc]; omega

set_option maxRecDepth 100000 in
theorem tapeTexts_lifted (os : Os) (started : os.Started) (H : Type) (enc : TypeId × Value → H) :
    ReturnsInHanded {} Tryd.checked os 4 .any (fun w args => (Rows.tapeTextsSpec.pre enc Tryd.prog Tryd.f4 Rows.tapeTextsRow.domain false w args ∧ laidMetH Tryd.prog laidL w) ∧ sizedMet enc Tryd.prog Tryd.f4 (OpenSpec.ofChange Rows.tapeTextsSpec) false w args)
      (Rows.tapeTextsSpec.post enc Tryd.prog Tryd.f4 false true false false) := by
  refine returnsInHanded_of_calls (C := Tryd.checked) own started (by kernel_rfl)
    (ChangeSpec.witness_shaped (enc := enc) (C := Tryd.checked) (os := os) (X := fun w _ => laidMetH Tryd.prog laidL w) false (World.laidAll Tryd.prog os laidL) #[.slice none 0 0] 8 (World.laidAll_os _ _ _)
      (World.shaped_of_ZipB (by kernel_rfl) (by kernel_rfl)) (by kernel_rfl) (by kernel_rfl) (by kernel_rfl)
      (by rw [MakeChecks.laidMetH_plain _ _ _ (by kernel_rfl)]; exact laidMet_laidAll _ (by kernel_rfl) (by kernel_rfl))) ?_
  intro w tape i _ hsh _ hok hpre _
  obtain ⟨_, _, _, fn', hfn', _, _, _, _, hval0⟩ := hok
  obtain rfl : fn' = Tryd.f4 := Option.some.inj (hfn'.symm.trans Tryd.func4)
  obtain ⟨⟨⟨ds, gs, before, hw, _⟩, hx⟩, _⟩ := hpre
  have hW := DataW.Whole.of_heap (w' := w.forCall tape i) (by rfl) hw
  have hL : laidMetH Tryd.prog laidL (w.forCall tape i) := hx.of_heap (by rfl)
  obtain ⟨W, hWW⟩ : ∃ W, w.forCall tape i = W := ⟨_, rfl⟩
  obtain ⟨args, hargs⟩ : ∃ args, i.args = args := ⟨_, rfl⟩
  rw [hWW] at hsh hW hL hval0 ⊢
  rw [hargs] at hW hval0 ⊢
  have hGW := GW.of_laid hL hsh
  clear hw hx hWW hargs
  have hval : ∀ (j : Nat) t v, Tryd.f4.params[j]? = some t → args[j]? = some v → Value.okWide Tryd.prog W .any w.heap.size t v := hval0
  have hW' := hW
  obtain ⟨p, q, hA0, hV, rfl, hfz, hnd⟩ := hW
  have hA : DataW.TrodAll enc Tryd.prog W 0 (fun _ => true) true Tryd.f4.params.toList args.toList ds p := hA0
  rw [Tryd.params4] at hA hval
  obtain ⟨v0, d0, hargs, rfl, h0⟩ := trodAll_one hA
  obtain rfl : args = #[v0] := by cases args; simp_all
  obtain ⟨rfl, rfl⟩ := trodVars_none hV
  have k0 := h0
  have lt0 : ∀ x ∈ p, x.block < W.heap.size := by obtain ⟨m, hm⟩ := k0; exact DataW.trod_lt m _ _ _ hm
  obtain ⟨S, m, mc, rfl⟩ := okWide_slice Tryd.underlying28 (hval 0 28 v0 rfl rfl)
  obtain ⟨ps, hr, hm, hb, hi⟩ : ∃ ps : List (Stp × Value), StR W S m ps ∧ m ≤ maxLen ∧ (∀ p ∈ ps, p.1.bytes.length ≤ maxLen) ∧ ∀ s ∈ ps.map (·.1), inR s := by
    obtain ⟨fuel, hf⟩ := h0
    rcases open_slice Tryd.underlying28 hf with ⟨hcs, _⟩ | ⟨a, l, c, mm, n, D, Pl, hcs, _, hl, hm, hmm, _, hi⟩
    · simp [Value.cells] at hcs
      obtain ⟨rfl, rfl, rfl⟩ := hcs
      exact ⟨[], ⟨rfl, Reads.none_, fun p hp => by simp at hp⟩, by decide, fun p hp => by simp at hp, fun p hp => by simp at hp⟩
    · simp [Value.cells] at hcs
      obtain ⟨rfl, rfl, rfl⟩ := hcs
      obtain ⟨ps, ho, hP⟩ := list_of' (P := fun i (p : Stp × Value) => (∀ j x, (stc p.1 p.2)[j]? = some x → W.cell? (a.add (i * 5 + j)) = some x) ∧ BV W.heap.size W p.2 p.1.bytes ∧ p.1.bytes.length ≤ maxLen ∧ inR p.1) m (fun i hil => by
        obtain ⟨cs', hc, ht⟩ := hi i (by rw [hmm]; simp; omega)
        rw [show Tryd.prog.cellsOf 42 = 5 by kernel_rfl] at hc
        obtain ⟨_, hcl, hat⟩ := World.cells?_some hc
        obtain ⟨p, rfl, hbv, hx, hin⟩ := open_stp ht
        refine ⟨p, fun j x hx => ?_, hbv, hx, hin⟩
        have hj : j < 5 := by
          have := (Array.getElem?_eq_some_iff.1 hx).1
          simpa [stc] using this
        have h1 := hat j hj
        rw [Go.Deep.add_add] at h1
        rw [h1]
        simpa using hx)
      have hP' : ∀ p ∈ ps, BV W.heap.size W p.2 p.1.bytes ∧ p.1.bytes.length ≤ maxLen ∧ inR p.1 := fun p hp => by
        obtain ⟨k, hk⟩ := List.getElem?_of_mem hp
        exact (hP k p hk).2
      refine ⟨ps, ⟨ho.symm, ⟨?_, fun hn => ⟨a, rfl, ?_, fun j x hx => ?_⟩⟩, fun p hp => (hP' p hp).1⟩, by omega, fun p hp => (hP' p hp).2.1, fun s hs => ?_⟩
      · rw [stl_length, ho]
      · have h1 := (hP 0 ps[0] (by simp)).1 0 _ rfl
        have := World.block_lt_of_cell? _ _ h1
        simpa [Addr.add] using this
      · have hj : j < ps.length * 5 := by
          have := (List.getElem?_eq_some_iff.1 hx).1
          rwa [stl_length] at this
        have hk : j / 5 < ps.length := by omega
        have he : j = j / 5 * 5 + j % 5 := by omega
        rw [he] at hx ⊢
        rw [stl_get ps (j / 5) ps[j / 5].1 ps[j / 5].2 (j % 5) (by simp [List.getElem?_eq_getElem hk]) (by omega)] at hx
        exact (hP (j / 5) ps[j / 5] (List.getElem?_eq_getElem hk)).1 _ _ hx
      · obtain ⟨p, hp, rfl⟩ := List.mem_map.1 hs
        exact (hP' p hp).2.2
  refine (TapeTexts_calls S m mc ps W hGW hr (by unfold maxLen at hm; exact hm) (fun p hp => by have := hb p hp; unfold maxLen at this; exact this) hi).mono fun e W' ⟨he, bel⟩ => ?_
  subst he
  refine ChangeSpec.post_blind ?_
  exact ⟨_, _, _, [], _, [], hW', trodAll_mk1 (shut_bool Tryd.underlying4 _), trodAll_mk1 (Below.trod laidOut (by kernel_rfl) (of_decide_eq_true (by kernel_rfl)) k0 bel lt0), rfl, bel.frame _, fun h => by cases h⟩
theorem tapeTexts_said : Rows.TapeTextsSaid :=
  OpenClaim.holds_of_wide 4 Tryd.f4 rfl rfl rfl rfl rfl rfl rfl ⟨rfl, rfl, rfl, rfl, rfl⟩ rfl rfl rfl rfl rfl (by kernel_rfl) Tryd.func4 (by kernel_rfl)
    (of_decide_eq_true (by kernel_rfl)) (by unfold Func.isWrapper; first | (rw [if_pos (by decide +kernel)]; kernel_rfl) | (rw [if_neg (by decide +kernel)]; exact ⟨rfl, rfl⟩))
    (fun os started H enc _ => tapeTexts_lifted os started H enc)
theorem tapeTexts_holds : Rows.TapeTextsCardSaid :=
  Claim7.holds_tied_plain_at .later [] [.data, .data, .data, .data, .sentinel, .sentinel, .pinned] true (true, "5fc223550678fb19f45d5a715113f56bdccc80a2edd6105d6f00a6684d50747f") true tapeTexts_said (fun _ h => by cases h) (by kernel_rfl) (fun _ h => by cases h) tapeTexts_row_tie rfl ⟨rfl, rfl⟩ (by kernel_rfl) rfl
    (fun f fn hf hfn => by
      obtain rfl : f = 4 := Option.some.inj ((show Tryd.prog.funcNamed "vitrine/vitrinelaw28.TapeTexts" = some 4 by kernel_rfl).symm.trans hf) |>.symm
      obtain rfl : fn = Tryd.f4 := (Option.some.inj (Tryd.func4.symm.trans hfn)).symm
      exact ⟨by kernel_rfl, fun j t ht => by
        rw [Tryd.params4] at ht
        have hm : t ∈ [28] := by simpa using Array.mem_of_getElem? ht
        have hall : ([28].all fun u => !Tryd.prog.wantsStandIn u) = true := by kernel_rfl
        exact (show Tryd.prog.wantsStandIn t = false by simpa using List.all_eq_true.1 hall t hm)⟩)
    (by kernel_rfl)
end Go.Proofs.YtefpobkkldgogaaDoor
