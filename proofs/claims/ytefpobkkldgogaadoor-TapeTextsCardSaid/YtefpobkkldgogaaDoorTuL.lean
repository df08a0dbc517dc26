/- Steps as the program has them; alike in the program. -/
import Derived.Test.YtefpobkkldgogaaDoorTuJ
namespace Go.Proofs.YtefpobkkldgogaaDoor
open Go.RowKit

section
variable {ops : Array Oper} {o : Oper} {a : Act} {K : Act → World → Prop} {Q : Exit → Act → World → Prop} {w : World} {E : Prop}
theorem step_stp (hgd : o.guard = none) (s x : Operand) (T t : TypeId) (ho : o.op = .call { callee := .builtin .append, args := #[s, x], argTypes := #[T, T] }) (hT : Tryd.prog.underlying T = some (.slice t))
    (hi : (Tryd.prog.info? t).map (fun i => (i.zero, i.size, i.bytes)) = some (some (.agg #[.int .u8 0, .slice none 0 0, .int .i64 0, .int .i32 0, .int .i64 0]), 5, 56)) (ht8 : t ≠ 5)
    (w0 : World) (base : Nat) (v : Value) (ps : List (Stp × Value)) (hs : a.eval s = v) (hst : StAt base t w0 v ps) (st : Stp) (u : Value) (hu : OB base w0 u st.bytes) (hx : a.eval x = .slice (some ⟨w0.heap.size, 0, none⟩) 1 1)
    (hw : w = w0.alloc (.cells (stc st u) t)) (hlen : ps.length ≤ 1000000) (hbase : base ≤ w0.heap.size)
    (h : ∀ v' w', StAt base t w' v' (ps ++ [(st, u)]) → w.grownBy w' v.ownBlock → K (a.put o.dst v') w') : if Region.wanted o (yielded ops a.tmps) = true then Oper.wp Tryd.prog o a w K Q else E := by
  subst hw
  obtain ⟨i0, hi0, hz0, hz1, hz2⟩ := info_parts hi
  have hst1 : StAt base t (w0.alloc (.cells (stc st u) t)) v ps := hst.below ((Below.refl _ w0).alloc (Nat.le_refl _) _)
  have hu1 : OB base (w0.alloc (.cells (stc st u) t)) u st.bytes := World.ownsRow.alloc hu _
  refine step_append_any _ hgd s x T ho base t i0 _ 5 56 hT hi0 hz0 hz1 hz2 rfl (by omega) v ps.length (stl ps) hs hst1.row _ _ 1 1 _ hx (Reads.new_row w0 t (stc st u) 1 5 rfl) (stc_one hu) (by simp only [maxLen]; omega) (by omega) (by simp; omega) ?_
  intro v' w' h1 h2 _
  refine h v' w' ⟨?_, fun p hp => ?_⟩ h2
  · rw [stl_append, stl_one, List.length_append]
    exact h1
  · rcases List.mem_append.1 hp with hp | hp
    · exact World.ownsRow.kept (hst1.own p hp) h2 (own_apart (hst1.own p hp) hst1.row ht8.symm)
    · rw [List.mem_singleton.1 hp]
      exact World.ownsRow.kept hu1 h2 (own_apart hu1 hst1.row ht8.symm)
end
theorem below_undrew' {B : Nat} {a w : World} (h : Below B a.drew w) : Below B a w := ⟨h.os, h.tape, h.output, h.size, h.block⟩
set_option maxRecDepth 100000 in
set_option maxHeartbeats 2000000 in
theorem own_calls (A : Option Addr) (n c : Nat) (ps : List (Stp × Value)) (w : World) (h : StR w A n ps) (hn : n ≤ 1000) (hb : ∀ p ∈ ps, p.1.bytes.length ≤ 1000) :
    Calls Tryd.prog 15 #[.slice A n c] w (StepsRet 37 (ps.map (·.1)) w) := by
  have H := Lib.hid h
  have HBL := Lib.hid hb
  clear h hb
  obtain ⟨l, hl⟩ : ∃ l, ps.map (·.1) = l := ⟨_, rfl⟩
  rw [hl]
  have HL := Lib.hid hl
  have HN : Hid (n = l.length) := Lib.hid (by rw [← hl, List.length_map]; exact H.out.len)
  clear hl
  go_enter Tryd.func15, Tryd.ntmps15
  go_wp2_with fail
  go_loopw [3, 8] (fun v i wr => ∃ k : Nat, ∃ qs, k ≤ n ∧ i = .int .i64 k ∧ qs.map (·.1) = l.take k ∧ StAt w.heap.size 37 wr v qs ∧ Below w.heap.size w wr) (fun _ i _ => n - (intOf i).toNat)
  case atStart => exact ⟨0, [], Nat.zero_le _, rfl, by simp, StAt.nil, Below.refl _ _⟩
  case round =>
    obtain ⟨k, qs, hk, rfl, hqs, hst, hb⟩ := hrel
    have HQ := Lib.hid hqs
    have HST := Lib.hid hst
    have HB := Lib.hid hb
    clear hqs hst hb
    obtain ⟨va, vc, rfl, _, _⟩ := HST.out.slice
    have hql : qs.length = k := by
      have h1 := congrArg List.length HQ.out
      have h2 := HN.out
      simp at h1
      omega
    rw [hql] at HST ⊢
    have HQL := Lib.hid hql
    clear hql
    by_cases hlt : k < n
    · obtain ⟨ad, st, u, rfl, hadb, hp, hel, c0, c1, c2, c3, c4⟩ := (H.out.below HB.out).cells hlt
      have hls : l[k]? = some st := by rw [← HL.out, List.getElem?_map, hp]; rfl
      have HLS := Lib.hid (show l.take (k + 1) = l.take k ++ [st] by rw [List.take_add_one, hls]; rfl)
      have HBY := Lib.hid (HBL.out _ (List.mem_of_getElem? hp))
      have HEL := Lib.hid hel
      obtain ⟨ua, uc, rfl, hcap, _⟩ := hel
      clear hls hp
      obtain ⟨W0, hW0⟩ : ∃ W0, wr.alloc (.cells #[.int .u8 (st.kind.toNat : Int), .slice ua st.bytes.length uc, .int .i64 st.k1, .int .i32 st.k2, .int .i64 st.k3] 42) = W0 := ⟨_, rfl⟩
      have hal : Below wr.heap.size wr W0 := by rw [← hW0]; exact (Below.refl _ wr).alloc (Nat.le_refl _) _
      have hx := Blk.new wr 42 #[.int .u8 (st.kind.toNat : Int), .slice ua st.bytes.length uc, .int .i64 st.k1, .int .i32 st.k2, .int .i64 st.k3]
      rw [hW0] at hx
      have HW0 := Lib.hid hW0
      have HCP : Hid (Calls Tryd.prog 31 #[.slice ua st.bytes.length uc] W0.drew fun e w1 => ∃ a1 cp1, e = .returned (.slice a1 st.bytes.length cp1) ∧ Hid (OB W0.heap.size w1 (.slice a1 st.bytes.length cp1) st.bytes ∧ Blk w1 wr.heap.size 42 #[.int .u8 (st.kind.toNat : Int), .slice ua st.bytes.length uc, .int .i64 st.k1, .int .i32 st.k2, .int .i64 st.k3] ∧ Below W0.heap.size W0 w1)) := Lib.hid (by
        refine (Copy_calls ua _ uc st.bytes W0.drew rfl (by
          obtain ⟨A', c', he, _, hr⟩ := HEL.out
          injection he with hA _ _
          subst hA
          exact (hr.below hal).more hal.size) (Nat.le_trans HBY.out (by decide))).mono ?_
        rintro e w1 ⟨v1, rfl, ho, hb1⟩
        obtain ⟨a1, cp1, rfl, _, _, _, _⟩ := ho.reads
        exact ⟨a1, cp1, rfl, Lib.hid ⟨ho, hx.drew.below hb1 hx.lt, below_undrew' hb1⟩⟩)
      have z0 := hx.cell 0
      have z1 := hx.cell 1
      have z2 := hx.cell 2
      have z3 := hx.cell 3
      have z4 := hx.cell 4
      have hlt0 := hx.lt
      have HSTW := Lib.hid (HST.out.below hal)
      have HBW := Lib.hid (HB.out.trans (hal.mono HB.out.size))
      clear hW0 hal hx
      go_wp2_with fail
      rw [HW0.out]
      go_region_held3 (fun W => W.cell? ⟨wr.heap.size, 0, none⟩ = some (.int .u8 (st.kind.toNat : Int)) ∧ W.cell? ⟨wr.heap.size, 1, none⟩ = some (.slice ua st.bytes.length uc) ∧ W.cell? ⟨wr.heap.size, 2, none⟩ = some (.int .i64 st.k1) ∧ W.cell? ⟨wr.heap.size, 3, none⟩ = some (.int .i32 st.k2) ∧ W.cell? ⟨wr.heap.size, 4, none⟩ = some (.int .i64 st.k3)) (first | go_keep | assumption)
        (first
          | (go_at_call 31; refine HCP.out.mono ?_; rintro e w1 ⟨a1, cp1, rfl, H1⟩; have y0 := H1.out.2.1.cell 0; have y1 := H1.out.2.1.cell 1; have y2 := H1.out.2.1.cell 2; have y3 := H1.out.2.1.cell 3; have y4 := H1.out.2.1.cell 4; have hz1 := H1.out.2.1.lt; have HSTX := Lib.hid (HSTW.out.below H1.out.2.2); have HOX := Lib.hid (OB.low H1.out.1 HBW.out.size); have HBX := Lib.hid (HBW.out.trans (H1.out.2.2.mono HBW.out.size)))
          | (refine step_stp rfl (.tmp 12) (.tmp 21) 24 37 rfl Tryd.underlying24 tstep_info (by decide) w1 w.heap.size (.slice va k vc) qs rfl HSTX.out st (.slice a1 st.bytes.length cp1) HOX.out rfl rfl (by have := HQL.out; omega) HBX.out.size ?_; intro v' w8 hst' hg'; have HST8 := Lib.hid hst'; have HG8 := Lib.hid hg'; have HX8 := Lib.hid ((H1.out.2.1.alloc _).grown hg' (fun e => Nat.lt_irrefl _ (HST.out.lt.1 _ e.symm))); have y0 := HX8.out.cell 0; have y1 := HX8.out.cell 1; have y2 := HX8.out.cell 2; have y3 := HX8.out.cell 3; have y4 := HX8.out.cell 4; clear hst' hg'))
      all_goals
        go_wp2_with fail
        go_roundw
        case rel => exact ⟨k + 1, qs ++ [(st, .slice a1 st.bytes.length cp1)], by omega, by go_num, by rw [HLS.out, List.map_append, HQ.out]; rfl, HST8.out, StAt.below_step HSTX.out (Nat.le_refl _) HBX.out HG8.out⟩
        case measure => simp [intOf]; omega
    · obtain rfl : k = n := by omega
      have HLK : Hid (l.take k = l) := Lib.hid (List.take_of_length_le (by have := HN.out; omega))
      go_wp2_with fail
      go_ret
      exact ⟨_, qs, rfl, HST.out, by rw [HQ.out, HLK.out], HB.out⟩
theorem Equal_calls (A1 A2 : Option Addr) (n1 c1 n2 c2 : Nat) (xs ys : List UInt8) (w : World) (hn1 : n1 = xs.length) (hn2 : n2 = ys.length) (h1 : RB w A1 xs) (h2 : RB w A2 ys) :
    Calls Tryd.prog 53 #[.slice A1 n1 c1, .slice A2 n2 c2] w fun e w' => e = .returned (.bool (xs == ys)) ∧ w = w' := by
  subst hn1 hn2
  have e1 := h1.convert c1 rfl
  have e2 := h2.convert c2 rfl
  clear h1 h2
  go_enter Tryd.func53, Tryd.ntmps53
  go_wp2
  go_ret
  exact ⟨by simp [strOf_tl], rfl⟩
theorem u8_test' (x c : UInt8) : ((x.toNat : Int) == (c.toNat : Int)) = decide (x = c) := by
  rw [Bool.eq_iff_iff]
  simp only [beq_iff_eq, decide_eq_true_eq]
  exact ⟨fun h => UInt8.toNat_inj.1 (by omega), fun h => by rw [h]⟩
set_option maxRecDepth 100000 in
set_option maxHeartbeats 2000000 in
theorem alike_calls (x y : Stp) (u v : Value) (w : World) (hu : BV w.heap.size w u x.bytes) (hv : BV w.heap.size w v y.bytes) (hok : okStp x y) :
    Calls Tryd.prog 38 #[.agg (stc x u), .agg (stc y v)] w fun e w' => e = .returned (.bool true) ∧ Below w.heap.size w w' := by
  obtain ⟨ua, uc, rfl, _, hru⟩ := hu
  obtain ⟨va, vc, rfl, _, hrv⟩ := hv
  obtain ⟨kx, bx, x1, x2, x3⟩ := x
  obtain ⟨ky, bY, y1, y2, y3⟩ := y
  obtain ⟨hk1, hk2, hk3⟩ := hok
  simp only at hk1 hk2 hk3 hru hrv
  subst hk1
  simp only [stc]
  have HBL : Hid (∀ o1 o2, Below w.heap.size w ((w.alloc o1).alloc o2)) := Lib.hid (fun o1 o2 => ((Below.refl _ w).alloc (Nat.le_refl _) o1).alloc (by simp) o2)
  have HR1 := Lib.hid (fun o1 o2 => (hru.below (HBL.out o1 o2)).more (HBL.out o1 o2).size)
  have HR2 := Lib.hid (fun o1 o2 => (hrv.below (HBL.out o1 o2)).more (HBL.out o1 o2).size)
  clear hru hrv
  by_cases h75 : kx = 75
  · obtain ⟨rfl, rfl, rfl⟩ := hk2 h75
    have t75 : ((kx.toNat : Int) == 75) = true := (u8_test' kx 75).trans (by simp [h75])
    clear hk2 hk3 h75
    go_enter Tryd.func38, Tryd.ntmps38
    go_wp2_with fail
    go_ret
    exact ⟨rfl, HBL.out _ _⟩
  · have t75 : ((kx.toNat : Int) == 75) = false := (u8_test' kx 75).trans (by simp [h75])
    by_cases hho : kx = 72 ∨ kx = 79
    · have hbb := hk3 hho
      subst hbb
      have hor : ((kx.toNat : Int) == 72) = true ∨ (((kx.toNat : Int) == 72) = false ∧ ((kx.toNat : Int) == 79) = true) := by
        rcases hho with h | h
        · exact .inl ((u8_test' kx 72).trans (by simp [h]))
        · exact .inr ⟨(u8_test' kx 72).trans (by simp [h]), (u8_test' kx 79).trans (by simp [h])⟩
      clear hk2 hk3 h75 hho
      rcases hor with t72 | ⟨t72, t79⟩
      all_goals
        go_enter Tryd.func38, Tryd.ntmps38
        go_wp2_with fail
        refine (Equal_calls ua va _ uc _ vc bx bx _ rfl rfl (HR1.out _ _) (HR2.out _ _)).mono ?_
        rintro e w9 ⟨rfl, rfl⟩
        rw [show (bx == bx) = true by simp]
        go_wp2_with fail
        go_ret
        exact ⟨rfl, HBL.out _ _⟩
    · have t72 : ((kx.toNat : Int) == 72) = false := (u8_test' kx 72).trans (by simp; exact fun h => hho (.inl h))
      have t79 : ((kx.toNat : Int) == 79) = false := (u8_test' kx 79).trans (by simp; exact fun h => hho (.inr h))
      clear hk2 hk3 h75 hho
      go_enter Tryd.func38, Tryd.ntmps38
      go_wp2_with fail
      go_ret
      exact ⟨rfl, HBL.out _ _⟩
set_option maxRecDepth 100000 in
set_option maxHeartbeats 2000000 in
theorem EqualFunc_calls (A1 A2 : Option Addr) (n c1 c2 : Nat) (ps qs : List (Stp × Value)) (w : World) (h1 : StR w A1 n ps) (h2 : StR w A2 n qs) (hn : n ≤ 1000000) (hok : ∀ (k : Nat) x u y v, ps[k]? = some (x, u) → qs[k]? = some (y, v) → okStp x y) :
    Calls Tryd.prog 37 #[.slice A1 n c1, .slice A2 n c2, .func (.func 38) #[] #[]] w fun e w' => e = .returned (.bool true) ∧ Below w.heap.size w w' := by
  have H1 := Lib.hid h1
  have H2 := Lib.hid h2
  have HOK := Lib.hid hok
  clear h1 h2 hok
  go_enter Tryd.func37, Tryd.ntmps37
  go_wp2_with fail
  go_loopw [17] (fun i wr => ∃ k : Nat, k ≤ n ∧ i = .int .i64 k ∧ Below w.heap.size w wr) (fun i _ => n - (intOf i).toNat)
  case atStart => exact ⟨0, Nat.zero_le _, rfl, Below.refl _ _⟩
  case round =>
    obtain ⟨k, hk, rfl, hb⟩ := hrel
    have HB := Lib.hid hb
    clear hb
    by_cases hlt : k < n
    · obtain ⟨ad, x, u, rfl, hadb, hp, hel, c0, c1, c2, c3, c4⟩ := (H1.out.below HB.out).cells hlt
      obtain ⟨bd, y, v, rfl, hbdb, hq, hem, d0, d1, d2, d3, d4⟩ := (H2.out.below HB.out).cells hlt
      have hok := HOK.out k x u y v hp hq
      have hadb' : (ad.add (k * 5)).block < wr.heap.size := by rw [block_of_add]; exact hadb
      have hbdb' : (bd.add (k * 5)).block < wr.heap.size := by rw [block_of_add]; exact hbdb
      have HBL : Hid (∀ o1 o2, Below wr.heap.size wr ((wr.alloc o1).alloc o2)) := Lib.hid (fun o1 o2 => ((Below.refl _ wr).alloc (Nat.le_refl _) o1).alloc (by simp) o2)
      have HAL := Lib.hid (fun o1 o2 => alike_calls x y u v ((wr.alloc o1).alloc o2) ((hel.below (HBL.out o1 o2)).more (HBL.out o1 o2).size) ((hem.below (HBL.out o1 o2)).more (HBL.out o1 o2).size) hok)
      obtain ⟨ua, uc, rfl, _, _⟩ := hel
      obtain ⟨va, vc, rfl, _, _⟩ := hem
      simp only [stc] at HAL
      clear hp hq hok
      go_wp2_with fail
      refine (HAL.out _ _).mono ?_
      rintro e w1 ⟨rfl, hb1⟩
      have HB1 := Lib.hid (HB.out.trans (((HBL.out _ _).trans (hb1.mono (HBL.out _ _).size)).mono HB.out.size))
      clear hb1
      go_wp2_with fail
      go_roundw
      case rel => exact ⟨k + 1, by omega, by go_num, HB1.out⟩
      case measure => simp [intOf]; omega
    · obtain rfl : k = n := by omega
      go_wp2_with fail
      go_ret
      exact ⟨rfl, HB.out⟩
theorem TSame_calls (A1 A2 : Option Addr) (n c1 c2 : Nat) (ps qs : List (Stp × Value)) (w : World) (h1 : StR w A1 n ps) (h2 : StR w A2 n qs) (hn : n ≤ 1000000) (hok : ∀ (k : Nat) x u y v, ps[k]? = some (x, u) → qs[k]? = some (y, v) → okStp x y) :
    Calls Tryd.prog 19 #[.slice A1 n c1, .slice A2 n c2] w fun e w' => e = .returned (.bool true) ∧ Below w.heap.size w w' := by
  have HE := Lib.hid (EqualFunc_calls A1 A2 n c1 c2 ps qs w h1 h2 hn hok)
  clear h1 h2 hok
  go_enter Tryd.func19, Tryd.ntmps19
  go_wp2_with fail
  refine HE.out.mono ?_
  rintro e w1 ⟨rfl, hb1⟩
  have HB1 := Lib.hid hb1
  clear hb1
  go_wp2_with fail
  go_ret
  exact ⟨rfl, HB1.out⟩
end Go.Proofs.YtefpobkkldgogaaDoor
