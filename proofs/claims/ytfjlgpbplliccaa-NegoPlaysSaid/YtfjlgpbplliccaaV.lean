/- NegoPlays: the walk. -/
import Derived.Test.YtfjlgpbplliccaaT
import Derived.Test.YtfjlgpbplliccaaU
namespace Go.Proofs.Ytfjlgpbplliccaa
open Go.RowKit

/-- one op of the script, in three cells from a on -/
def OpAt (w : World) (B : Nat) (a : Addr) (o : Bool × UInt8 × List UInt8) : Prop :=
  ∃ A n cp, w.cell? a = some (.bool o.1) ∧ w.cell? (a.add 1) = some (.int .u8 o.2.1.toNat) ∧ w.cell? (a.add 2) = some (.slice A n cp) ∧ n = o.2.2.length ∧ n ≤ cp ∧ n ≤ 9223372036854775807 ∧ Reads w B 1 A n (bv o.2.2)
structure Script (w : World) (A : Option Addr) (os : List (Bool × UInt8 × List UInt8)) : Prop where
  len : os.length ≤ 9223372036854775807
  at_ : ∀ k o, os[k]? = some o → ∃ a, A = some a ∧ OpAt w w.heap.size (a.add (k * 3)) o

theorem hear_len (c : Cfg) (s : St) (o : UInt8) (p : List UInt8) : (hearB c s o p).2.1.length ≤ 3 + c.typ.length + c.dev.length + c.fns.length + p.length := by
  unfold hearB hdB hfB asksB commonB
  repeat' split
  all_goals simp only [List.length_append, List.length_cons, List.length_nil]
  all_goals (try omega)
  case _ r _ _ _ _ _ => 
    have hf := List.length_filter_le (inB c.fns) r
    omega
theorem hear_err (c : Cfg) (s : St) (o : UInt8) (p : List UInt8) : (hearB c s o p).2.2 ≤ 6 := by
  unfold hearB hdB hfB
  repeat' split
  all_goals simp
theorem EndAt.other {base base' t t' g g' : Nat} {w w' : World} {F G F' G' : Value} {c c' : Cfg} {s s' : St} (h : EndAt base t w g F G c s) (h' : EndAt base' t' w g' F' G' c' s') (htt : t ≠ t') (ht : 5 ≠ t') (hg : w.grownBy w' (some g')) : EndAt base t w' g F G c s :=
  h.kept hg (fun e => by
    injection e with e
    subst e
    have := h.blk.symm.trans h'.blk
    simp at this
    exact htt this.2) (.inr (OB.ne_end h.fns h' ht)) (.inr (OB.ne_end h.agr h' ht))
theorem OB.lt' {base : Nat} {w : World} {A : Option Addr} {n c : Nat} {xs : List UInt8} (h : OB base w (.slice A n c) xs) {a : Addr} (ha : A = some a) : base ≤ a.block ∧ a.block < w.heap.size := by
  obtain ⟨A', c', hv, _, _, hb, _⟩ := h.reads
  injection hv with h1
  exact hb a (by rw [← h1]; exact ha)
theorem apart_of {v u : Value} (h : ∀ b, v.ownBlock = some b → u.ownBlock = some b → False) : v.ownBlock = none ∨ v.ownBlock ≠ u.ownBlock := by
  rcases hv : v.ownBlock with _ | b
  · exact .inl rfl
  · exact .inr fun e => h b hv e.symm
theorem FreshOr.split {w : World} {g : Nat} {G G' : Value} (h : FreshOr w g G') (hc : w.cell? ⟨g, 5, none⟩ = some G) : ∀ b, G'.ownBlock = some b → w.heap.size ≤ b ∨ G.ownBlock = some b := fun b hb =>
  (h b hb).imp id fun h2 => by
    rw [hc] at h2
    injection h2 with h2
    rw [h2]; exact hb
theorem OB.below' {base : Nat} {w w' : World} {v : Value} {xs : List UInt8} (h : OB base w v xs) (hb : Below w.heap.size w w') : OB base w' v xs := h.below hb
theorem newErr_rises {c : Cfg} (h : newErr c = 0) : risesB c.fns = true := by
  unfold newErr at h
  cases hr : risesB c.fns
  · rw [hr] at h
    split at h <;> simp at h
  · rfl
set_option maxRecDepth 100000 in
set_option maxHeartbeats 1000000 in
theorem NegoPlays_calls (w : World) (A : Option Addr) (cp : Nat) (c : Cfg) (hr : RB w A c.fns) (hc : c.fns.length ≤ cp) (h1 : c.typ.length ≤ 9223372036854775807) (h2 : c.dev.length ≤ 9223372036854775807) (h3 : c.fns.length ≤ 9223372036854775807)
    (S : Option Addr) (m mc : Nat) (os : List (Bool × UInt8 × List UInt8)) (hm : m = os.length) (hs : Script w S os) :
    Calls Try.prog 3 #[.agg #[.string (strOf c.typ), .string (strOf c.dev), .slice A c.fns.length cp], .slice S m mc] w fun e w' => e = .returned (.bool true) ∧ Below w.heap.size w w' := by
  have hbx := Blk.new w 24 #[.string (strOf c.typ), .string (strOf c.dev), .slice A c.fns.length cp]
  have hb0 : Below w.heap.size w (w.alloc (.cells #[.string (strOf c.typ), .string (strOf c.dev), .slice A c.fns.length cp] 24)) := (Below.refl _ w).alloc (Nat.le_refl _) _
  have HBX := Lib.hid hbx
  have HB0 := Lib.hid hb0
  have HR := Lib.hid hr
  have HM := Lib.hid hm
  have HS := Lib.hid hs
  have HL := Lib.hid (And.intro h1 (And.intro h2 h3))
  clear hbx hb0 hr hm hs h1 h2 h3
  go_enter Try.func3, Try.ntmps3
  go_wp2_with fail
  refine (awake_calls _).mono ?_
  rintro e w1 ⟨rfl, hb1⟩
  have hx1 := HBX.out.below hb1 HBX.out.lt
  have HB1 := Lib.hid (HB0.out.trans (hb1.mono HB0.out.size))
  have HX1 := Lib.hid hx1
  have q0 := hx1.cell 0
  have q1 := hx1.cell 1
  have q2 := hx1.cell 2
  clear hb1 hx1
  go_wp2_with fail
  have HFEW := Lib.hid (Few_calls w1 A cp c ((HR.out.below HB1.out).more HB1.out.size) hc HL.out.1 HL.out.2.1 HL.out.2.2)
  obtain ⟨d, hd⟩ : ∃ d, c.few = d := ⟨_, rfl⟩
  have HD : Hid (d.typ.length ≤ 45 ∧ d.dev.length ≤ 45 ∧ d.fns.length ≤ 8 ∧ d.few = d) := Lib.hid (by rw [← hd]; refine ⟨?_, ?_, ?_, ?_⟩ <;> simp [Cfg.few, List.take_take] <;> omega)
  rw [hd] at HFEW
  clear hd
  refine HFEW.out.mono ?_
  rintro e w2 ⟨v, rfl, ho, hb2⟩
  obtain ⟨Av, cv, hv, hcv, hrv, _, _⟩ := ho.reads
  subst hv
  have hx2 := HX1.out.below hb2 HX1.out.lt
  clear q0 q1 q2
  have k0 := hx2.frozen 0
  have k1 := hx2.frozen 1
  have k2 := hx2.frozen 2
  have q0 := hx2.cell 0
  have q1 := hx2.cell 1
  have q2 := hx2.cell 2
  have hx3 := ((hx2.set_ 0 (.string (strOf d.typ))).set_ 1 (.string (strOf d.dev))).set_ 2 (.slice Av d.fns.length cv)
  have hw1 : w.heap.size < w1.heap.size := HX1.out.lt
  have hne : (Value.slice Av d.fns.length cv).ownBlock ≠ some w.heap.size := fun e => by
    have h1 := (ho.lt _ e).1
    omega
  have ho3 : OB w1.heap.size (((w2.setCell ⟨w.heap.size, 0, none⟩ (.string (strOf d.typ))).setCell ⟨w.heap.size, 1, none⟩ (.string (strOf d.dev))).setCell ⟨w.heap.size, 2, none⟩ (.slice Av d.fns.length cv)) (.slice Av d.fns.length cv) d.fns :=
    World.ownsRow.kept (World.ownsRow.kept (World.ownsRow.kept ho (grown_set _ _ 0 _) (.inr hne)) (grown_set _ _ 1 _) (.inr hne)) (grown_set _ _ 2 _) (.inr hne)
  have hb3 : Below w.heap.size w (((w2.setCell ⟨w.heap.size, 0, none⟩ (.string (strOf d.typ))).setCell ⟨w.heap.size, 1, none⟩ (.string (strOf d.dev))).setCell ⟨w.heap.size, 2, none⟩ (.slice Av d.fns.length cv)) :=
    (((HB1.out.trans (hb2.mono HB1.out.size)).setCell (p := ⟨w.heap.size, 0, none⟩) (Nat.le_refl _) _).setCell (p := ⟨w.heap.size, 1, none⟩) (Nat.le_refl _) _).setCell (p := ⟨w.heap.size, 2, none⟩) (Nat.le_refl _) _
  obtain ⟨W3, hW3⟩ : ∃ W3, (((w2.setCell ⟨w.heap.size, 0, none⟩ (.string (strOf d.typ))).setCell ⟨w.heap.size, 1, none⟩ (.string (strOf d.dev))).setCell ⟨w.heap.size, 2, none⟩ (.slice Av d.fns.length cv)) = W3 := ⟨_, rfl⟩
  rw [hW3] at hx3 ho3 hb3
  have HW3 := Lib.hid hW3
  have HX3 := Lib.hid hx3
  have HO3 := Lib.hid ho3
  have HB3 := Lib.hid hb3
  have HCV := Lib.hid hcv
  have HFEW2 := Lib.hid (Few_calls W3 Av cv d (Reads.of_own ho3) hcv (by have := HD.out.1; omega) (by have := HD.out.2.1; omega) (by have := HD.out.2.2.1; omega))
  rw [HD.out.2.2.2] at HFEW2
  clear hb2 hx2 ho hrv hx3 ho3 hb3 hcv hw1 hne hW3
  go_upto_region 3 with (fail)
  rw [HW3.out]
  clear k0 k1 k2 q0 q1 q2
  have q0 := HX3.out.cell 0
  have q1 := HX3.out.cell 1
  have q2 := HX3.out.cell 2
  refine HFEW2.out.mono ?_
  rintro e w4 ⟨v2, rfl, ho4, hb4⟩
  obtain ⟨Am, cm, hv, hcm, hrm, _, _⟩ := ho4.reads
  subst hv
  have hx4 := HX3.out.below hb4 HX3.out.lt
  have HX4 := Lib.hid hx4
  have HO4 := Lib.hid (HO3.out.below hb4)
  have HM4 := Lib.hid ho4
  have HB4 := Lib.hid (HB3.out.trans (hb4.mono HB3.out.size))
  clear hrm hb4 ho4 hx4 q0 q1 q2
  have q0 := HX4.out.cell 0
  have q1 := HX4.out.cell 1
  have q2 := HX4.out.cell 2
  have hb45 : Below w4.heap.size w4 (w4.alloc (.cells #[.string (strOf d.typ), .string (strOf d.dev), .slice Am d.fns.length cm] 24)) := (Below.refl _ _).alloc (Nat.le_refl _) _
  have hmb := Blk.new w4 24 #[.string (strOf d.typ), .string (strOf d.dev), .slice Am d.fns.length cm]
  have hx5 := HX4.out.below hb45 HX4.out.lt
  have ho5 : OB w1.heap.size (w4.alloc (.cells #[.string (strOf d.typ), .string (strOf d.dev), .slice Am d.fns.length cm] 24)) (.slice Av d.fns.length cv) d.fns := HO4.out.below hb45
  have hm5 : OB W3.heap.size (w4.alloc (.cells #[.string (strOf d.typ), .string (strOf d.dev), .slice Am d.fns.length cm] 24)) (.slice Am d.fns.length cm) d.fns := HM4.out.below hb45
  have hb5 := HB4.out.trans (hb45.mono HB4.out.size)
  obtain ⟨W5, hW5⟩ : ∃ W5, w4.alloc (.cells #[.string (strOf d.typ), .string (strOf d.dev), .slice Am d.fns.length cm] 24) = W5 := ⟨_, rfl⟩
  rw [hW5] at hmb hx5 ho5 hm5 hb5
  have HW5 := Lib.hid hW5
  have HMB := Lib.hid hmb
  have HX5 := Lib.hid hx5
  have HO5 := Lib.hid ho5
  have HM5 := Lib.hid hm5
  have HB5 := Lib.hid hb5
  have hsm : d.small := ⟨by have := HD.out.1; omega, by have := HD.out.2.1; omega, by have := HD.out.2.2.1; omega⟩
  have HSM := Lib.hid hsm
  have HNEW := Lib.hid (New_calls w.heap.size W5 hb5.size _ d (hm5.low HB3.out.size) hsm)
  clear hb45 hmb hx5 ho5 hm5 hb5 hsm hW5
  obtain ⟨N, hN⟩ : ∃ N, newErr d = N := ⟨_, rfl⟩
  have hN9 : N ≤ 9 := by rw [← hN]; unfold newErr; split <;> (try split) <;> omega
  rw [hN] at HNEW
  have HN := Lib.hid hN
  clear hN
  go_wp2_with fail
  rw [HW5.out]
  clear q0 q1 q2
  refine HNEW.out.mono ?_
  rintro e w6 ⟨hb6, hd⟩
  have HX6 := Lib.hid (HX5.out.below hb6 HX5.out.lt)
  have HMB6 := Lib.hid (HMB.out.below hb6 HMB.out.lt)
  have HO6 := Lib.hid (HO5.out.below hb6)
  have HM6 := Lib.hid (HM5.out.below hb6)
  have HB6 := Lib.hid (HB5.out.trans (hb6.mono HB5.out.size))
  have HS56 := Lib.hid hb6.size
  clear hb6
  have q0 := HX6.out.cell 0
  have q1 := HX6.out.cell 1
  have q2 := HX6.out.cell 2
  have HRN := Lib.hid (RNew_calls w.heap.size w6 HB6.out.size _ d (HO6.out.low HB1.out.size) HSM.out)
  rw [HN.out] at HRN
  rcases hd with ⟨hn0, rfl⟩ | ⟨hn0, g, F', rfl, hg, hE, hF⟩
  · go_wp2_with fail
    refine HRN.out.mono ?_
    rintro e w7 ⟨hb7, hd⟩
    rcases hd with ⟨_, rfl⟩ | ⟨h0, _⟩
    · have HB7 := Lib.hid (HB6.out.trans (hb7.mono HB6.out.size))
      clear hb7
      go_wp2_with fail
      go_ret
      exact ⟨rfl, HB7.out⟩
    · exact absurd h0 hn0
  · subst hn0
    have HE := Lib.hid hE
    have HF := Lib.hid hF
    have HG := Lib.hid hg
    clear hE hF hg
    go_wp2_with fail
    refine HRN.out.mono ?_
    rintro e w7 ⟨hb7, hd⟩
    rcases hd with ⟨h0, _⟩ | ⟨_, gb, rfl, hgb, hE2⟩
    · exact absurd rfl h0
    have HUP := Lib.hid (newErr_rises HN.out)
    have HE7 := Lib.hid (HE.out.below hb7)
    have HF7 := Lib.hid hE2
    have HM7 := Lib.hid (HM6.out.below hb7)
    have HMB7 := Lib.hid (HMB6.out.below hb7 HMB6.out.lt)
    have HB7 := Lib.hid (HB6.out.trans (hb7.mono HB6.out.size))
    have HGB := Lib.hid hgb
    clear hb7 hE2 hgb q0 q1 q2
    have q2 := HMB7.out.cell 2
    go_wp2_with fail
    refine (Flip_calls _ _ _ _ HM7.out (by have := HD.out.2.2.1; omega)).mono ?_
    rintro e w8 ⟨rfl, hg8⟩
    have hlt5 : ∀ b, (Value.slice Am d.fns.length cm).ownBlock = some b → W3.heap.size ≤ b ∧ b < W5.heap.size := fun b hb => ⟨(HM5.out.lt b hb).1, (HM5.out.lt b hb).2⟩
    have hlt3 : ∀ b, (Value.slice Av d.fns.length cv).ownBlock = some b → b < W3.heap.size := fun b hb => (HO3.out.lt b hb).2
    have hGlt := HG.out
    have hGBlt := HGB.out
    have h56 := HS56.out
    have he8 : EndAt w.heap.size 55 w8 g F' (.slice none 0 0) d ⟨0, [], []⟩ := HE7.out.kept hg8 (fun e => by have := (hlt5 g e).2; omega)
      (by
        rcases hh : F'.ownBlock with _ | b
        · exact .inl rfl
        · exact .inr (fun e => by have h1 := (hlt5 b e.symm).2; have h2 := HF.out b hh; omega)) (.inl rfl)
    have hf8 : EndAt w.heap.size 40 w8 gb (.slice Av d.fns.length cv) (.slice none 0 0) d ⟨0, [], []⟩ := HF7.out.kept hg8 (fun e => by have := (hlt5 gb e).2; omega)
      (by
        rcases hh : (Value.slice Av d.fns.length cv).ownBlock with _ | b
        · exact .inl rfl
        · exact .inr (fun e => by have h1 := (hlt5 b e.symm).1; have h2 := hlt3 b hh; omega)) (.inl rfl)
    have hb8 : Below w.heap.size w w8 := HB7.out.grown hg8 HB7.out.size (fun b hb => Nat.le_trans HB3.out.size (hlt5 b hb).1)
    have HP := Lib.hid (And.intro he8 (And.intro hf8 hb8))
    clear he8 hf8 hb8 hlt5 hlt3 hGlt hGBlt h56 hg8 q2
    clear HX1 HX3 HX4 HX5 HX6 HMB HMB6 HMB7 HO3 HO4 HO5 HO6 HM4 HM5 HM6 HM7 HB0 HB1 HB3 HB4 HB5 HB6 HB7 HNEW HRN HFEW HFEW2 HE HE7 HF7 HBX HW3 HW5
    go_wp2_with fail
    have HOS := Lib.hid (HS.out.len)
    obtain ⟨hle, hf8, hb8⟩ := HP.out
    have hlm : m ≤ 9223372036854775807 := by rw [HM.out]; exact HOS.out
    clear hle hf8 hb8
    go_loopw [51] (fun i wr => ∃ k : Nat, k ≤ m ∧ i = .int .i64 k ∧ ∃ G G2 s, Hid (EndAt w.heap.size 55 wr g F' G d s ∧ EndAt w.heap.size 40 wr gb (.slice Av d.fns.length cv) G2 d s ∧ Below w.heap.size w wr)) (fun i _ => m - (intOf i).toNat)
    case atStart => exact ⟨0, Nat.zero_le _, rfl, _, _, _, HP⟩
    case round =>
      obtain ⟨k, hk, rfl, G, G2, s, HE⟩ := hrel
      clear HP
      by_cases hlt : k < m
      · obtain ⟨o, ho⟩ : ∃ o, os[k]? = some o := ⟨os[k]'(by have := HM.out; omega), by simp⟩
        obtain ⟨ad, rfl, Ap, np, cq, a0, a1, a2, hnp, hncp, hnm, hrp⟩ := HS.out.at_ k o ho
        obtain ⟨rs, op, P⟩ := o
        have HNP := Lib.hid hnp
        have c0 := (HE.out.2.2.cell (World.block_lt_of_cell? _ _ a0)).trans a0
        have c1 : wr.cell? ⟨(ad.add (k * 3)).block, (ad.add (k * 3)).off + 1, none⟩ = _ := (HE.out.2.2.cell (World.block_lt_of_cell? _ _ a1)).trans a1
        have c2 : wr.cell? ⟨(ad.add (k * 3)).block, (ad.add (k * 3)).off + 2, none⟩ = _ := (HE.out.2.2.cell (World.block_lt_of_cell? _ _ a2)).trans a2
        have HRP := Lib.hid ((hrp.below HE.out.2.2).more HE.out.2.2.size)
        have hal : Below wr.heap.size wr (wr.alloc (.cells #[.bool rs, .int .u8 op.toNat, .slice Ap np cq] 38)) := (Below.refl _ wr).alloc (Nat.le_refl _) _
        clear a0 a1 a2 hnp hrp ho
        by_cases h30 : (30 : Int) ≤ (k : Int)
        · go_wp2_with fail
          refine (lsame_calls _ _ _ _ _ _ _ _ _ _ (HE.out.1.below hal) (HE.out.2.1.below hal)).mono ?_
          rintro e w9 ⟨rfl, hb9⟩
          have HB9 := Lib.hid ((HE.out.2.2.trans (hal.mono HE.out.2.2.size)).trans (hb9.mono (Nat.le_trans HE.out.2.2.size hal.size)))
          clear hb9 hal
          go_wp2_with fail
          go_ret
          exact ⟨rfl, HB9.out⟩
        · cases rs
          · obtain ⟨W, hW⟩ : ∃ W, wr.alloc (.cells #[.bool false, .int .u8 op.toNat, .slice Ap np cq] 38) = W := ⟨_, rfl⟩
            have hbx := Blk.new wr 38 #[.bool false, .int .u8 op.toNat, .slice Ap np cq]
            rw [hW] at hal hbx
            have HCUT := Lib.hid (Cut_calls Ap np cq 120 P W HNP.out (by have h0 := (HRP.out.below hal).more hal.size; rw [HNP.out] at h0; exact h0) (by rw [← HNP.out]; exact hnm) (by rw [← HNP.out]; exact hncp) (by omega))
            obtain ⟨Q, hQ⟩ : ∃ Q, P.take 120 = Q := ⟨_, rfl⟩
            have HQL : Hid (Q.length ≤ 120) := Lib.hid (by rw [← hQ]; simp; omega)
            rw [hQ] at HCUT
            obtain ⟨s', ans, er, hr⟩ : ∃ s' ans er, hearB d s op Q = (s', ans, er) := ⟨_, _, _, rfl⟩
            have hlen := hear_len d s op Q
            have herr := hear_err d s op Q
            rw [hr] at hlen herr
            have herr' : er ≤ 6 := herr
            have HLEN : Hid (ans.length ≤ 1000) := Lib.hid (by have h1 := HD.out.1; have h2 := HD.out.2.1; have h3 := HD.out.2.2.1; have h4 := HQL.out; simp only at hlen; omega)
            have HRR := Lib.hid hr
            have HW := Lib.hid hW
            have HBX := Lib.hid hbx
            have HAL := Lib.hid hal
            clear hal hbx hW hQ hr hlen herr
            go_wp2_with fail
            rw [HW.out]
            refine HCUT.out.mono ?_
            rintro e w10 ⟨v, rfl, hop, hb10⟩
            obtain ⟨A1, n1, hv, hc1, hr1, _, _⟩ := hop.reads
            subst hv
            have HCP := Lib.hid (Copy_calls A1 Q.length n1 Q w10 rfl hr1 (by have := HQL.out; omega))
            have HOP := Lib.hid hop
            have HB10 := Lib.hid hb10
            clear hop hb10 hr1
            go_wp2_with fail
            refine HCP.out.mono ?_
            rintro e w11 ⟨v, rfl, hoq, hb11⟩
            obtain ⟨A2, n2, hv, hc2, hr2, hbd2, hob2⟩ := hoq.reads
            subst hv
            have hW11 : Below wr.heap.size wr w11 := (HAL.out.trans (HB10.out.mono HAL.out.size)).trans (hb11.mono (Nat.le_trans HAL.out.size HB10.out.size))
            have hlt1 := HE.out.1.blk.lt
            have hlt2 := HE.out.2.1.blk.lt
            have hs1 := HAL.out.size
            have hs2 := HB10.out.size
            have HH := Lib.hid (Hear_calls (HE.out.1.below hW11) HUP.out op A2 Q.length n2 Q rfl hr2 (by have := HQL.out; omega) hc2 (fun a ha => by have := (hbd2 a ha).1; omega))
            rw [HRR.out] at HH
            have hx11 := (HBX.out.below HB10.out HBX.out.lt).below hb11 (Nat.lt_of_lt_of_le HBX.out.lt HB10.out.size)
            have HX11 := Lib.hid hx11
            have x1 := hx11.cell 1
            have HW11 := Lib.hid hW11
            have HOP11 := Lib.hid (HOP.out.below hb11)
            have HOQ := Lib.hid hoq
            have HB11 := Lib.hid hb11
            clear hx11 hW11 hoq hb11 hr2 hbd2 hob2 hlt1 hlt2 hs1 hs2
            go_wp2_with fail
            refine HH.out.mono ?_
            rintro e w12 hhd
            obtain ⟨x, G', he, hox', hEa', hg12, hxG, hfG⟩ := hhd
            have he' : e = .returned (.tuple #[x, .int .i64 (er : Int)]) := he
            subst he'
            have hox : OB w11.heap.size w12 x ans := hox'
            have hEa : EndAt w.heap.size 55 w12 g F' G' d s' := hEa'
            have htt : 55 ≠ 40 := by decide
            have hta : 5 ≠ 55 := by decide
            have htb : 5 ≠ 40 := by decide
            have ea11 := HE.out.1.below HW11.out
            have eb11 := HE.out.2.1.below HW11.out
            have eb12 := eb11.other ea11 htt.symm hta hg12
            have hp12 : OB W.heap.size w12 (.slice A1 Q.length n1) Q := World.ownsRow.kept HOP11.out hg12 (.inr (OB.ne_end HOP11.out ea11 hta))
            have hq12 : OB w10.heap.size w12 (.slice A2 Q.length n2) Q := World.ownsRow.kept HOQ.out hg12 (.inr (OB.ne_end HOQ.out ea11 hta))
            have hlt1 := HE.out.1.blk.lt
            have hlt2 := HE.out.2.1.blk.lt
            have hs1 := HAL.out.size
            have hs2 := HB10.out.size
            have hs3 := HB11.out.size
            have hs12 := hg12.size
            have hx12 := HX11.out.grown hg12 (fun e => by injection e with e; omega)
            have HRH := Lib.hid (RHear_calls eb12 op A1 Q.length n1 Q rfl (Reads.of_own hp12) (by have := HQL.out; omega) hc1 (fun a ha => by
              have h1 := (OB.lt' hp12 ha).1
              omega))
            rw [HRR.out] at HRH
            have y1 := hx12.cell 1
            have HOX := Lib.hid hox
            have HEA := Lib.hid hEa
            have HEB := Lib.hid eb12
            have HP12 := Lib.hid hp12
            have HQ12 := Lib.hid hq12
            have HG12 := Lib.hid hg12
            have HXG := Lib.hid hxG
            have HFG := Lib.hid hfG
            clear he hox' hEa' hox hEa ea11 eb11 eb12 hp12 hq12 hg12 hxG hfG hx12 x1 hlt1 hlt2 hs1 hs2 hs3 hs12
            go_wp2_with fail
            refine HRH.out.mono ?_
            rintro e w13 hhd
            obtain ⟨y, G2', he, hoy', hEb', hg13, hfG2⟩ := hhd
            have he' : e = .returned (.tuple #[y, .int .i64 (er : Int)]) := he
            subst he'
            have hoy : OB w12.heap.size w13 y ans := hoy'
            have hEb : EndAt w.heap.size 40 w13 gb (.slice Av d.fns.length cv) G2' d s' := hEb'
            have ea13 := HEA.out.other HEB.out htt htb hg13
            have hx13 : OB w11.heap.size w13 x ans := World.ownsRow.kept HOX.out hg13 (.inr (OB.ne_end HOX.out HEB.out htb))
            have hp13 : OB W.heap.size w13 (.slice A1 Q.length n1) Q := World.ownsRow.kept HP12.out hg13 (.inr (OB.ne_end HP12.out HEB.out htb))
            have hq13 : OB w10.heap.size w13 (.slice A2 Q.length n2) Q := World.ownsRow.kept HQ12.out hg13 (.inr (OB.ne_end HQ12.out HEB.out htb))
            obtain ⟨Ax, cx, hv, _, hrx, _, _⟩ := hx13.reads
            subst hv
            obtain ⟨Ay, cy, hv, _, hry, _, _⟩ := hoy.reads
            subst hv
            have HSA := Lib.hid (Same_calls Ax Ay ans.length cx ans.length cy ans ans w13 rfl rfl hrx hry)
            have HSB := Lib.hid (Same_calls A2 A1 Q.length n2 Q.length n1 Q Q w13 rfl rfl (Reads.of_own hq13) (Reads.of_own hp13))
            rw [beq_self_eq_true] at HSA HSB
            have HLS := Lib.hid (lsame_calls _ _ _ _ _ _ _ _ _ _ ea13 hEb)
            have HX13 := Lib.hid hx13
            have HQ13 := Lib.hid hq13
            have HEA13 := Lib.hid ea13
            have HEB13 := Lib.hid hEb
            have HG13 := Lib.hid hg13
            have HFG2 := Lib.hid hfG2
            clear he hoy' hEb' hoy hEb ea13 hx13 hp13 hq13 hg13 hfG2 hrx hry y1 htt hta htb
            go_wp2_with fail
            refine HSA.out.mono ?_
            rintro e w14 ⟨rfl, rfl⟩
            go_wp2_with fail
            refine HSB.out.mono ?_
            rintro e w14 ⟨rfl, rfl⟩
            go_wp2_with fail
            refine HLS.out.mono ?_
            rintro e w14 ⟨rfl, hb14⟩
            have HB14 := Lib.hid hb14
            clear hb14
            go_wp2_with fail
            have hq14 := OB.below' HQ13.out HB14.out
            refine (Flip_calls _ Q _ _ hq14 (by have := HQL.out; omega)).mono ?_
            rintro e w15 ⟨rfl, hg15⟩
            have hs1 := HAL.out.size
            have hs2 := HB10.out.size
            have hs3 := HB11.out.size
            have hs12 := HG12.out.size
            have hta : 5 ≠ 55 := by decide
            have htb : 5 ≠ 40 := by decide
            have fq := fun b => HOQ.out.lt b
            have fx := fun b => HOX.out.lt b
            have fF := fun b => HE.out.1.fns.lt b
            have fG := fun b => HE.out.1.agr.lt b
            have fA := fun b => HE.out.2.1.fns.lt b
            have fG2 := fun b => HE.out.2.1.agr.lt b
            have fG' := HFG.out.split (HE.out.1.below HW11.out).cells.2.2.2.2.2
            have fG2' := HFG2.out.split HEB.out.cells.2.2.2.2.2
            have ea14 := HEA13.out.below HB14.out
            have eb14 := HEB13.out.below HB14.out
            have hx14 := OB.below' HX13.out HB14.out
            have ea15 := ea14.kept hg15 (OB.ne_end hq14 ea14 hta) (apart_of fun b h1 h2 => by have := fF b h1; have := fq b h2; omega)
              (apart_of fun b h1 h2 => by
                have h3 := fq b h2
                rcases fG' b h1 with h | h
                · omega
                · have := fG b h; omega)
            have eb15 := eb14.kept hg15 (OB.ne_end hq14 eb14 htb) (apart_of fun b h1 h2 => by have := fA b h1; have := fq b h2; omega)
              (apart_of fun b h1 h2 => by
                have h3 := fq b h2
                rcases fG2' b h1 with h | h
                · omega
                · have := fG2 b h; omega)
            have hx15 : OB w11.heap.size w15 (.slice Ax ans.length cx) ans := World.ownsRow.kept hx14 hg15 (apart_of fun b h1 h2 => by have := fx b h1; have := fq b h2; omega)
            have hb15 : Below w.heap.size w w15 := by
              have h11 := HE.out.2.2.trans (HW11.out.mono HE.out.2.2.size)
              have h12 := h11.grown HG12.out h11.size (fun k hk => by cases hk; exact HE.out.1.lo)
              have h13 := h12.grown HG13.out h12.size (fun k hk => by cases hk; exact HE.out.2.1.lo)
              have h14 := h13.trans (HB14.out.mono h13.size)
              have h0 := HE.out.2.2.size
              exact h14.grown hg15 h14.size (fun k hk => by have := fq k hk; omega)
            have HX15 := Lib.hid hx15
            have HEA15 := Lib.hid ea15
            have HEB15 := Lib.hid eb15
            have HB15 := Lib.hid hb15
            have FX := Lib.hid fx
            have FF := Lib.hid fF
            have FG := Lib.hid fG
            have FA := Lib.hid fA
            have FG2 := Lib.hid fG2
            have FG' := Lib.hid fG'
            have FG2' := Lib.hid fG2'
            have HSZ := Lib.hid (And.intro hs1 (And.intro hs2 (And.intro hs3 hs12)))
            clear hq14 hg15 hs1 hs2 hs3 hs12 hta htb fq fx fF fG fA fG2 fG' fG2' ea14 eb14 hx14 ea15 eb15 hx15 hb15
            go_wp2_with fail
            refine (Flip_calls _ ans _ _ HX15.out (by have := HLEN.out; omega)).mono ?_
            rintro e w16 ⟨rfl, hg16⟩
            obtain ⟨hs1, hs2, hs3, hs12⟩ := HSZ.out
            have hta : 5 ≠ 55 := by decide
            have htb : 5 ≠ 40 := by decide
            have fx := FX.out
            have ea16 := HEA15.out.kept hg16 (OB.ne_end HX15.out HEA15.out hta) (apart_of fun b h1 h2 => by have := FF.out b h1; have := fx b h2; omega)
              (apart_of fun b h1 h2 => HXG.out b h2 h1)
            have eb16 := HEB15.out.kept hg16 (OB.ne_end HX15.out HEB15.out htb) (apart_of fun b h1 h2 => by have := FA.out b h1; have := fx b h2; omega)
              (apart_of fun b h1 h2 => by
                have h3 := fx b h2
                rcases FG2'.out b h1 with h | h
                · omega
                · have := FG2.out b h; omega)
            have h0 := HE.out.2.2.size
            have hb16 : Below w.heap.size w w16 := HB15.out.grown hg16 HB15.out.size (fun k hk => by have := fx k hk; omega)
            have H16 := Lib.hid (And.intro ea16 (And.intro eb16 hb16))
            clear hs1 hs2 hs3 hs12 hta htb fx ea16 eb16 hb16 h0 hg16
            go_wp2_with fail
            go_roundw
            case rel => exact ⟨k + 1, by omega, by go_num, G', G2', s', H16⟩
            case measure => simp [intOf]; omega
          · have hea := HE.out.1.below hal
            have heb := HE.out.2.1.below hal
            obtain ⟨W, hW⟩ : ∃ W, wr.alloc (.cells #[.bool true, .int .u8 op.toNat, .slice Ap np cq] 38) = W := ⟨_, rfl⟩
            rw [hW] at hal hea heb
            have HW := Lib.hid hW
            have HRS := Lib.hid (Reset_calls hea)
            have HAL := Lib.hid hal
            have HEA := Lib.hid hea
            have HEB := Lib.hid heb
            clear hal hea heb hW
            go_wp2_with fail
            rw [HW.out]
            refine HRS.out.mono ?_
            rintro e w9 ⟨rfl, hea9, hg9⟩
            have heb9 := HEB.out.other HEA.out (by decide) (by decide) hg9
            have k3 := heb9.free.2.2.2.1
            have k4 := heb9.free.2.2.2.2.1
            have k5 := heb9.free.2.2.2.2.2
            have d3 := heb9.cells.2.2.2.1
            have d4 := heb9.cells.2.2.2.2.1
            have d5 := heb9.cells.2.2.2.2.2
            have e3 := ((heb9.setState (by decide) 0 (by omega)).setDevice (by decide) [] (by simp)).setAgreed (by decide) (.slice none 0 0) [] (World.ownsRow_nil _ _ _ _) (by simp)
            have hgb : w9.grownBy (((w9.setCell ⟨gb, 3, none⟩ (.int .i64 (0 : Nat))).setCell ⟨gb, 4, none⟩ (.string (strOf []))).setCell ⟨gb, 5, none⟩ (.slice none 0 0)) (some gb) := grown_trans_own (grown_set w9 gb 3 _) (grown_trans_own (grown_set _ gb 4 _) (grown_set _ gb 5 _))
            have ea10 := hea9.other heb9 (by decide) (by decide) hgb
            have hb10 : Below w.heap.size w (((w9.setCell ⟨gb, 3, none⟩ (.int .i64 (0 : Nat))).setCell ⟨gb, 4, none⟩ (.string (strOf []))).setCell ⟨gb, 5, none⟩ (.slice none 0 0)) := by
              have h1 := HE.out.2.2.trans (HAL.out.mono HE.out.2.2.size)
              have h2 := h1.grown hg9 h1.size (fun k hk => by cases hk; exact HE.out.1.lo)
              exact h2.grown hgb h2.size (fun k hk => by cases hk; exact HE.out.2.1.lo)
            have H16 := Lib.hid (And.intro ea10 (And.intro e3 hb10))
            clear hea9 hg9 heb9 e3 hgb ea10 hb10
            go_wp2_with fail
            go_roundw
            case rel => exact ⟨k + 1, by omega, by go_num, _, _, _, H16⟩
            case measure => simp [intOf]; omega
      · go_wp2_with fail
        refine (lsame_calls _ _ _ _ _ _ _ _ _ _ HE.out.1 HE.out.2.1).mono ?_
        rintro e w9 ⟨rfl, hb9⟩
        have HB9 := Lib.hid (HE.out.2.2.trans (hb9.mono HE.out.2.2.size))
        clear hb9
        go_wp2_with fail
        go_ret
        exact ⟨rfl, HB9.out⟩
end Go.Proofs.Ytfjlgpbplliccaa
