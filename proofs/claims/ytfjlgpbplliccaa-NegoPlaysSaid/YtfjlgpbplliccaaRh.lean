/- The reference's Hear. -/
import Derived.Test.YtfjlgpbplliccaaR
namespace Go.Proofs.Ytfjlgpbplliccaa
open Go.RowKit

section
variable {base : Nat} {w : World} {g : Nat} {F G : Value} {c : Cfg} {s : St}
def HeardR (base : Nat) (w : World) (g : Nat) (F : Value) (c : Cfg) (r : St × List UInt8 × Nat) (e : Ending) (w' : World) : Prop :=
  ∃ v' G', e = .returned (.tuple #[v', .int .i64 (r.2.2 : Int)]) ∧ OB w.heap.size w' v' r.2.1 ∧ EndAt base 40 w' g F G' c r.1 ∧ w.grownBy w' (some g) ∧ FreshOr w g G'
theorem HeardR.same (h : EndAt base 40 w g F G c s) (n : Nat) {w' : World} (hb : Below w.heap.size w w') : HeardR base w g F c (s, [], n) (.returned (.tuple #[.slice none 0 0, .int .i64 (n : Int)])) w' :=
  ⟨_, G, rfl, World.ownsRow_nil _ _ _ _, h.below hb, only_of_below hb _, .same h⟩

theorem se_true {p q : List UInt8} (h : p = q) : (p == q) = true := by simp [h]
theorem se_false {p q : List UInt8} (h : p ≠ q) : (p == q) = false := by simp [h]

set_option maxRecDepth 100000 in
set_option maxHeartbeats 2000000 in
/-- TERMINAL-TYPE; an option that is none; the host's own word; what is too short. -/
theorem RHear_easy (h : EndAt base 40 w g F G c s) (opt : UInt8) (A : Option Addr) (n cp : Nat) (p : List UInt8) (hn : n = p.length) (hr : RB w A p) (hl : n ≤ 1000) (hc : n ≤ cp)
    (hcase : opt = 24 ∨ opt ≠ 40 ∨ p = [8, 2] ∨ n < 2) :
    Calls Try.prog 13 #[.pointer (some ⟨g, 0, none⟩), .int .u8 opt.toNat, .slice A n cp] w (HeardR base w g F c (hearB c s opt p)) := by
  have HSM := Lib.hid (FreshOr.same h)
  have kc := hr.convert cp rfl
  rw [← hn] at kc
  obtain ⟨c0, c1, c2, c3, c4, c5⟩ := h.cells
  obtain ⟨f0, f1, f2, f3, f4, f5⟩ := h.free
  by_cases h24 : opt = 24
  · subst h24
    by_cases h1 : p = [1]
    · have e1 := se_true h1
      have hm : hearB c s 24 p = (s, [0] ++ c.typ, 0) := by simp [hearB, h1]
      rw [hm]
      have hb1 : Below w.heap.size w (w.alloc (.cells #[.int .u8 0] 5)) := (Below.refl _ w).alloc (Nat.le_refl _) _
      have HL := Lib.hid (OB.lit w w.heap.size (Nat.le_refl _) [0] (by simp) #[.int .u8 0] rfl 1 rfl)
      have htl := h.cs.1
      have d0 := (h.below hb1).cells.1
      have HE := Lib.hid h
      have HB := Lib.hid hb1
      clear h hr hn hb1 h1 hm c0 c1 c2 c3 c4 c5 f0 f1 f2 f3 f4 f5
      go_enter Try.func13, Try.ntmps13
      go_wp2_with (first
        | (at_builtin
           refine wpl_apps rfl (.tmp 25) (.tmp 30) rfl w.heap.size _ [0] rfl HL.out c.typ rfl (by simp; omega) (by simp) ?_
           intro v1 w1 hown1 hg1))
      go_ret2
      have hb2 : Below w.heap.size w w1 := HB.out.grown hg1 (by simp) (fun k hk => by cases hk; exact Nat.le_refl _)
      exact ⟨v1, G, rfl, hown1, HE.out.below hb2, only_of_below hb2 _, HSM.out⟩
    · have e1 := se_false h1
      have hm : hearB c s 24 p = (s, [], 4) := by simp [hearB, h1]
      rw [hm]
      have HS := Lib.hid (HeardR.same h 4 (Below.refl _ w))
      clear h hr hn h1 hm c0 c1 c2 c3 c4 c5 f0 f1 f2 f3 f4 f5
      go_enter Try.func13, Try.ntmps13
      go_wp2_with fail
      go_ret2
      exact HS.out
  · obtain ⟨a24, b24⟩ := tne8 (K := 24) h24 rfl
    by_cases h40 : opt = 40
    · subst h40
      clear a24 b24
      by_cases h82 : p = [8, 2]
      · have e82 := se_true h82
        by_cases h4 : s.state = 4
        · have hm : hearB c s 40 p = (s, [], 6) := by simp [hearB, h82, h4]
          rw [hm]
          obtain ⟨a4, b4⟩ := teq (show (s.state : Int) = 4 by omega)
          have HS := Lib.hid (HeardR.same h 6 (Below.refl _ w))
          clear h hr hn h82 hm c0 c1 c2 c4 c5 f0 f1 f2 f3 f4 f5
          go_enter Try.func13, Try.ntmps13
          go_wp2_with fail
          go_ret2
          exact HS.out
        · have hm : hearB c s 40 p = (⟨1, [], []⟩, asksB c, 0) := by simp [hearB, h82, h4]
          rw [hm]
          obtain ⟨a4, b4⟩ := tne (show (s.state : Int) ≠ 4 by omega)
          have h1 := h.setState (by decide) 1 (by omega)
          have h2 := h1.setDevice (by decide) [] (by simp)
          have h3 := h2.setAgreed (by decide) (.slice none 0 0) [] (World.ownsRow_nil _ _ _ _) (by simp)
          have hg3 : w.grownBy (((w.setCell ⟨g, 3, none⟩ (.int .i64 1)).setCell ⟨g, 4, none⟩ (.string (strOf []))).setCell ⟨g, 5, none⟩ (.slice none 0 0)) (some g) := grown_trans_own (grown_set w g 3 _) (grown_trans_own (grown_set _ g 4 _) (grown_set _ g 5 _))
          obtain ⟨W, hW⟩ : ∃ W, ((w.setCell ⟨g, 3, none⟩ (.int .i64 1)).setCell ⟨g, 4, none⟩ (.string (strOf []))).setCell ⟨g, 5, none⟩ (.slice none 0 0) = W := ⟨_, rfl⟩
          have h3' : EndAt base 40 W g F (.slice none 0 0) c ⟨1, [], []⟩ := by rw [← hW]; exact h3
          rw [hW] at hg3
          have hx := hg3.size
          have hcs := h.cs
          obtain ⟨d0, d1, _, _, _, _⟩ := h3'.cells
          have HL := Lib.hid (OB.lit W W.heap.size (Nat.le_refl _) [2, 7] (by simp) #[.int .u8 2, .int .u8 7] rfl 2 rfl)
          have HE := Lib.hid h3'
          have HG := Lib.hid hg3
          have HW := Lib.hid (show ((w.setCell ⟨g, 3, none⟩ (.int .i64 1)).setCell ⟨g, 4, none⟩ (.string ⟨#[]⟩)).setCell ⟨g, 5, none⟩ (.slice none 0 0) = W from hW)
          have hgW := h3'.lt
          obtain ⟨hc1, hc2, _⟩ := hcs
          clear h h1 h2 h3 h3' hg3 hW c0 c1 c2 f0 f1 f2 hm hn hr h82 h4
          go_enter Try.func13, Try.ntmps13
          go_upto_region 12 with (fail)
          rw [HW.out]
          clear HW c3 c4 c5 f3 f4 f5 kc
          go_upto_region 13 with (first
            | (at_builtin
               refine wpl_apps rfl (.tmp 50) (.tmp 55) rfl W.heap.size _ [2, 7] rfl HL.out c.typ rfl (by simp; omega) (by simp) ?_
               intro v1 w1 hown1 hg1))
          have hb : Below W.heap.size W w1 := ((Below.refl _ W).alloc (Nat.le_refl _) _).grown hg1 (by simp) (fun k hk => by cases hk; exact Nat.le_refl _)
          have e1 := (HE.out.below hb).cells.2.1
          have hsz := hb.size
          obtain ⟨xs1, hxs⟩ : ∃ x, [2, 7] ++ c.typ = x := ⟨_, rfl⟩
          have hown1' : OB W.heap.size w1 v1 ([2, 7] ++ c.typ) := hown1
          rw [hxs] at hown1'
          have hxl : xs1.length ≤ 1002 := by rw [← hxs]; simp; omega
          have HX := Lib.hid hxs
          have HO := Lib.hid hown1'
          have HB := Lib.hid hb
          obtain ⟨A1, cp1, hv, hcp, _, hbk, _⟩ := hown1'.reads
          subst hv
          clear hown1 hown1' hb hg1 d0 d1 hbk hxs
          by_cases hd : c.dev = []
          · have HA := Lib.hid (show asksB c = [2, 7] ++ c.typ by simp [asksB, hd])
            rw [hd] at e1
            go_wp2_with fail
            go_ret2
            exact ⟨_, _, rfl, by rw [HA.out, HX.out]; exact HO.out.low hx, HE.out.below HB.out, grown_trans_own HG.out (only_of_below HB.out _), .nil⟩
          · have hd' : c.dev.isEmpty = false := by cases hdv : c.dev with
              | nil => exact absurd hdv hd
              | cons a t => rfl
            have HA := Lib.hid (show asksB c = [2, 7] ++ c.typ ++ [1] ++ c.dev by simp [asksB, hd])
            have HL1 := Lib.hid (HO.out.alloc (.cells #[.int .u8 1] 5))
            have hr1 : Reads (w1.alloc (.cells #[.int .u8 1] 5)) (w1.alloc (.cells #[.int .u8 1] 5)).heap.size 1 (some ⟨w1.heap.size, 0, none⟩) 1 (bv [1]) := Reads.of_own (OB.lit w1 w1.heap.size (Nat.le_refl _) [1] (by simp) #[.int .u8 1] rfl 1 rfl)
            have HR := Lib.hid hr1
            have hgw1 : g < w1.heap.size := by omega
            clear hr1 hd
            go_wp2_with fail
            have hne1 : (Value.slice A1 xs1.length cp1).ownBlock ≠ some g := HO.out.ne_end (HE.out.below HB.out) (by decide)
            go_region_held3 (fun w' => w'.cell? ⟨g, 1, none⟩ = some (.string (strOf c.dev))) (first | go_keep | (rw [hkeep2]; assumption) | (rw [hkeep3]; assumption))
              (first
               | (refine step_app rfl (.tmp 63) (.tmp 64) rfl W.heap.size _ xs1 rfl HL1.out _ _ 1 1 [1] rfl rfl HR.out (by simp; omega) (by simp; omega) ?_
                  intro v2 w2 hown2 hg2 hat2
                  have hkeep2 : w2.cell? ⟨g, 1, none⟩ = _ := keep_cell hg2 hne1 (by simp; omega) 1
                  have hne2 : v2.ownBlock ≠ some g := by
                    rcases hat2 with e | e
                    · rw [e]; exact hne1
                    · rw [e]; simp; omega
                  have hsz2 : w1.heap.size + 1 ≤ w2.heap.size := by have := hg2.size; simpa using this)
               | (refine step_apps rfl (.tmp 65) (.tmp 70) rfl W.heap.size _ (xs1 ++ [1]) rfl (by assumption) c.dev rfl (by simp; omega) (by omega) ?_
                  intro v3 w3 hown3 hg3
                  have hkeep3 : w3.cell? ⟨g, 1, none⟩ = _ := keep_cell hg3 hne2 (by omega) 1))
            go_wp2_with fail
            go_ret2
            have HB1 := HB.out
            have hb1 : Below W.heap.size W (w1.alloc (.cells #[.int .u8 1] 5)) := HB1.alloc HB1.size _
            have hb2 : Below W.heap.size W w2 := hb1.drew.grown hg2 hb1.size (fun k hk => (HO.out.lt k hk).1)
            have hb3 : Below W.heap.size W w3 := hb2.grown hg3 hb2.size (fun k hk => (hown2.lt k hk).1)
            exact ⟨v3, _, rfl, by rw [HA.out, HX.out]; exact hown3.low hx, HE.out.below hb3, grown_trans_own HG.out (only_of_below hb3 _), .nil⟩
      · have e82 := se_false h82
        have hn2 : n < 2 := by
          rcases hcase with e | e | e | e
          · exact absurd e (by decide)
          · exact absurd rfl e
          · exact absurd e h82
          · exact e
        have hm : hearB c s 40 p = (s, [], 4) := by
          cases p with
          | nil => rfl
          | cons x r =>
            cases r with
            | nil =>
              unfold hearB
              rw [if_neg (by decide), if_neg (by decide), if_neg (by rw [e82]; decide)]
              simp only [hdB, hfB]
              by_cases h2 : x = 2 <;> by_cases h3 : x = 3 <;> simp [h2, h3]
            | cons y r => simp at hn; omega
        rw [hm]
        have HS := Lib.hid (HeardR.same h 4 (Below.refl _ w))
        have hnl : (n : Int) < 2 := by omega
        clear h hr hn h82 hm hn2 c0 c1 c2 c3 c4 c5 f0 f1 f2 f3 f4 f5
        go_enter Try.func13, Try.ntmps13
        go_wp2_with fail
        go_ret2
        exact HS.out
    · obtain ⟨a40, b40⟩ := tne8 (K := 40) h40 rfl
      have hm : hearB c s opt p = (s, [], 5) := by simp [hearB, h24, h40]
      rw [hm]
      have HS := Lib.hid (HeardR.same h 5 (Below.refl _ w))
      clear h hr hn h24 h40 hm c0 c1 c2 c3 c4 c5 f0 f1 f2 f3 f4 f5
      go_enter Try.func13, Try.ntmps13
      go_wp2_with fail
      go_ret2
      exact HS.out

/-- where the two first bytes stand, as the walk asks for them -/
structure Two (w : World) (A : Option Addr) (n cp : Nat) (p t : List UInt8) : Prop where
  kc : (convert 22 9 (.slice A n cp)).run Try.prog w = .ok (.string (strOf p)) w
  ex : (strOf p).extract 0 2 = strOf t
  l2 : (2 : Int) ≤ (p.length : Int)
  n2 : (2 : Int) ≤ (n : Int)
  e82 : (p == [8, 2]) = false

theorem two_of {A : Option Addr} {n cp : Nat} {x y : UInt8} {r : List UInt8} (hn : n = (x :: y :: r).length) (hr : RB w A (x :: y :: r)) (h82 : x :: y :: r ≠ [8, 2]) : Two w A n cp (x :: y :: r) [x, y] := by
  have kc := hr.convert cp rfl
  rw [← hn] at kc
  exact ⟨kc, by rw [strOf_extract]; rfl, by simp; omega, by rw [hn]; simp; omega, se_false h82⟩

set_option maxRecDepth 100000 in
set_option maxHeartbeats 2000000 in
/-- DEVICE-TYPE REJECT REASON; what is none of the four. -/
theorem RHear_26 (h : EndAt base 40 w g F G c s) (A : Option Addr) (n cp : Nat) (r : List UInt8) (hn : n = (2 :: 6 :: r).length) (hr : RB w A (2 :: 6 :: r)) (hl : n ≤ 1000) (hc : n ≤ cp) :
    Calls Try.prog 13 #[.pointer (some ⟨g, 0, none⟩), .int .u8 40, .slice A n cp] w (HeardR base w g F c (hdB c s (6 :: r))) := by
  have HSM := Lib.hid (FreshOr.same h)
  obtain ⟨kc, ex, l2, n2, e82⟩ := two_of (cp := cp) hn hr (by intro e; injection e with e _; exact absurd e (by decide))
  obtain ⟨p, hp⟩ : ∃ p, p = 2 :: 6 :: r := ⟨_, rfl⟩
  rw [← hp] at kc ex l2 e82
  obtain ⟨t, ht⟩ : ∃ t : List UInt8, t = [2, 6] := ⟨_, rfl⟩
  rw [← ht] at ex
  have t1 := se_true ht
  obtain ⟨c0, c1, c2, c3, c4, c5⟩ := h.cells
  have f3 := h.free.2.2.2.1
  clear ht c0 c1 c2 c4 c5
  by_cases h4 : n = 4
  · obtain ⟨x, y, rfl⟩ : ∃ x y, r = [x, y] := by
      rw [h4] at hn
      match r, hn with
      | [x, y], _ => exact ⟨x, y, rfl⟩
    obtain ⟨ad, rfl, _, hcc⟩ := hr.2 (by simp)
    have hx : w.cell? ⟨ad.block, ad.off + 2, none⟩ = some (.int .u8 (x.toNat : Int)) := by have := hcc 2 (.int .u8 (x.toNat : Int)) rfl; simpa [Addr.add] using this
    obtain ⟨a4, b4⟩ := teq (show (n : Int) = 4 by omega)
    have n3 : (2 : Int) < (n : Int) := by omega
    by_cases h5 : x = 5
    · subst h5
      have hx5 : w.cell? ⟨ad.block, ad.off + 2, none⟩ = some (.int .u8 5) := hx
      have hm : hdB c s [6, 5, y] = if s.state != 1 then (s, [], 6) else ({ s with state := 4 }, [], 0) := rfl
      rw [hm]
      by_cases hst : s.state = 1
      · have e1 : (s.state != 1) = false := by simp [hst]
        rw [e1]
        simp only [Bool.false_eq_true, if_false]
        obtain ⟨a1, b1⟩ := teq (show (s.state : Int) = 1 by omega)
        have h2 := Lib.hid (h.setState (by decide) 4 (by omega))
        clear h e1 hm hn hr hp hcc hx hst h4
        go_enter Try.func13, Try.ntmps13
        go_wp2_with fail
        go_ret2
        exact ⟨_, G, rfl, World.ownsRow_nil _ _ _ _, h2.out, grown_set _ g 3 _, HSM.out⟩
      · have e1 : (s.state != 1) = true := by simp [hst]
        rw [e1]
        simp only [if_true]
        obtain ⟨a1, b1⟩ := tne (show (s.state : Int) ≠ 1 by omega)
        have HS := Lib.hid (HeardR.same h 6 (Below.refl _ w))
        clear h e1 hm hn hr hp hcc hx hst h4
        go_enter Try.func13, Try.ntmps13
        go_wp2_with fail
        go_ret2
        exact HS.out
    · obtain ⟨a5, b5⟩ := tne8 (K := 5) h5 rfl
      have hm : hdB c s [6, x, y] = (s, [], 4) := by simp [hdB, h5]
      rw [hm]
      have HS := Lib.hid (HeardR.same h 4 (Below.refl _ w))
      clear h hm hn hr hp hcc h4 h5
      go_enter Try.func13, Try.ntmps13
      go_wp2_with fail
      go_ret2
      exact HS.out
  · obtain ⟨a4, b4⟩ := tne (show (n : Int) ≠ 4 by omega)
    have hm : hdB c s (6 :: r) = (s, [], 4) := by
      have : ¬ r.length = 2 := by intro e; rw [hn] at h4; simp at h4; omega
      simp [hdB, this]
    rw [hm]
    have HS := Lib.hid (HeardR.same h 4 (Below.refl _ w))
    clear h hm hn hr hp h4
    go_enter Try.func13, Try.ntmps13
    go_wp2_with fail
    go_ret2
    exact HS.out

set_option maxRecDepth 100000 in
set_option maxHeartbeats 2000000 in
theorem RHear_none (h : EndAt base 40 w g F G c s) (A : Option Addr) (n cp : Nat) (x y : UInt8) (r : List UInt8) (hn : n = (x :: y :: r).length) (hr : RB w A (x :: y :: r)) (hl : n ≤ 1000) (hc : n ≤ cp) (h82 : x :: y :: r ≠ [8, 2])
    (h26 : [x, y] ≠ [2, 6]) (h24 : [x, y] ≠ [2, 4]) (h34 : [x, y] ≠ [3, 4]) (h37 : [x, y] ≠ [3, 7]) :
    Calls Try.prog 13 #[.pointer (some ⟨g, 0, none⟩), .int .u8 40, .slice A n cp] w (HeardR base w g F c (s, [], 4)) := by
  have HSM := Lib.hid (FreshOr.same h)
  obtain ⟨kc, ex, l2, n2, e82⟩ := two_of (cp := cp) hn hr h82
  obtain ⟨p, hp⟩ : ∃ p, p = x :: y :: r := ⟨_, rfl⟩
  rw [← hp] at kc ex l2 e82
  obtain ⟨t, ht⟩ : ∃ t : List UInt8, t = [x, y] := ⟨_, rfl⟩
  rw [← ht] at ex h26 h24 h34 h37
  have t1 := se_false h26
  have t2 := se_false h24
  have t3 := se_false h34
  have t4 := se_false h37
  have HS := Lib.hid (HeardR.same h 4 (Below.refl _ w))
  clear ht hp h hn hr h82 h26 h24 h34 h37
  go_enter Try.func13, Try.ntmps13
  go_wp2_with fail
  go_ret2
  exact HS.out

set_option maxRecDepth 100000 in
set_option maxHeartbeats 2000000 in
/-- DEVICE-TYPE IS. -/
theorem RHear_24 (h : EndAt base 40 w g F G c s) (A : Option Addr) (n cp : Nat) (r : List UInt8) (hn : n = (2 :: 4 :: r).length) (hr : RB w A (2 :: 4 :: r)) (hl : n ≤ 1000) (hc : n ≤ cp) :
    Calls Try.prog 13 #[.pointer (some ⟨g, 0, none⟩), .int .u8 40, .slice A n cp] w (HeardR base w g F c (hdB c s (4 :: r))) := by
  have HSM := Lib.hid (FreshOr.same h)
  obtain ⟨kc, ex, l2, n2, e82⟩ := two_of (cp := cp) hn hr (by intro e; injection e with e _; exact absurd e (by decide))
  have hrl : r.length = n - 2 := by rw [hn]; simp
  have hrr : RB w (cutA A cp 2) r := by have := (hr.cutA (k := 2) (c := cp) (by simp) (by omega)); simpa using this
  have HNM := Lib.hid (names_calls (w := w) (cutA A cp 2) (n - 2) (cp - 2) r hrl.symm hrr (by omega) (by omega))
  obtain ⟨p, hp⟩ : ∃ p : List UInt8, p = 2 :: 4 :: r := ⟨_, rfl⟩
  rw [← hp] at kc ex l2 e82
  obtain ⟨t, ht⟩ : ∃ t : List UInt8, t = [2, 4] := ⟨_, rfl⟩
  rw [← ht] at ex
  have t1 : (t == [2, 6]) = false := by rw [ht]; rfl
  have t2 := se_true ht
  have hm : hdB c s (4 :: r) = if !(gotB r).2 then (s, [], 4) else if s.state != 1 then (s, [], 6) else (⟨2, (gotB r).1, []⟩, [3, 7] ++ c.fns, 0) := by
    have ha : ¬ ((4 :: r).length == 3 && (4 :: r : List UInt8).getD 0 0 == 6 && (4 :: r : List UInt8).getD 1 0 == 5) = true := by simp
    unfold hdB; rw [if_neg ha]; rfl
  rw [hm]
  have hdl : (gotB r).1.length ≤ 1000 := Nat.le_trans (got_len r) (by omega)
  clear ht hp hn hr hrl hrr hm
  obtain ⟨nm, hnm⟩ : ∃ x, (gotB r).1 = x := ⟨_, rfl⟩
  rw [hnm] at HNM hdl
  rw [hnm]
  clear hnm
  cases hg : (gotB r).2
  · rw [hg] at HNM
    simp only [Bool.not_false, if_true]
    clear hg
    have HE := Lib.hid h
    clear h
    go_enter Try.func13, Try.ntmps13
    go_wp2_with fail
    refine HNM.out.mono ?_
    rintro e w1 ⟨rfl, k, rfl⟩
    go_wp2_with fail
    go_ret2
    exact HeardR.same HE.out 4 (below_drewN (Below.refl _ _) k)
  · rw [hg] at HNM
    simp only [Bool.not_true, Bool.false_eq_true, if_false]
    clear hg
    obtain ⟨c0, c1, c2, c3, c4, c5⟩ := h.cells
    by_cases hst : s.state = 1
    · have e1 : (s.state != 1) = false := by simp [hst]
      rw [e1]
      simp only [Bool.false_eq_true, if_false]
      clear e1
      obtain ⟨a1, b1⟩ := teq (show (s.state : Int) = 1 by omega)
      obtain ⟨f0, f1, f2, f3, f4, f5⟩ := h.free
      obtain ⟨AF, cF, hFv, hcF, _, _, _⟩ := h.fns.reads
      subst hFv
      have hW := fun k => (((h.drewN k).setState (by decide) 2 (by omega)).setDevice (by decide) nm hdl).setAgreed (by decide) (.slice none 0 0) [] (World.ownsRow_nil _ _ _ _) (by simp)
      have HW := Lib.hid hW
      have HE := Lib.hid h
      have hfl := h.cs.2.2
      clear hW h hst
      go_enter Try.func13, Try.ntmps13
      go_wp2_with fail
      refine HNM.out.mono ?_
      rintro e w1 ⟨rfl, k, rfl⟩
      go_upto_region 34 with (fail)
      obtain ⟨W, hW⟩ : ∃ W, (((w.drewN k).setCell ⟨g, 3, none⟩ (.int .i64 2)).setCell ⟨g, 4, none⟩ (.string (strOf nm))).setCell ⟨g, 5, none⟩ (.slice none 0 0) = W := ⟨_, rfl⟩
      rw [hW]
      have he : EndAt base 40 W g (.slice AF c.fns.length cF) (.slice none 0 0) c ⟨2, nm, []⟩ := by rw [← hW]; exact HW.out k
      have hgr : w.grownBy W (some g) := by
        rw [← hW]
        exact grown_trans_own (grown_trans_own (only_drewN (World.grownBy.refl w _) k) (grown_set _ g 3 _)) (grown_trans_own (grown_set _ g 4 _) (grown_set _ g 5 _))
      have hb1 : Below W.heap.size W (W.alloc (.cells #[.int .u8 3, .int .u8 7] 5)) := (Below.refl _ W).alloc (Nat.le_refl _) _
      have d2 := (he.below hb1).cells.2.2.1
      have HL := Lib.hid (OB.lit W W.heap.size (Nat.le_refl _) [3, 7] (by simp) #[.int .u8 3, .int .u8 7] rfl 2 rfl)
      have HRF := Lib.hid (Reads.of_own (he.below hb1).fns)
      have HEE := Lib.hid he
      have HGR := Lib.hid hgr
      clear hW he hgr hb1 c0 c1 c2 c3 c4 c5 f0 f1 f2 f3 f4 f5 kc
      go_wp2_with (first
        | (at_builtin
           refine wpl_app rfl (.tmp 123) (.tmp 128) rfl W.heap.size _ [3, 7] rfl HL.out _ AF c.fns.length cF c.fns rfl rfl HRF.out (by simp; omega) (by simp) ?_
           intro v1 w1 hown1 hg1 hat1))
      go_ret2
      have hb2 : Below W.heap.size W w1 := ((Below.refl _ W).alloc (Nat.le_refl _) _).grown hg1 (by simp) (fun k hk => by cases hk; exact Nat.le_refl _)
      exact ⟨v1, _, rfl, hown1.low HGR.out.size, HEE.out.below hb2, grown_trans_own HGR.out (only_of_below hb2 _), .nil⟩
    · have e1 : (s.state != 1) = true := by simp [hst]
      rw [e1]
      simp only [if_true]
      clear e1
      obtain ⟨a1, b1⟩ := tne (show (s.state : Int) ≠ 1 by omega)
      have HE := Lib.hid h
      clear h c0 c1 c2 c4 c5
      go_enter Try.func13, Try.ntmps13
      go_wp2_with fail
      refine HNM.out.mono ?_
      rintro e w1 ⟨rfl, k, rfl⟩
      go_wp2_with fail
      go_ret2
      exact HeardR.same HE.out 6 (below_drewN (Below.refl _ _) k)

set_option maxRecDepth 100000 in
set_option maxHeartbeats 2000000 in
/-- FUNCTIONS IS. -/
theorem RHear_34 (h : EndAt base 40 w g F G c s) (A : Option Addr) (n cp : Nat) (l : List UInt8) (hn : n = (3 :: 4 :: l).length) (hr : RB w A (3 :: 4 :: l)) (hl : n ≤ 1000) (hc : n ≤ cp) (hA : ∀ a, A = some a → a.block ≠ g) :
    Calls Try.prog 13 #[.pointer (some ⟨g, 0, none⟩), .int .u8 40, .slice A n cp] w (HeardR base w g F c (hfB c s (4 :: l))) := by
  have HSM := Lib.hid (FreshOr.same h)
  obtain ⟨kc, ex, l2, n2, e82⟩ := two_of (cp := cp) hn hr (by intro e; injection e with e _; exact absurd e (by decide))
  have hrl : l.length = n - 2 := by rw [hn]; simp
  have hrr : RB w (cutA A cp 2) l := by have := (hr.cutA (k := 2) (c := cp) (by simp) (by omega)); simpa using this
  have hA' : ∀ a, cutA A cp 2 = some a → a.block ≠ g := fun a ha => by
    have := congrArg (Option.map (·.block)) ha
    rw [cutA_block] at this
    cases A with
    | none => simp at this
    | some b => simp at this; rw [← this]; exact hA b rfl
  have HCM := Lib.hid (common_calls h (cutA A cp 2) (n - 2) (cp - 2) l hrl.symm hrr (by omega) (by omega))
  obtain ⟨p, hp⟩ : ∃ p : List UInt8, p = 3 :: 4 :: l := ⟨_, rfl⟩
  rw [← hp] at kc ex l2 e82
  obtain ⟨t, ht⟩ : ∃ t : List UInt8, t = [3, 4] := ⟨_, rfl⟩
  rw [← ht] at ex
  have t1 : (t == [2, 6]) = false := by rw [ht]; rfl
  have t2 : (t == [2, 4]) = false := by rw [ht]; rfl
  have t3 := se_true ht
  have HE := Lib.hid h
  have HRR := Lib.hid hrr
  have HRL := Lib.hid hrl
  have HAA := Lib.hid hA'
  clear ht hp hn hr hrl hrr h hA hA'
  cases ho : onceB l with
  | false =>
    have hm : hfB c s (4 :: l) = (s, [], 4) := by simp [hfB, ho]
    rw [hm]
    rw [ho] at HCM
    clear hm ho
    go_enter Try.func13, Try.ntmps13
    go_wp2_with fail
    refine HCM.out.mono ?_
    rintro e w1 ⟨v, rfl, hov, hb⟩
    have HB := Lib.hid hb
    clear hov hb
    go_wp2_with fail
    go_ret2
    exact HeardR.same HE.out 4 HB.out
  | true =>
    rw [ho] at HCM
    by_cases h2 : s.state = 2
    · obtain ⟨a2, b2⟩ := teq (show (s.state : Int) = 2 by omega)
      cases hw : ownB c.fns l with
      | false =>
        have hm : hfB c s (4 :: l) = ({ s with state := 4 }, [], 0) := by simp [hfB, ho, h2, hw]
        rw [hm]
        rw [hw] at HCM
        have ht : 5 ≠ 40 := by decide
        clear hm ho hw h2
        go_enter Try.func13, Try.ntmps13
        go_wp2_with fail
        refine HCM.out.mono ?_
        rintro e w1 ⟨v, rfl, hov, hb⟩
        have h1 := HE.out.below hb
        have H2 := Lib.hid (h1.setState ht 4 (by omega))
        have d3 := h1.cells.2.2.2.1
        have k3 := h1.free.2.2.2.1
        have HB := Lib.hid hb
        clear hov hb h1
        go_wp2_with fail
        go_ret2
        exact ⟨_, G, rfl, World.ownsRow_nil _ _ _ _, H2.out, grown_trans_own (only_of_below HB.out _) (grown_set _ g 3 _), HSM.out⟩
      | true =>
        have hm : hfB c s (4 :: l) = ({ s with state := 3, agreed := sortedB l }, [], 0) := by simp [hfB, ho, h2, hw]
        rw [hm]
        rw [hw] at HCM
        have ht : 5 ≠ 40 := by decide
        clear hm ho hw h2
        go_enter Try.func13, Try.ntmps13
        go_wp2_with fail
        refine HCM.out.mono ?_
        rintro e w1 ⟨v, rfl, hov, hb⟩
        have h1 := HE.out.below hb
        have h2 := h1.setState ht 4 (by omega)
        have hg1 := grown_set w1 g 3 (.int .i64 (4 : Nat))
        have d3 := h1.cells.2.2.2.1
        have k3 := h1.free.2.2.2.1
        have hrs := (HRR.out.below hb).set HAA.out hg1 hb.size
        obtain ⟨W, hW⟩ : ∃ W, w1.setCell ⟨g, 3, none⟩ (.int .i64 ((4 : Nat) : Int)) = W := ⟨_, rfl⟩
        rw [hW] at h2 hg1 hrs
        have HSO := Lib.hid (sorted_calls (w := W) (cutA A cp 2) (n - 2) (cp - 2) l HRL.out.symm (hrs.more (Nat.le_trans hb.size hg1.size)) (by omega))
        have HW := Lib.hid (show w1.setCell ⟨g, 3, none⟩ (.int .i64 4) = W from hW)
        have H2 := Lib.hid h2
        have HG1 := Lib.hid hg1
        have HB := Lib.hid hb
        clear hov hb h1 h2 hg1 hrs hW
        go_upto_region 42 with (fail)
        rw [HW.out]
        clear d3 k3
        go_wp2_with fail
        refine HSO.out.mono ?_
        rintro e w2 ⟨v2, rfl, ho2, hb2⟩
        have e2 := H2.out.below hb2
        have hov2 : OB base w2 v2 (sortedB l) := ho2.low (Nat.le_trans e2.lo (Nat.le_of_lt H2.out.lt))
        have hsl := sorted_len l
        have e3 := (e2.setState ht 3 (by omega)).setAgreed ht v2 (sortedB l) (hov2.kept (grown_set w2 g 3 _) (.inr (hov2.ne_end e2 ht))) (by omega)
        have k3 := e2.free.2.2.2.1
        have k5 := e2.free.2.2.2.2.2
        have d3 := e2.cells.2.2.2.1
        have d5 := e2.cells.2.2.2.2.2
        obtain ⟨A2, cp2, hv2, _, _, _, _⟩ := ho2.reads
        subst hv2
        have HO2 := Lib.hid ho2
        have hgw : W.grownBy ((w2.setCell ⟨g, 3, none⟩ (.int .i64 (3 : Nat))).setCell ⟨g, 5, none⟩ (.slice A2 (sortedB l).length cp2)) (some g) := grown_trans_own (only_of_below hb2 _) (grown_trans_own (grown_set w2 g 3 _) (grown_set _ g 5 _))
        have E3 := Lib.hid e3
        have HGW := Lib.hid hgw
        clear e2 e3 hov2 ho2 hb2 hgw
        go_wp2_with fail
        go_ret2
        exact ⟨_, _, rfl, World.ownsRow_nil _ _ _ _, E3.out, grown_trans_own (only_of_below HB.out _) (grown_trans_own HG1.out HGW.out), .fresh (Nat.le_trans HB.out.size HG1.out.size) (fun b hb => (HO2.out.lt b hb).1)⟩
    · obtain ⟨a2, b2⟩ := tne (show (s.state : Int) ≠ 2 by omega)
      have hm : hfB c s (4 :: l) = (s, [], 6) := by simp [hfB, ho, h2]
      rw [hm]
      clear hm ho h2
      go_enter Try.func13, Try.ntmps13
      go_wp2_with fail
      refine HCM.out.mono ?_
      rintro e w1 ⟨v, rfl, hov, hb⟩
      have d3 := (HE.out.below hb).cells.2.2.2.1
      have HB := Lib.hid hb
      clear hov hb
      go_wp2_with fail
      go_ret2
      exact HeardR.same HE.out 6 HB.out

set_option maxRecDepth 100000 in
set_option maxHeartbeats 2000000 in
/-- FUNCTIONS REQUEST. -/
theorem RHear_37 (h : EndAt base 40 w g F G c s) (A : Option Addr) (n cp : Nat) (l : List UInt8) (hn : n = (3 :: 7 :: l).length) (hr : RB w A (3 :: 7 :: l)) (hl : n ≤ 1000) (hc : n ≤ cp) (hA : ∀ a, A = some a → a.block ≠ g) :
    Calls Try.prog 13 #[.pointer (some ⟨g, 0, none⟩), .int .u8 40, .slice A n cp] w (HeardR base w g F c (hfB c s (7 :: l))) := by
  have HSM := Lib.hid (FreshOr.same h)
  obtain ⟨kc, ex, l2, n2, e82⟩ := two_of (cp := cp) hn hr (by intro e; injection e with e _; exact absurd e (by decide))
  have hrl : l.length = n - 2 := by rw [hn]; simp
  have hrr : RB w (cutA A cp 2) l := by have := (hr.cutA (k := 2) (c := cp) (by simp) (by omega)); simpa using this
  have hA' : ∀ a, cutA A cp 2 = some a → a.block ≠ g := fun a ha => by
    have := congrArg (Option.map (·.block)) ha
    rw [cutA_block] at this
    cases A with
    | none => simp at this
    | some b => simp at this; rw [← this]; exact hA b rfl
  have HCM := Lib.hid (common_calls h (cutA A cp 2) (n - 2) (cp - 2) l hrl.symm hrr (by omega) (by omega))
  obtain ⟨p, hp⟩ : ∃ p : List UInt8, p = 3 :: 7 :: l := ⟨_, rfl⟩
  rw [← hp] at kc ex l2 e82
  obtain ⟨t, ht⟩ : ∃ t : List UInt8, t = [3, 7] := ⟨_, rfl⟩
  rw [← ht] at ex
  have t1 : (t == [2, 6]) = false := by rw [ht]; rfl
  have t2 : (t == [2, 4]) = false := by rw [ht]; rfl
  have t3 : (t == [3, 4]) = false := by rw [ht]; rfl
  have t4 := se_true ht
  have HE := Lib.hid h
  have HRR := Lib.hid hrr
  have HRL := Lib.hid hrl
  have HAA := Lib.hid hA'
  clear ht hp hn hr hrl hrr h hA hA'
  cases ho : onceB l with
  | false =>
    have hm : hfB c s (7 :: l) = (s, [], 4) := by simp [hfB, ho]
    rw [hm]
    rw [ho] at HCM
    clear hm ho
    go_enter Try.func13, Try.ntmps13
    go_wp2_with fail
    refine HCM.out.mono ?_
    rintro e w1 ⟨v, rfl, hov, hb⟩
    have HB := Lib.hid hb
    clear hov hb
    go_wp2_with fail
    go_ret2
    exact HeardR.same HE.out 4 HB.out
  | true =>
    rw [ho] at HCM
    by_cases h2 : s.state = 2 ∨ s.state = 3
    · have h23 : (((s.state : Int) != 2) = false) ∨ (((s.state : Int) != 2) = true ∧ ((s.state : Int) != 3) = false) := by
        rcases h2 with e | e
        · exact .inl (teq (show (s.state : Int) = 2 by omega)).2
        · exact .inr ⟨(tne (show (s.state : Int) ≠ 2 by omega)).2, (teq (show (s.state : Int) = 3 by omega)).2⟩
      have hmm : (s.state != 2 && ((7 : UInt8) == 4 || s.state != 3)) = false := by
        rcases h2 with e | e <;> simp [e]
      have ht : 5 ≠ 40 := by decide
      cases hw : ownB c.fns l with
      | false =>
        have hm : hfB c s (7 :: l) = ({ s with state := 2, agreed := [] }, [3, 7] ++ commonB c.fns l, 0) := by
          unfold hfB
          simp only [ho, hmm, hw]
          rfl
        rw [hm]
        rw [hw] at HCM
        have hcl : (commonB c.fns l).length ≤ 1000 := Nat.le_trans (List.length_filter_le _ _) (by have := HRL.out; omega)
        clear hm ho hw h2 hmm
        rcases h23 with a2 | ⟨a2, a3⟩
        all_goals
          go_enter Try.func13, Try.ntmps13
          go_wp2_with fail
          refine HCM.out.mono ?_
          rintro e w1 ⟨v, rfl, hov, hb⟩
          have h1 := HE.out.below hb
          have d3 := h1.cells.2.2.2.1
          have d5 := h1.cells.2.2.2.2.2
          have k3 := h1.free.2.2.2.1
          have k5 := h1.free.2.2.2.2.2
          have e2 := (h1.setState ht 2 (by omega)).setAgreed ht (.slice none 0 0) [] (World.ownsRow_nil _ _ _ _) (by simp)
          have hg1 : w1.grownBy ((w1.setCell ⟨g, 3, none⟩ (.int .i64 (2 : Nat))).setCell ⟨g, 5, none⟩ (.slice none 0 0)) (some g) := grown_trans_own (grown_set w1 g 3 _) (grown_set _ g 5 _)
          have hov1 : OB w.heap.size ((w1.setCell ⟨g, 3, none⟩ (.int .i64 (2 : Nat))).setCell ⟨g, 5, none⟩ (.slice none 0 0)) v (commonB c.fns l) := hov.kept hg1 (.inr (hov.ne_end h1 ht))
          obtain ⟨W, hW⟩ : ∃ W, (w1.setCell ⟨g, 3, none⟩ (.int .i64 ((2 : Nat) : Int))).setCell ⟨g, 5, none⟩ (.slice none 0 0) = W := ⟨_, rfl⟩
          rw [hW] at e2 hg1 hov1
          obtain ⟨Av, cv, hv, _, _, _, _⟩ := hov.reads
          subst hv
          have HW := Lib.hid (show (w1.setCell ⟨g, 3, none⟩ (.int .i64 2)).setCell ⟨g, 5, none⟩ (.slice none 0 0) = W from hW)
          have HL := Lib.hid (OB.lit W W.heap.size (Nat.le_refl _) [3, 7] (by simp) #[.int .u8 3, .int .u8 7] rfl 2 rfl)
          have HRF := Lib.hid (Reads.of_own (hov1.alloc (.cells #[.int .u8 3, .int .u8 7] 5)))
          have E2 := Lib.hid e2
          have HG1 := Lib.hid hg1
          have HB := Lib.hid hb
          clear hov hov1 hb h1 e2 hg1 hW
          go_upto_region 55 with (fail)
          rw [HW.out]
          clear d3 d5 k3 k5
          go_wp2_with (first
            | (at_builtin
               refine wpl_app rfl (.tmp 199) (.tmp 200) rfl W.heap.size _ [3, 7] rfl HL.out _ Av _ cv (commonB c.fns l) rfl rfl HRF.out (by simp; omega) (by simp) ?_
               intro v1 w3 hown1 hg3 hat1))
          go_ret2
          have hb3 : Below W.heap.size W w3 := ((Below.refl _ W).alloc (Nat.le_refl _) _).grown hg3 (by simp) (fun k hk => by cases hk; exact Nat.le_refl _)
          exact ⟨v1, _, rfl, hown1.low (Nat.le_trans HB.out.size HG1.out.size), E2.out.below hb3, grown_trans_own (only_of_below HB.out _) (grown_trans_own HG1.out (only_of_below hb3 _)), .nil⟩
      | true =>
        have hm : hfB c s (7 :: l) = ({ s with state := 3, agreed := sortedB l }, [3, 4] ++ l, 0) := by
          unfold hfB
          simp only [ho, hmm, hw]
          rfl
        rw [hm]
        rw [hw] at HCM
        clear hm ho hw h2 hmm
        rcases h23 with a2 | ⟨a2, a3⟩
        all_goals
        go_enter Try.func13, Try.ntmps13
        go_wp2_with fail
        refine HCM.out.mono ?_
        rintro e w1 ⟨v, rfl, hov, hb⟩
        have h1 := HE.out.below hb
        have d3 := h1.cells.2.2.2.1
        have HSO := Lib.hid (sorted_calls (w := w1) (cutA A cp 2) (n - 2) (cp - 2) l HRL.out.symm ((HRR.out.below hb).more hb.size) (by omega))
        have H2 := Lib.hid h1
        have HB := Lib.hid hb
        clear hov hb h1
        go_wp2_with fail
        obtain ⟨W, hWW⟩ : ∃ W, W = w1 := ⟨_, rfl⟩
        subst hWW
        refine HSO.out.mono ?_
        rintro e w2 ⟨v2, rfl, ho2, hb2⟩
        have hb12 := hb2
        have e2 := H2.out.below hb2
        have hov2 : OB base w2 v2 (sortedB l) := ho2.low (Nat.le_trans e2.lo (Nat.le_of_lt H2.out.lt))
        have hsl := sorted_len l
        have e3 := (e2.setState ht 3 (by omega)).setAgreed ht v2 (sortedB l) (hov2.kept (grown_set w2 g 3 _) (.inr (hov2.ne_end e2 ht))) (by omega)
        have k3 := e2.free.2.2.2.1
        have k5 := e2.free.2.2.2.2.2
        have d3 := e2.cells.2.2.2.1
        have d5 := e2.cells.2.2.2.2.2
        obtain ⟨A2, cp2, hv2, _, _, _, _⟩ := ho2.reads
        subst hv2
        have HO2 := Lib.hid ho2
        have hgw : W.grownBy ((w2.setCell ⟨g, 3, none⟩ (.int .i64 (3 : Nat))).setCell ⟨g, 5, none⟩ (.slice A2 (sortedB l).length cp2)) (some g) := grown_trans_own (only_of_below hb2 _) (grown_trans_own (grown_set w2 g 3 _) (grown_set _ g 5 _))
        have E3 := Lib.hid e3
        have HGW := Lib.hid hgw
        clear e2 e3 hov2 ho2 hb2 hgw
        have hrr2 := ((HRR.out.below HB.out).set HAA.out HGW.out HB.out.size)
        obtain ⟨W2, hW2⟩ : ∃ W2, (w2.setCell ⟨g, 3, none⟩ (.int .i64 ((3 : Nat) : Int))).setCell ⟨g, 5, none⟩ (.slice A2 (sortedB l).length cp2) = W2 := ⟨_, rfl⟩
        rw [hW2] at E3 HGW hrr2
        have HW2 := Lib.hid (show (w2.setCell ⟨g, 3, none⟩ (.int .i64 3)).setCell ⟨g, 5, none⟩ (.slice A2 (sortedB l).length cp2) = W2 from hW2)
        have hrr3 := hrr2.alloc (Nat.le_trans HB.out.size HGW.out.size) (.cells #[.int .u8 3, .int .u8 4] 5)
        rw [HRL.out] at hrr3
        have HR3 := Lib.hid hrr3
        have HN2 := Lib.hid HRL.out.symm
        have hll : l.length ≤ 1000 := by have := HRL.out; omega
        have HL := Lib.hid (OB.lit W2 W2.heap.size (Nat.le_refl _) [3, 4] (by simp) #[.int .u8 3, .int .u8 4] rfl 2 rfl)
        clear hrr2 hrr3 hW2 hb12
        go_upto_region 53 with (fail)
        rw [HW2.out]
        clear d3 d5 k3 k5
        go_wp2_with (first
          | (at_builtin
             refine wpl_app rfl (.tmp 190) (.tmp 191) rfl W2.heap.size _ [3, 4] rfl HL.out _ _ (n - 2) _ l HN2.out rfl HR3.out (by simp; omega) (by simp) ?_
             intro v1 w3 hown1 hg3 hat1))
        go_ret2
        have hb3 : Below W2.heap.size W2 w3 := ((Below.refl _ W2).alloc (Nat.le_refl _) _).grown hg3 (by simp) (fun k hk => by cases hk; exact Nat.le_refl _)
        exact ⟨v1, _, rfl, hown1.low (Nat.le_trans HB.out.size HGW.out.size), E3.out.below hb3, grown_trans_own (only_of_below HB.out _) (grown_trans_own HGW.out (only_of_below hb3 _)), .fresh HB.out.size (fun b hb => (HO2.out.lt b hb).1)⟩
    · have e2 : s.state ≠ 2 := fun e => h2 (.inl e)
      have e3 : s.state ≠ 3 := fun e => h2 (.inr e)
      obtain ⟨a2, b2⟩ := tne (show (s.state : Int) ≠ 2 by omega)
      obtain ⟨a3, b3⟩ := tne (show (s.state : Int) ≠ 3 by omega)
      have hm : hfB c s (7 :: l) = (s, [], 6) := by simp [hfB, ho, e2, e3]
      rw [hm]
      clear hm ho h2 e2 e3
      go_enter Try.func13, Try.ntmps13
      go_wp2_with fail
      refine HCM.out.mono ?_
      rintro e w1 ⟨v, rfl, hov, hb⟩
      have d3 := (HE.out.below hb).cells.2.2.2.1
      have HB := Lib.hid hb
      clear hov hb
      go_wp2_with fail
      go_ret2
      exact HeardR.same HE.out 6 HB.out
end
end Go.Proofs.Ytfjlgpbplliccaa
