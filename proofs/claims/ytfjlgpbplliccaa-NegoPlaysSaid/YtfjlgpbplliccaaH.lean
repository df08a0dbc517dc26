/- heardDevice, heardFunctions, Hear, Reset. -/
import Derived.Test.YtfjlgpbplliccaaG
namespace Go.Proofs.Ytfjlgpbplliccaa
open Go.RowKit

theorem Reads.cell0 {w : World} {B n : Nat} {A : Option Addr} {x : UInt8} {r : List UInt8} (h : Reads w B 1 A n (bv (x :: r))) : ∃ ad, A = some ad ∧ w.cell? ad = some (.int .u8 (x.toNat : Int)) := by
  obtain ⟨ad, e, _, hc⟩ := h.2 (by have := h.1; simp at this; omega)
  refine ⟨ad, e, ?_⟩
  have := hc 0 (.int .u8 (x.toNat : Int)) rfl
  simpa [Addr.add] using this
theorem teq {a b : Int} (h : a = b) : (a == b) = true ∧ (a != b) = false := by subst h; simp
theorem tne {a b : Int} (h : a ≠ b) : (a == b) = false ∧ (a != b) = true := by simp [h]
theorem tne8 {x k : UInt8} {K : Int} (h : x ≠ k) (hk : (k.toNat : Int) = K) : ((x.toNat : Int) == K) = false ∧ ((x.toNat : Int) != K) = true := tne (fun e => h (UInt8.toNat_inj.1 (by omega)))
theorem tor (a b : Int) : ((a == b) = true ∧ (a != b) = false) ∨ ((a == b) = false ∧ (a != b) = true) := by
  by_cases h : a = b
  · exact .inl (teq h)
  · exact .inr (tne h)
theorem u8ne {x : UInt8} {k : UInt8} (h : x ≠ k) : (x.toNat : Int) ≠ (k.toNat : Int) := fun e => h (UInt8.toNat_inj.1 (by omega))

section
variable {base : Nat} {w : World} {g : Nat} {F G : Value} {c : Cfg} {s : St}
/-- what Hear and its parts come to -/
def FreshOr (w : World) (g : Nat) (G' : Value) : Prop := ∀ b, G'.ownBlock = some b → w.heap.size ≤ b ∨ w.cell? ⟨g, 5, none⟩ = some G'
theorem FreshOr.nil {w : World} {g : Nat} : FreshOr w g (.slice none 0 0) := fun b hb => by simp [Value.ownBlock] at hb
theorem FreshOr.same {t : Nat} (h : EndAt base t w g F G c s) : FreshOr w g G := fun _ _ => .inr h.cells.2.2.2.2.2
theorem FreshOr.fresh {w w1 : World} {g : Nat} {G' : Value} (hs : w.heap.size ≤ w1.heap.size) (h : ∀ b, G'.ownBlock = some b → w1.heap.size ≤ b) : FreshOr w g G' := fun b hb => .inl (Nat.le_trans hs (h b hb))
theorem FreshOr.later {w w' : World} {g : Nat} {G' : Value} (h : g < w.heap.size) (hb : Below w.heap.size w w') (hf : FreshOr w' g G') : FreshOr w g G' := fun b hg => (hf b hg).elim (fun hl => .inl (Nat.le_trans hb.size hl)) fun hc => .inr ((hb.cell (p := ⟨g, 5, none⟩) h).symm.trans hc)
def Heard (base : Nat) (w : World) (g : Nat) (F : Value) (c : Cfg) (r : St × List UInt8 × Nat) (e : Ending) (w' : World) : Prop :=
  ∃ v' G', e = .returned (.tuple #[v', .int .i64 (r.2.2 : Int)]) ∧ OB w.heap.size w' v' r.2.1 ∧ EndAt base 55 w' g F G' c r.1 ∧ w.grownBy w' (some g) ∧ (∀ b, v'.ownBlock = some b → G'.ownBlock ≠ some b) ∧ FreshOr w g G'
theorem Heard.same (h : EndAt base 55 w g F G c s) (n : Nat) {w' : World} (hb : Below w.heap.size w w') : Heard base w g F c (s, [], n) (.returned (.tuple #[.slice none 0 0, .int .i64 (n : Int)])) w' :=
  ⟨_, G, rfl, World.ownsRow_nil _ _ _ _, h.below hb, only_of_below hb _, (fun b hb => by simp [Value.ownBlock] at hb), .same h⟩

set_option maxHeartbeats 1000000 in
theorem heardDevice_calls (h : EndAt base 55 w g F G c s) (A : Option Addr) (n cp : Nat) (q : List UInt8) (hn : n = q.length) (hr : RB w A q) (hl : n ≤ 1000) (hc : n ≤ cp) :
    Calls Try.prog 24 #[.pointer (some ⟨g, 0, none⟩), .slice A n cp] w (Heard base w g F c (hdB c s q)) := by
  have HSM := Lib.hid (FreshOr.same h)
  cases q with
  | nil =>
    have hm : hdB c s [] = (s, [], 4) := rfl
    rw [hm]
    have HS := Lib.hid (Heard.same h 4 (Below.refl _ w))
    simp at hn
    subst hn
    clear h
    go_enter Try.func24, Try.ntmps24
    go_wp2_with fail
    go_ret2
    exact HS.out
  | cons x r =>
    obtain ⟨ad, rfl, hx⟩ := hr.cell0
    have hpos : (1 : Int) ≤ (n : Int) := by rw [hn]; simp; omega
    have hb1 : decide ((n : Int) < 1) = false := by simp; omega
    by_cases h4 : x = 4
    · subst h4
      have hrr := (hr.cutA (k := 1) (c := cp) (by simp) (by omega))
      have hrl : r.length = n - 1 := by rw [hn]; simp
      have HGOT := Lib.hid (got_calls (w := w) (cutA (some ad) cp 1) (n - 1) (cp - 1) r hrl.symm (by have := hrr; simpa using this) (by omega) (by omega))
      have hx4 : w.cell? ad = some (.int .u8 4) := hx
      have ha : ¬ ((4 :: r).length == 3 && (4 :: r : List UInt8).getD 0 0 == 6 && (4 :: r : List UInt8).getD 1 0 == 5) = true := by simp
      have hm : hdB c s (4 :: r) = if !(gotB r).2 then (s, [], 4) else if s.state != 1 then (s, [], 6) else (⟨2, (gotB r).1, []⟩, [3, 7] ++ c.fns, 0) := by
        unfold hdB; rw [if_neg ha]; rfl
      rw [hm]
      have hdl : (gotB r).1.length ≤ 1000 := Nat.le_trans (got_len r) (by omega)
      clear hn hr hx hrr hrl ha hm
      obtain ⟨nm, hnm⟩ : ∃ x, (gotB r).1 = x := ⟨_, rfl⟩
      rw [hnm] at HGOT hdl
      rw [hnm]
      clear hnm
      cases hg : (gotB r).2
      · rw [hg] at HGOT
        simp only [Bool.not_false, if_true]
        clear hg
        have HE := Lib.hid h
        clear h
        rcases tor (n : Int) 3 with ⟨a3, b3⟩ | ⟨a3, b3⟩
        all_goals
          go_enter Try.func24, Try.ntmps24
          go_wp2_with fail
          refine HGOT.out.mono ?_
          rintro e w1 ⟨rfl, hb⟩
          have HB := Lib.hid hb
          clear hb
          go_wp2_with fail
          go_ret2
          exact Heard.same HE.out 4 HB.out
      · rw [hg] at HGOT
        simp only [Bool.not_true, Bool.false_eq_true, if_false]
        clear hg
        have HE := Lib.hid h
        clear h
        by_cases hst : s.state = 1
        · have e1 : (s.state != 1) = false := by simp [hst]
          rw [e1]
          simp only [Bool.false_eq_true, if_false]
          clear e1
          obtain ⟨a1, b1⟩ := teq (show (s.state : Int) = 1 by omega)
          have hfl := HE.out.cs.2.2
          have ht : 5 ≠ 55 := by decide
          rcases tor (n : Int) 3 with ⟨a3, b3⟩ | ⟨a3, b3⟩
          all_goals
            go_enter Try.func24, Try.ntmps24
            go_wp2_with fail
            refine HGOT.out.mono ?_
            rintro e w1 ⟨rfl, hb⟩
            have HB := Lib.hid hb
            have h1 := HE.out.below hb
            have h2 := h1.setDevice ht nm hdl
            have c3 := h1.cells.2.2.2.1
            have c4 := h1.cells.2.2.2.2.1
            have f4 := h1.free.2.2.2.2.1
            have c2 := h2.cells.2.2.1
            have HO := Lib.hid (offer_calls h2 base F c.fns h2.fns hfl)
            clear hb h1 h2
            go_wp2_with fail
            refine HO.out.mono ?_
            rintro e w2 ⟨v', rfl, ho, he, hg2⟩
            go_wp2_with fail
            go_ret2
            refine ⟨v', .slice none 0 0, rfl, ?_, he, ?_, (fun b hb => by simp [Value.ownBlock]), .nil⟩
            · exact ho.low (by have := HB.out.size; simpa [World.setCell] using this)
            · exact grown_trans_own (only_of_below HB.out _) (grown_trans_own (grown_set _ g 4 _) hg2)
        · have e1 : (s.state != 1) = true := by simp [hst]
          rw [e1]
          simp only [if_true]
          clear e1
          obtain ⟨a1, b1⟩ := tne (show (s.state : Int) ≠ 1 by omega)
          rcases tor (n : Int) 3 with ⟨a3, b3⟩ | ⟨a3, b3⟩
          all_goals
            go_enter Try.func24, Try.ntmps24
            go_wp2_with fail
            refine HGOT.out.mono ?_
            rintro e w1 ⟨rfl, hb⟩
            have HB := Lib.hid hb
            have c3 := (HE.out.below hb).cells.2.2.2.1
            clear hb
            go_wp2_with fail
            go_ret2
            exact Heard.same HE.out 6 HB.out
    · obtain ⟨a4, b4⟩ := tne8 (K := 4) h4 rfl
      by_cases h6 : x = 6 ∧ n = 3
      · obtain ⟨rfl, h3⟩ := h6
        subst h3
        obtain ⟨x1, x2, rfl⟩ : ∃ x1 x2, r = [x1, x2] := by
          match r, hn with
          | [x1, x2], _ => exact ⟨x1, x2, rfl⟩
        obtain ⟨ad', had, _, hcc⟩ := hr.2 (by simp)
        injection had with had
        subst had
        have hx1 : w.cell? ⟨ad.block, ad.off + 1, none⟩ = some (.int .u8 (x1.toNat : Int)) := by have := hcc 1 (.int .u8 (x1.toNat : Int)) rfl; simpa [Addr.add] using this
        clear hcc hr hn
        have hx0 : w.cell? ad = some (.int .u8 6) := hx
        clear hx
        by_cases h5 : x1 = 5
        · subst h5
          have hm : hdB c s [6, 5, x2] = if s.state != 1 then (s, [], 6) else ({ s with state := 4 }, [], 0) := rfl
          rw [hm]
          have hx1' : w.cell? ⟨ad.block, ad.off + 1, none⟩ = some (.int .u8 5) := hx1
          obtain ⟨c0, c1, c2, c3, c4, c5⟩ := h.cells
          have f3 := h.free.2.2.2.1
          clear hx1 c0 c1 c2 c4 c5
          by_cases hst : s.state = 1
          · have e1 : (s.state != 1) = false := by simp [hst]
            rw [e1]
            simp only [Bool.false_eq_true, if_false]
            obtain ⟨a1, b1⟩ := teq (show (s.state : Int) = 1 by omega)
            have h2 := Lib.hid (h.setState (by decide) 4 (by omega))
            clear h e1 hm
            go_enter Try.func24, Try.ntmps24
            go_wp2_with fail
            go_ret2
            exact ⟨_, G, rfl, World.ownsRow_nil _ _ _ _, h2.out, grown_set _ g 3 _, (fun b hb => by simp [Value.ownBlock] at hb), HSM.out⟩
          · have e1 : (s.state != 1) = true := by simp [hst]
            rw [e1]
            simp only [if_true]
            obtain ⟨a1, b1⟩ := tne (show (s.state : Int) ≠ 1 by omega)
            have HS := Lib.hid (Heard.same h 6 (Below.refl _ w))
            clear h e1 hm
            go_enter Try.func24, Try.ntmps24
            go_wp2_with fail
            go_ret2
            exact HS.out
        · obtain ⟨a5, b5⟩ := tne8 (K := 5) h5 rfl
          have hm : hdB c s [6, x1, x2] = (s, [], 4) := by simp [hdB, h5]
          rw [hm]
          have HS := Lib.hid (Heard.same h 4 (Below.refl _ w))
          clear h hm
          go_enter Try.func24, Try.ntmps24
          go_wp2_with fail
          go_ret2
          exact HS.out
      · have hm : hdB c s (x :: r) = (s, [], 4) := by
          unfold hdB
          rw [if_neg]
          · simp only; rw [if_neg (by simpa using h4)]
          · intro e
            simp only [Bool.and_eq_true, beq_iff_eq] at e
            exact h6 ⟨by simpa using e.1.2, by rw [hn]; exact e.1.1⟩
        rw [hm]
        have HS := Lib.hid (Heard.same h 4 (Below.refl _ w))
        clear hn hr h hm
        by_cases h3 : n = 3
        · obtain ⟨a6, b6⟩ := tne8 (K := 6) (fun e => h6 ⟨e, h3⟩) rfl
          obtain ⟨a3, b3⟩ := teq (show (n : Int) = 3 by omega)
          clear h6 h3
          go_enter Try.func24, Try.ntmps24
          go_wp2_with fail
          go_ret2
          exact HS.out
        · obtain ⟨a3, b3⟩ := tne (show (n : Int) ≠ 3 by omega)
          clear h6 h3
          go_enter Try.func24, Try.ntmps24
          go_wp2_with fail
          go_ret2
          exact HS.out
end
end Go.Proofs.Ytfjlgpbplliccaa
