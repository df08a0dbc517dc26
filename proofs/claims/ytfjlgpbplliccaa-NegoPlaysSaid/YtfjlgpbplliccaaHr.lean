/- Hear, Reset: the program's end. -/
import Derived.Test.YtfjlgpbplliccaaF
namespace Go.Proofs.Ytfjlgpbplliccaa
open Go.RowKit

section
variable {base : Nat} {w : World} {g : Nat} {F G : Value} {c : Cfg} {s : St}

theorem Heard.later {w' : World} (hl : g < w.heap.size) (hb : Below w.heap.size w w') {r : St × List UInt8 × Nat} {e : Ending} {w2 : World} (h : Heard base w' g F c r e w2) : Heard base w g F c r e w2 := by
  obtain ⟨v, G', he, ho, hE, hg, hf, hr⟩ := h
  exact ⟨v, G', he, ho.low hb.size, hE, grown_trans_own (only_of_below hb _) hg, hf, hr.later hl hb⟩

set_option maxHeartbeats 1000000 in
theorem Reset_calls (h : EndAt base 55 w g F G c s) :
    Calls Try.prog 9 #[.pointer (some ⟨g, 0, none⟩)] w fun e w' => e = .returned (.tuple #[]) ∧ EndAt base 55 w' g F (.slice none 0 0) c ⟨0, [], []⟩ ∧ w.grownBy w' (some g) := by
  have h1 := h.setState (by decide) 0 (by omega)
  have h2 := h1.setDevice (by decide) [] (by simp)
  have h3 := h2.setAgreed (by decide) (.slice none 0 0) [] (World.ownsRow_nil _ _ _ _) (by simp)
  obtain ⟨c0, c1, c2, c3, c4, c5⟩ := h.cells
  obtain ⟨f0, f1, f2, f3, f4, f5⟩ := h.free
  have hg3 : w.grownBy (((w.setCell ⟨g, 3, none⟩ (.int .i64 0)).setCell ⟨g, 4, none⟩ (.string (strOf []))).setCell ⟨g, 5, none⟩ (.slice none 0 0)) (some g) := grown_trans_own (grown_set w g 3 _) (grown_trans_own (grown_set _ g 4 _) (grown_set _ g 5 _))
  have H3 := Lib.hid h3
  have HG := Lib.hid hg3
  clear h h1 h2 h3 hg3 c0 c1 c2 f0 f1 f2
  go_enter Try.func9, Try.ntmps9
  go_wp2_with fail
  go_end0
  exact ⟨rfl, H3.out, HG.out⟩

set_option maxRecDepth 100000 in
set_option maxHeartbeats 2000000 in
theorem Hear_calls (h : EndAt base 55 w g F G c s) (hup : risesB c.fns = true) (opt : UInt8) (A : Option Addr) (n cp : Nat) (p : List UInt8) (hn : n = p.length) (hr : RB w A p) (hl : n ≤ 1000) (hc : n ≤ cp) (hA : ∀ a, A = some a → a.block ≠ g) :
    Calls Try.prog 12 #[.pointer (some ⟨g, 0, none⟩), .int .u8 opt.toNat, .slice A n cp] w (Heard base w g F c (hearB c s opt p)) := by
  have HSM := Lib.hid (FreshOr.same h)
  have HGL := Lib.hid h.blk.lt
  by_cases h24 : opt = 24
  · subst h24
    cases p with
    | nil =>
      have hm : hearB c s 24 [] = (s, [], 4) := rfl
      rw [hm]
      have HS := Lib.hid (Heard.same h 4 (Below.refl _ w))
      simp at hn
      subst hn
      clear h
      go_enter Try.func12, Try.ntmps12
      go_wp2_with fail
      go_ret2
      exact HS.out
    | cons x r =>
      obtain ⟨ad, rfl, hx⟩ := hr.cell0
      by_cases h1 : x = 1 ∧ r = []
      · obtain ⟨rfl, rfl⟩ := h1
        have hm : hearB c s 24 [1] = (s, [0] ++ c.typ, 0) := rfl
        rw [hm]
        simp at hn
        subst hn
        have hx1 : w.cell? ad = some (.int .u8 1) := hx
        have hb1 : Below w.heap.size w (w.alloc (.cells #[.int .u8 0] 5)) := (Below.refl _ w).alloc (Nat.le_refl _) _
        have HL := Lib.hid (OB.lit w w.heap.size (Nat.le_refl _) [0] (by simp) #[.int .u8 0] rfl 1 rfl)
        have c0 := (h.below hb1).cells.1
        have htl := h.cs.1
        have HE := Lib.hid h
        have HB := Lib.hid hb1
        clear h hx hm hr hb1
        go_enter Try.func12, Try.ntmps12
        go_wp2_with (first
          | (at_builtin
             refine wpl_apps rfl (.tmp 23) (.tmp 28) rfl w.heap.size _ [0] rfl HL.out c.typ rfl (by simp; omega) (by simp) ?_
             intro v1 w1 hown1 hg1))
        go_ret2
        have hb2 : Below w.heap.size w w1 := HB.out.grown hg1 (by simp) (fun k hk => by cases hk; exact Nat.le_refl _)
        refine ⟨v1, G, rfl, hown1, HE.out.below hb2, only_of_below hb2 _, (fun b hb e => ?_), HSM.out⟩
        have l1 := (hown1.lt b hb).1
        have l2 := (HE.out.agr.lt b e).2
        omega
      · have hm : hearB c s 24 (x :: r) = (s, [], 4) := by
          have : ((x :: r) == [1]) = false := by
            rw [beq_eq_false_iff_ne]
            intro e
            injection e with e1 e2
            exact h1 ⟨e1, e2⟩
          simp [hearB, this]
        rw [hm]
        have HS := Lib.hid (Heard.same h 4 (Below.refl _ w))
        have ht : (((n : Int) != 1) = true) ∨ (((n : Int) != 1) = false ∧ ((x.toNat : Int) != 1) = true) := by
          by_cases hn1 : n = 1
          · refine .inr ⟨(teq (by omega)).2, (tne8 (K := 1) (fun e => h1 ⟨e, ?_⟩) rfl).2⟩
            exact List.eq_nil_of_length_eq_zero (by rw [hn1] at hn; simpa using hn.symm)
          · exact .inl (tne (by omega)).2
        have hpn : 0 < n := by rw [hn]; simp
        clear h hn hr hm h1
        rcases ht with a1 | ⟨a1, a2⟩
        all_goals
          go_enter Try.func12, Try.ntmps12
          go_wp2_with fail
          go_ret2
          exact HS.out
  · obtain ⟨a24, b24⟩ := tne8 (K := 24) h24 rfl
    by_cases h40 : opt = 40
    · subst h40
      clear a24 b24 h24
      have hb1 : Below w.heap.size w (w.alloc (.cells #[.int .u8 8, .int .u8 2] 5)) := (Below.refl _ w).alloc (Nat.le_refl _) _
      have hlit := OB.lit w w.heap.size (Nat.le_refl _) [8, 2] (by simp) #[.int .u8 8, .int .u8 2] rfl 2 rfl
      have HEQ := Lib.hid (Equal_calls A (some ⟨w.heap.size, 0, none⟩) n cp 2 2 p [8, 2] (w.alloc (.cells #[.int .u8 8, .int .u8 2] 5)) hn rfl ((hr.below hb1).more hb1.size) (Reads.of_own hlit))
      have h1 := h.below hb1
      have HB := Lib.hid hb1
      have H1 := Lib.hid h1
      have HE := Lib.hid h
      clear hb1 hlit
      by_cases h82 : p = [8, 2]
      · have e82 : (p == [8, 2]) = true := by simp [h82]
        rw [e82] at HEQ
        have c3 := h1.cells.2.2.2.1
        by_cases h4 : s.state = 4
        · have hm : hearB c s 40 p = (s, [], 6) := by simp [hearB, h82, h4]
          rw [hm]
          obtain ⟨a4, b4⟩ := teq (show (s.state : Int) = 4 by omega)
          clear h h1 hn hr hm h82 e82 h4
          go_enter Try.func12, Try.ntmps12
          go_wp2_with fail
          refine HEQ.out.mono ?_
          rintro e w1 ⟨rfl, rfl⟩
          go_wp2_with fail
          go_ret2
          exact Heard.same HE.out 6 HB.out
        · have hm : hearB c s 40 p = (⟨1, [], []⟩, asksB c, 0) := by simp [hearB, h82, h4]
          rw [hm]
          obtain ⟨a4, b4⟩ := tne (show (s.state : Int) ≠ 4 by omega)
          have HA := Lib.hid (asks_calls h1)
          clear h h1 hn hr hm h82 e82 h4
          go_enter Try.func12, Try.ntmps12
          go_wp2_with fail
          refine HEQ.out.mono ?_
          rintro e w1 ⟨rfl, rfl⟩
          go_wp2_with fail
          refine HA.out.mono ?_
          rintro e w2 ⟨v', rfl, ho, he, hg⟩
          go_wp2_with fail
          go_ret2
          exact ⟨v', _, rfl, ho.low HB.out.size, he, grown_trans_own (only_of_below HB.out _) hg, (fun b hb => by simp [Value.ownBlock]), .nil⟩
      · have e82 : (p == [8, 2]) = false := by simp [h82]
        rw [e82] at HEQ
        cases p with
        | nil =>
          have hm : hearB c s 40 [] = (s, [], 4) := by rfl
          rw [hm]
          simp at hn
          subst hn
          clear h h1 hr hm h82 e82
          go_enter Try.func12, Try.ntmps12
          go_wp2_with fail
          refine HEQ.out.mono ?_
          rintro e w1 ⟨rfl, rfl⟩
          go_wp2_with fail
          go_ret2
          exact Heard.same HE.out 4 HB.out
        | cons x r =>
          obtain ⟨ad, rfl, hx0⟩ := hr.cell0
          have hpn : 0 < n := by rw [hn]; simp
          have hpi : (0 : Int) < (n : Int) := by omega
          have hpos : (1 : Int) ≤ (n : Int) := by omega
          have hrl : r.length = n - 1 := by rw [hn]; simp
          have hx := (HB.out.cell (p := ad) (World.block_lt_of_cell? w ad hx0)).trans hx0
          have hrr0 : RB w (cutA (some ad) cp 1) r := by have := (hr.cutA (k := 1) (c := cp) (by simp) (by omega)); simpa using this
          have hrr := (hrr0.below HB.out).more HB.out.size
          have hA' : ∀ a, cutA (some ad) cp 1 = some a → a.block ≠ g := fun a ha => by
            have := congrArg (Option.map (·.block)) ha
            rw [cutA_block] at this
            simp at this
            rw [← this]
            exact hA ad rfl
          by_cases h2 : x = 2
          · subst h2
            have hm : hearB c s 40 (2 :: r) = hdB c s r := by
              unfold hearB
              rw [if_neg (by decide), if_neg (by decide), if_neg (by rw [e82]; decide)]
              rfl
            rw [hm]
            have HD := Lib.hid (heardDevice_calls h1 (cutA (some ad) cp 1) (n - 1) (cp - 1) r hrl.symm hrr (by omega) (by omega))
            have hx2 : (w.alloc (.cells #[.int .u8 8, .int .u8 2] 5)).cell? ad = some (.int .u8 2) := hx
            clear h h1 hn hr hm h82 e82 hx hrr hrr0 hA' hA hrl hx0
            go_enter Try.func12, Try.ntmps12
            go_wp2_with fail
            refine HEQ.out.mono ?_
            rintro e w1 ⟨rfl, rfl⟩
            go_wp2_with fail
            refine HD.out.mono ?_
            rintro e w2 ⟨v', G', rfl, ho, he, hg, hf⟩
            go_wp2_with fail
            go_ret2
            exact Heard.later HGL.out HB.out ⟨v', G', rfl, ho, he, hg, hf⟩
          · obtain ⟨a2, b2⟩ := tne8 (K := 2) h2 rfl
            by_cases h3 : x = 3
            · subst h3
              have hm : hearB c s 40 (3 :: r) = hfB c s r := by
                unfold hearB
                rw [if_neg (by decide), if_neg (by decide), if_neg (by rw [e82]; decide)]
                rfl
              rw [hm]
              have HD := Lib.hid (heardFunctions_calls h1 hup (cutA (some ad) cp 1) (n - 1) (cp - 1) r hrl.symm hrr (by omega) (by omega) hA')
              have hx2 : (w.alloc (.cells #[.int .u8 8, .int .u8 2] 5)).cell? ad = some (.int .u8 3) := hx
              clear h h1 hn hr hm h82 e82 hx hrr hrr0 hA' hA hrl hx0 h2 a2 b2
              go_enter Try.func12, Try.ntmps12
              go_wp2_with fail
              refine HEQ.out.mono ?_
              rintro e w1 ⟨rfl, rfl⟩
              go_wp2_with fail
              refine HD.out.mono ?_
              rintro e w2 ⟨v', G', rfl, ho, he, hg, hf⟩
              go_wp2_with fail
              go_ret2
              exact Heard.later HGL.out HB.out ⟨v', G', rfl, ho, he, hg, hf⟩
            · obtain ⟨a3, b3⟩ := tne8 (K := 3) h3 rfl
              have hm : hearB c s 40 (x :: r) = (s, [], 4) := by
                unfold hearB
                rw [if_neg (by decide), if_neg (by decide), if_neg (by rw [e82]; decide)]
                simp [h2, h3]
              rw [hm]
              clear h h1 hn hr hm h82 e82 hrr hrr0 hA' hA hrl hx0 h2 h3
              go_enter Try.func12, Try.ntmps12
              go_wp2_with fail
              refine HEQ.out.mono ?_
              rintro e w1 ⟨rfl, rfl⟩
              go_wp2_with fail
              go_ret2
              exact Heard.same HE.out 4 HB.out
    · obtain ⟨a40, b40⟩ := tne8 (K := 40) h40 rfl
      have hm : hearB c s opt p = (s, [], 5) := by simp [hearB, h24, h40]
      rw [hm]
      have HS := Lib.hid (Heard.same h 5 (Below.refl _ w))
      clear h hn hr hm h24 h40
      go_enter Try.func12, Try.ntmps12
      go_wp2_with fail
      go_ret2
      exact HS.out
end
end Go.Proofs.Ytfjlgpbplliccaa
