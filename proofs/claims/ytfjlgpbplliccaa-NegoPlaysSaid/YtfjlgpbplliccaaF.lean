/- heardFunctions. -/
import Derived.Test.YtfjlgpbplliccaaH
namespace Go.Proofs.Ytfjlgpbplliccaa
open Go.RowKit

theorem few_own {c : Cfg} (hup : risesB c.fns = true) {l : List UInt8} (h1 : onceB l = true) (h2 : ownB c.fns l = true) : l.Nodup ∧ (∀ x ∈ l, x.toNat ≤ 4) ∧ l.length ≤ 5 := by
  have a := once_nodup h1
  have b : ∀ x ∈ l, x.toNat ≤ 4 := fun x hx => rises_le hup x (own_mem h2 x hx)
  exact ⟨a, b, few_len a b⟩

section
variable {base : Nat} {w : World} {g : Nat} {F G : Value} {c : Cfg} {s : St}

theorem Reads.set {B n : Nat} {A : Option Addr} {xs : List UInt8} (h : Reads w B 1 A n (bv xs)) (hne : ∀ a, A = some a → a.block ≠ g) {w' : World} (hg : w.grownBy w' (some g)) (hB : B ≤ w.heap.size) : Reads w' B 1 A n (bv xs) :=
  ⟨h.1, fun hn => by
    obtain ⟨ad, e, hb, hc⟩ := h.2 hn
    refine ⟨ad, e, hb, fun j u hu => (World.cell?_of_block (w := w) (hg.block _ (by rw [block_of_add]; omega) ?_)).trans (hc j u hu)⟩
    rw [block_of_add]
    intro e2
    exact hne ad e (by injection e2)⟩

set_option maxRecDepth 100000 in
set_option maxHeartbeats 2000000 in
theorem heardFunctions_calls (h : EndAt base 55 w g F G c s) (hup : risesB c.fns = true) (A : Option Addr) (n cp : Nat) (q : List UInt8) (hn : n = q.length) (hr : RB w A q) (hl : n ≤ 1000) (hc : n ≤ cp) (hA : ∀ a, A = some a → a.block ≠ g) :
    Calls Try.prog 25 #[.pointer (some ⟨g, 0, none⟩), .slice A n cp] w (Heard base w g F c (hfB c s q)) := by
  have HSM := Lib.hid (FreshOr.same h)
  cases q with
  | nil =>
    have hm : hfB c s [] = (s, [], 4) := rfl
    rw [hm]
    have HS := Lib.hid (Heard.same h 4 (Below.refl _ w))
    simp at hn
    subst hn
    clear h
    go_enter Try.func25, Try.ntmps25
    go_wp2_with fail
    go_ret2
    exact HS.out
  | cons x l =>
    obtain ⟨ad, rfl, hx⟩ := hr.cell0
    have hpos : (1 : Int) ≤ (n : Int) := by rw [hn]; simp; omega
    have hb1 : decide ((n : Int) < 1) = false := by simp; omega
    have hrl : l.length = n - 1 := by rw [hn]; simp
    have hrr : RB w (cutA (some ad) cp 1) l := by have := (hr.cutA (k := 1) (c := cp) (by simp) (by omega)); simpa using this
    have hA' : ∀ a, cutA (some ad) cp 1 = some a → a.block ≠ g := fun a ha => by
      have := congrArg (Option.map (·.block)) ha
      rw [cutA_block] at this
      simp at this
      rw [← this]
      exact hA ad rfl
    obtain ⟨A', hA1⟩ : ∃ A', cutA (some ad) cp 1 = A' := ⟨_, rfl⟩
    by_cases h47 : x = 4 ∨ x = 7
    · cases ho : onceB l with
      | false =>
        have hm : hfB c s (x :: l) = (s, [], 4) := by simp [hfB, ho]
        rw [hm]
        have HS := Lib.hid (Heard.same h 4 (Below.refl _ w))
        have HONCE := Lib.hid (once_calls (cutA (some ad) cp 1) (n - 1) (cp - 1) l hrl.symm hrr (by omega) (by omega))
        rw [ho] at HONCE
        have h47' : (((x.toNat : Int) != 4) = false) ∨ (((x.toNat : Int) != 4) = true ∧ ((x.toNat : Int) != 7) = false) := by
          rcases h47 with rfl | rfl
          · exact .inl rfl
          · exact .inr ⟨rfl, rfl⟩
        clear hn hr h hm hrl hrr ho h47 hA' hA1 hA
        rcases h47' with a1 | ⟨a1, a2⟩
        all_goals
          go_enter Try.func25, Try.ntmps25
          go_wp2_with fail
          refine HONCE.out.mono ?_
          rintro e w1 ⟨rfl, rfl⟩
          go_wp2_with fail
          go_ret2
          exact HS.out
      | true =>
        have HONCE := Lib.hid (once_calls (cutA (some ad) cp 1) (n - 1) (cp - 1) l hrl.symm hrr (by omega) (by omega))
        rw [ho] at HONCE
        obtain ⟨c0, c1, c2, c3, c4, c5⟩ := h.cells
        have f3 := h.free.2.2.2.1
        clear c0 c1 c2 c4 c5
        rcases h47 with rfl | rfl
        · -- FUNCTIONS IS
          have hx4 : w.cell? ad = some (.int .u8 4) := hx
          by_cases h2 : s.state = 2
          · obtain ⟨a2, b2⟩ := teq (show (s.state : Int) = 2 by omega)
            cases hw : ownB c.fns l with
            | true =>
              obtain ⟨hnd, hle, hfew⟩ := few_own hup ho hw
              have hm : hfB c s (4 :: l) = ({ s with state := 3, agreed := sortedB l }, [], 0) := by simp [hfB, ho, h2, hw]
              rw [hm]
              have HOWN := Lib.hid (own_calls h (cutA (some ad) cp 1) (n - 1) (cp - 1) l hrl.symm hrr (by omega))
              rw [hw] at HOWN
              have HE := Lib.hid h
              have HRR := Lib.hid hrr
              have HRL := Lib.hid hrl
              have hn5 : n - 1 ≤ 5 := by omega
              clear hn hr h hm hrl hrr ho hA' hA1 hA hw hx h2
              go_enter Try.func25, Try.ntmps25
              go_wp2_with fail
              refine HONCE.out.mono ?_
              rintro e w1 ⟨rfl, rfl⟩
              go_wp2_with fail
              refine HOWN.out.mono ?_
              rintro e w1 ⟨rfl, hb⟩
              have hx1 : w1.cell? ad = some (.int .u8 4) := (hb.cell (p := ad) (World.block_lt_of_cell? w ad hx4)).trans hx4
              have HAG := Lib.hid (agree_calls (HE.out.below hb) (cutA (some ad) cp 1) (n - 1) (cp - 1) l HRL.out.symm ((HRR.out.below hb).more hb.size) (by omega))
              have HB := Lib.hid hb
              clear hb
              go_wp2_with fail
              refine HAG.out.mono ?_
              rintro e w2 ⟨G', bs, rfl, hso, he, hg, hfr⟩
              have hbs := sort_is hnd hle hso.1 hso.2
              rw [hbs] at he
              have HG := Lib.hid hg
              have HE2 := Lib.hid he
              have HFR := Lib.hid hfr
              clear hso hbs hg he hfr
              go_wp2_with fail
              go_ret2
              exact ⟨_, G', rfl, World.ownsRow_nil _ _ _ _, HE2.out, grown_trans_own (only_of_below HB.out _) HG.out, (fun b hb => by simp [Value.ownBlock] at hb), .fresh HB.out.size HFR.out⟩
            | false =>
              have hm : hfB c s (4 :: l) = ({ s with state := 4 }, [], 0) := by simp [hfB, ho, h2, hw]
              rw [hm]
              have HOWN := Lib.hid (own_calls h (cutA (some ad) cp 1) (n - 1) (cp - 1) l hrl.symm hrr (by omega))
              rw [hw] at HOWN
              have HE := Lib.hid h
              have ht : 5 ≠ 55 := by decide
              clear hn hr h hm hrl hrr ho hA' hA1 hA hw hx h2
              go_enter Try.func25, Try.ntmps25
              go_wp2_with fail
              refine HONCE.out.mono ?_
              rintro e w1 ⟨rfl, rfl⟩
              go_wp2_with fail
              refine HOWN.out.mono ?_
              rintro e w1 ⟨rfl, hb⟩
              have hx1 : w1.cell? ad = some (.int .u8 4) := (hb.cell (p := ad) (World.block_lt_of_cell? w ad hx4)).trans hx4
              have h1 := HE.out.below hb
              have H2 := Lib.hid (h1.setState ht 4 (by omega))
              have d3 := h1.cells.2.2.2.1
              have k3 := h1.free.2.2.2.1
              have HB := Lib.hid hb
              clear hb h1
              go_wp2_with fail
              go_ret2
              exact ⟨_, G, rfl, World.ownsRow_nil _ _ _ _, H2.out, grown_trans_own (only_of_below HB.out _) (grown_set _ g 3 _), (fun b hb => by simp [Value.ownBlock] at hb), HSM.out⟩
          · obtain ⟨a2, b2⟩ := tne (show (s.state : Int) ≠ 2 by omega)
            have hm : hfB c s (4 :: l) = (s, [], 6) := by simp [hfB, ho, h2]
            rw [hm]
            have HS := Lib.hid (Heard.same h 6 (Below.refl _ w))
            clear hn hr h hm hrl hrr ho hA' hA1 hA hx h2
            go_enter Try.func25, Try.ntmps25
            go_wp2_with fail
            refine HONCE.out.mono ?_
            rintro e w1 ⟨rfl, rfl⟩
            go_wp2_with fail
            go_ret2
            exact HS.out
        · -- FUNCTIONS REQUEST
          have hx7 : w.cell? ad = some (.int .u8 7) := hx
          by_cases h2 : s.state = 2 ∨ s.state = 3
          · have h23 : (((s.state : Int) != 2) = false) ∨ (((s.state : Int) != 2) = true ∧ ((s.state : Int) != 3) = false) := by
              rcases h2 with e | e
              · exact .inl (teq (show (s.state : Int) = 2 by omega)).2
              · exact .inr ⟨(tne (show (s.state : Int) ≠ 2 by omega)).2, (teq (show (s.state : Int) = 3 by omega)).2⟩
            have hmm : (s.state != 2 && ((7 : UInt8) == 4 || s.state != 3)) = false := by
              rcases h2 with e | e <;> simp [e]
            cases hw : ownB c.fns l with
            | true =>
              obtain ⟨hnd, hle, hfew⟩ := few_own hup ho hw
              have hm : hfB c s (7 :: l) = ({ s with state := 3, agreed := sortedB l }, [3, 4] ++ l, 0) := by
                unfold hfB
                simp only [ho, hmm, hw]
                rfl
              rw [hm]
              have HOWN := Lib.hid (fun w' (hb : Below w.heap.size w w') => own_calls (h.below hb) (cutA (some ad) cp 1) (n - 1) (cp - 1) l hrl.symm ((hrr.below hb).more hb.size) (by omega))
              rw [hw] at HOWN
              have HE := Lib.hid h
              have HRR := Lib.hid hrr
              have HRL := Lib.hid hrl
              have HA := Lib.hid hA'
              have hn5 : n - 1 ≤ 5 := by omega
              clear hn hr h hm hrl hrr ho hA' hA1 hA hw hx h2 hmm
              rcases h23 with a2 | ⟨a2, a3⟩
              all_goals
                go_enter Try.func25, Try.ntmps25
                go_wp2_with fail
                refine HONCE.out.mono ?_
                rintro e w1 ⟨rfl, rfl⟩
                go_wp2_with fail
                refine (HOWN.out _ (Below.refl _ _)).mono ?_
                rintro e w1 ⟨rfl, hb⟩
                have HAG := Lib.hid (agree_calls (HE.out.below hb) (cutA (some ad) cp 1) (n - 1) (cp - 1) l HRL.out.symm ((HRR.out.below hb).more hb.size) (by omega))
                have HB := Lib.hid hb
                clear hb
                go_wp2_with fail
                refine HAG.out.mono ?_
                rintro e w2 ⟨G', bs, rfl, hso, he, hg, hfr⟩
                have hbs := sort_is hnd hle hso.1 hso.2
                rw [hbs] at he
                have hr2 := ((HRR.out.below HB.out).set HA.out hg HB.out.size).alloc (Nat.le_trans HB.out.size hg.size) (.cells #[.int .u8 3, .int .u8 4] 5)
                rw [HRL.out] at hr2
                have HR2 := Lib.hid hr2
                have HL := Lib.hid (OB.lit w2 w2.heap.size (Nat.le_refl _) [3, 4] (by simp) #[.int .u8 3, .int .u8 4] rfl 2 rfl)
                have HG := Lib.hid hg
                have HE2 := Lib.hid he
                have hn1 : n - 1 = l.length := HRL.out.symm
                have HN1 := Lib.hid hn1
                clear hso hbs hg he hr2 hn1
                go_wp2_with (first
                  | (at_builtin
                     refine wpl_app rfl (.tmp 80) (.tmp 81) rfl w2.heap.size _ [3, 4] rfl HL.out _ _ (n - 1) _ l HN1.out rfl HR2.out (by simp; omega) (by simp) ?_
                     intro v1 w3 hown1 hg1 hat1))
                go_ret2
                have hb3 : Below w2.heap.size w2 w3 := ((Below.refl _ w2).alloc (Nat.le_refl _) _).grown hg1 (by simp) (fun k hk => by cases hk; exact Nat.le_refl _)
                have hsz2 : w.heap.size ≤ w2.heap.size := Nat.le_trans HB.out.size HG.out.size
                refine ⟨v1, G', rfl, hown1.low hsz2, HE2.out.below hb3, grown_trans_own (only_of_below HB.out _) (grown_trans_own HG.out (only_of_below hb3 _)), (fun b hb e => ?_), .fresh HB.out.size hfr⟩
                have l1 := (hown1.lt b hb).1
                have l2 := (HE2.out.agr.lt b e).2
                omega
            | false =>
              have hm : hfB c s (7 :: l) = ({ s with state := 2, agreed := [] }, [3, 7] ++ commonB c.fns l, 0) := by
                unfold hfB
                simp only [ho, hmm, hw]
                rfl
              rw [hm]
              have HOWN := Lib.hid (own_calls h (cutA (some ad) cp 1) (n - 1) (cp - 1) l hrl.symm hrr (by omega))
              rw [hw] at HOWN
              have HE := Lib.hid h
              have HRR := Lib.hid hrr
              have HRL := Lib.hid hrl
              have hll : l.length ≤ 1000 := by omega
              have HN1 : Hid (n - 1 = l.length) := hrl.symm
              clear hn hr h hm hrl hrr ho hA' hA1 hA hw hx h2 hmm
              rcases h23 with a2 | ⟨a2, a3⟩
              all_goals
                go_enter Try.func25, Try.ntmps25
                go_wp2_with fail
                refine HONCE.out.mono ?_
                rintro e w1 ⟨rfl, rfl⟩
                go_wp2_with fail
                refine HOWN.out.mono ?_
                rintro e w1 ⟨rfl, hb⟩
                have HB := Lib.hid hb
                clear hb
                go_wp2_with fail
                rw [HN1.out]
                go_loopw [7, 85] (fun cm i wr => ∃ k : Nat, k ≤ l.length ∧ i = .int .i64 k ∧ Hid (OB w.heap.size wr cm (commonB c.fns (l.take k)) ∧ Below w.heap.size w wr)) (fun _ i _ => l.length - (intOf i).toNat)
                case atStart => exact ⟨0, Nat.zero_le _, rfl, World.ownsRow_nil _ _ _ _, HB.out⟩
                case round =>
                  obtain ⟨k, hk, rfl, H⟩ := hrel
                  by_cases hlt : k < l.length
                  · obtain ⟨ad', v, had, _, hxv, hcc⟩ := (HRR.out.below H.out.2).at_ hlt
                    rw [bv_get l k hlt] at hxv
                    injection hxv with hxv
                    subst hxv
                    obtain ⟨f, hf⟩ : ∃ f, l[k] = f := ⟨_, rfl⟩
                    rw [hf] at hcc
                    have hcom : commonB c.fns (l.take (k + 1)) = commonB c.fns (l.take k) ++ (if inB c.fns f then [f] else []) := by
                      unfold commonB
                      rw [List.take_succ_eq_append_getElem hlt, List.filter_append, hf]
                      by_cases hif : inB c.fns f = true <;> simp [hif]
                    have hb1 : Below wr.heap.size wr (wr.alloc (.cells #[.int .u8 (f.toNat : Int)] 5)) := (Below.refl _ wr).alloc (Nat.le_refl _) _
                    have hlit := OB.lit wr wr.heap.size (Nat.le_refl _) [f] (by simp) #[.int .u8 (f.toNat : Int)] rfl 1 rfl
                    have HOW := Lib.hid (own_calls ((HE.out.below H.out.2).below hb1) (some ⟨wr.heap.size, 0, none⟩) 1 1 [f] rfl (Reads.of_own hlit) (by simp))
                    rw [show ownB c.fns [f] = inB c.fns f by simp [ownB]] at HOW
                    have HAD := Lib.hid had
                    have HCL := Lib.hid (Nat.le_trans (List.length_filter_le (inB c.fns) (l.take k)) (Nat.le_trans (List.length_take_le _ _) (by omega)) : (commonB c.fns (l.take k)).length ≤ 1000)
                    have HB1 := Lib.hid hb1
                    have HCOM := Lib.hid hcom
                    clear hf hcom hb1 hlit had
                    cases hif : inB c.fns f with
                    | true =>
                      rw [hif] at HOW HCOM
                      clear hif
                      rw [HAD.out]
                      go_wp2_with fail
                      refine HOW.out.mono ?_
                      rintro e w2 ⟨rfl, hb2⟩
                      have hb12 : Below wr.heap.size wr w2 := HB1.out.trans (hb2.mono HB1.out.size)
                      have hbw2 : Below w.heap.size w w2 := H.out.2.trans (hb12.mono H.out.2.size)
                      obtain ⟨xs, hxs⟩ : ∃ x, commonB c.fns (l.take k) = x := ⟨_, rfl⟩
                      have hcm := (H.out.1.below hb12)
                      have hlen := HCL.out
                      rw [hxs] at hcm hlen
                      have HCM := Lib.hid (hcm.alloc (.cells #[.int .u8 (f.toNat : Int)] 5))
                      have HL2 := Lib.hid (Reads.of_own (OB.lit w2 w2.heap.size (Nat.le_refl _) [f] (by simp) #[.int .u8 (f.toNat : Int)] rfl 1 rfl))
                      have HXS := Lib.hid hxs
                      have HBW := Lib.hid hbw2
                      have hsz := hbw2.size
                      clear hb12 hbw2 hb2 hcm hxs
                      go_wp2_with (first
                        | (at_builtin
                           refine wpl_app rfl (.tmp 93) (.tmp 95) rfl w.heap.size _ xs rfl HCM.out _ _ 1 1 [f] rfl rfl HL2.out (by simp; omega) (by simp; omega) ?_
                           intro v1 w3 hown1 hg1 hat1))
                      have hb3 : Below w.heap.size w w3 := (HBW.out.alloc hsz _).grown hg1 (by simp; omega) (fun q hq => (HCM.out.lt q hq).1)
                      go_roundw
                      case rel => exact ⟨k + 1, by omega, by go_num, by rw [HCOM.out, HXS.out]; exact hown1, hb3⟩
                      case measure => simp [intOf]; omega
                    | false =>
                      rw [hif] at HOW HCOM
                      clear hif
                      rw [HAD.out]
                      go_wp2_with fail
                      refine HOW.out.mono ?_
                      rintro e w2 ⟨rfl, hb2⟩
                      have hb12 : Below wr.heap.size wr w2 := HB1.out.trans (hb2.mono HB1.out.size)
                      have HH := Lib.hid (show OB w.heap.size w2 _ (commonB c.fns (l.take (k + 1))) ∧ Below w.heap.size w w2 from ⟨by rw [HCOM.out]; simpa using H.out.1.below hb12, H.out.2.trans (hb12.mono H.out.2.size)⟩)
                      clear hb12 hb2
                      go_wp2_with fail
                      go_roundw
                      case rel => exact ⟨k + 1, by omega, by go_num, HH.out⟩
                      case measure => simp [intOf]; omega
                  · have HK := Lib.hid (show l.take k = l from List.take_of_length_le (by omega))
                    have ho := H.out.1
                    rw [HK.out] at ho
                    have HOF := Lib.hid (offer_calls (HE.out.below H.out.2) w.heap.size _ (commonB c.fns l) ho (Nat.le_trans (List.length_filter_le _ _) hll))
                    clear ho
                    go_wp2_with fail
                    refine HOF.out.mono ?_
                    rintro e w3 ⟨v', rfl, ho, he, hg⟩
                    go_wp2_with fail
                    go_ret2
                    exact ⟨v', _, rfl, ho.low H.out.2.size, he, grown_trans_own (only_of_below H.out.2 _) hg, (fun b hb => by simp [Value.ownBlock]), .nil⟩
          · have e2 : s.state ≠ 2 := fun e => h2 (.inl e)
            have e3 : s.state ≠ 3 := fun e => h2 (.inr e)
            obtain ⟨a2, b2⟩ := tne (show (s.state : Int) ≠ 2 by omega)
            obtain ⟨a3, b3⟩ := tne (show (s.state : Int) ≠ 3 by omega)
            have hm : hfB c s (7 :: l) = (s, [], 6) := by simp [hfB, ho, e2, e3]
            rw [hm]
            have HS := Lib.hid (Heard.same h 6 (Below.refl _ w))
            clear hn hr h hm hrl hrr ho hA' hA1 hA hx h2 e2 e3
            go_enter Try.func25, Try.ntmps25
            go_wp2_with fail
            refine HONCE.out.mono ?_
            rintro e w1 ⟨rfl, rfl⟩
            go_wp2_with fail
            go_ret2
            exact HS.out
    · have hx4 : x ≠ 4 := fun e => h47 (.inl e)
      have hx7 : x ≠ 7 := fun e => h47 (.inr e)
      have hm : hfB c s (x :: l) = (s, [], 4) := by simp [hfB, hx4, hx7]
      rw [hm]
      have HS := Lib.hid (Heard.same h 4 (Below.refl _ w))
      obtain ⟨a4, b4⟩ := tne8 (K := 4) hx4 rfl
      obtain ⟨a7, b7⟩ := tne8 (K := 7) hx7 rfl
      clear hn hr h hm hrl hrr h47 hA' hA1 hA hx4 hx7
      go_enter Try.func25, Try.ntmps25
      go_wp2_with fail
      go_ret2
      exact HS.out
end
end Go.Proofs.Ytfjlgpbplliccaa
