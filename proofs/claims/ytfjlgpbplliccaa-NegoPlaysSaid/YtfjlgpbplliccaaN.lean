/- The reference's Hear whole; New of both; Few. -/
import Derived.Test.YtfjlgpbplliccaaRh
namespace Go.Proofs.Ytfjlgpbplliccaa
open Go.RowKit

section
variable {base : Nat} {w : World} {g : Nat} {F G : Value} {c : Cfg} {s : St}

theorem RHear_calls (h : EndAt base 40 w g F G c s) (opt : UInt8) (A : Option Addr) (n cp : Nat) (p : List UInt8) (hn : n = p.length) (hr : RB w A p) (hl : n ≤ 1000) (hc : n ≤ cp) (hA : ∀ a, A = some a → a.block ≠ g) :
    Calls Try.prog 13 #[.pointer (some ⟨g, 0, none⟩), .int .u8 opt.toNat, .slice A n cp] w (HeardR base w g F c (hearB c s opt p)) := by
  by_cases h24 : opt = 24
  · exact RHear_easy h opt A n cp p hn hr hl hc (.inl h24)
  by_cases h40 : opt = 40
  · subst h40
    by_cases h82 : p = [8, 2]
    · exact RHear_easy h 40 A n cp p hn hr hl hc (.inr (.inr (.inl h82)))
    match p, hn, hr, h82 with
    | [], hn, hr, _ => exact RHear_easy h 40 A n cp [] hn hr hl hc (.inr (.inr (.inr (by rw [hn]; simp))))
    | [x], hn, hr, _ => exact RHear_easy h 40 A n cp [x] hn hr hl hc (.inr (.inr (.inr (by rw [hn]; simp))))
    | x :: y :: r, hn, hr, h82 =>
      have e82 := se_false h82
      have hm : hearB c s 40 (x :: y :: r) = if x == 2 then hdB c s (y :: r) else if x == 3 then hfB c s (y :: r) else (s, [], 4) := by
        unfold hearB
        rw [if_neg (by decide), if_neg (by decide), if_neg (by rw [e82]; decide)]
      rw [hm]
      have hnone (a : (x == 2 && y == 6) = false) (b : (x == 2 && y == 4) = false) (cc : (x == 3 && y == 4) = false) (d : (x == 3 && y == 7) = false) :=
        RHear_none h A n cp x y r hn hr hl hc h82 (by intro e; injection e with e1 e2; injection e2 with e2 _; simp [e1, e2] at a) (by intro e; injection e with e1 e2; injection e2 with e2 _; simp [e1, e2] at b)
          (by intro e; injection e with e1 e2; injection e2 with e2 _; simp [e1, e2] at cc) (by intro e; injection e with e1 e2; injection e2 with e2 _; simp [e1, e2] at d)
      by_cases hx2 : x = 2
      · subst hx2
        rw [if_pos (by decide)]
        by_cases hy6 : y = 6
        · subst hy6; exact RHear_26 h A n cp r hn hr hl hc
        · by_cases hy4 : y = 4
          · subst hy4; exact RHear_24 h A n cp r hn hr hl hc
          · have : hdB c s (y :: r) = (s, [], 4) := by
              unfold hdB
              rw [if_neg (by simp [hy6])]
              simp [hy4]
            rw [this]
            exact hnone (by simp [hy6]) (by simp [hy4]) rfl rfl
      · rw [if_neg (by simpa using hx2)]
        by_cases hx3 : x = 3
        · subst hx3
          rw [if_pos (by decide)]
          by_cases hy4 : y = 4
          · subst hy4; exact RHear_34 h A n cp r hn hr hl hc hA
          · by_cases hy7 : y = 7
            · subst hy7; exact RHear_37 h A n cp r hn hr hl hc hA
            · have : hfB c s (y :: r) = (s, [], 4) := by
                unfold hfB
                simp [hy4, hy7]
              rw [this]
              exact hnone rfl rfl (by simp [hy4]) (by simp [hy7])
        · rw [if_neg (by simpa using hx3)]
          exact hnone (by simp [hx2]) (by simp [hx2]) (by simp [hx3]) (by simp [hx3])
  · exact RHear_easy h opt A n cp p hn hr hl hc (.inr (.inl h40))
end

/-- a config by value, and what it holds -/
structure CfgIn (base : Nat) (w : World) (v : Value) (c : Cfg) : Prop where
  form : ∃ F, v = .agg #[.string (strOf c.typ), .string (strOf c.dev), F] ∧ OB base w F c.fns
  small : c.small

set_option maxRecDepth 100000 in
set_option maxHeartbeats 2000000 in
/-- New of the program: an end that is idle, or the error. -/
theorem New_calls (base : Nat) (w : World) (hbase : base ≤ w.heap.size) (F : Value) (c : Cfg) (hF : OB base w F c.fns) (hs : c.small) :
    Calls Try.prog 6 #[.agg #[.string (strOf c.typ), .string (strOf c.dev), F]] w fun e w' => Below w.heap.size w w' ∧
      ((newErr c ≠ 0 ∧ e = .returned (.tuple #[.pointer none, .int .i64 (newErr c : Int)])) ∨
       (newErr c = 0 ∧ ∃ g F', e = .returned (.tuple #[.pointer (some ⟨g, 0, none⟩), .int .i64 0]) ∧ w.heap.size ≤ g ∧ EndAt base 55 w' g F' (.slice none 0 0) c ⟨0, [], []⟩ ∧ (∀ b, F'.ownBlock = some b → w.heap.size ≤ b))) := by
  obtain ⟨AF, cF, hv, hcF, _, _, _⟩ := hF.reads
  subst hv
  obtain ⟨hs1, hs2, hs3⟩ := hs
  have HT := Lib.hid (fun W => Name_calls c.typ W (by omega))
  have HD := Lib.hid (fun W => Name_calls c.dev W (by omega))
  have hb1 : Below w.heap.size w (w.alloc (.cells #[.string (strOf c.typ), .string (strOf c.dev), .slice AF c.fns.length cF] 32)) := (Below.refl _ w).alloc (Nat.le_refl _) _
  have HB := Lib.hid hb1
  have HF := Lib.hid hF
  clear hF hb1
  cases ht : nameOk c.typ
  · rw [ht] at HT
    have hm : newErr c = 4 := by simp [newErr, ht]
    rw [hm]
    clear hm ht
    go_enter Try.func6, Try.ntmps6
    go_wp2_with fail
    refine (HT.out _).mono ?_
    rintro e w1 ⟨rfl, rfl⟩
    go_wp2_with fail
    go_ret2
    exact ⟨HB.out, .inl ⟨by decide, rfl⟩⟩
  · rw [ht] at HT
    have hdv : (c.dev = [] ∧ (c.dev.isEmpty = true)) ∨ (c.dev.isEmpty = false ∧ nameOk c.dev = false) ∨ (c.dev.isEmpty = false ∧ nameOk c.dev = true) := by
      cases hd : c.dev with
      | nil => exact .inl ⟨rfl, rfl⟩
      | cons a t =>
        cases hn : nameOk (a :: t)
        · exact .inr (.inl ⟨rfl, rfl⟩)
        · exact .inr (.inr ⟨rfl, rfl⟩)
    rcases hdv with ⟨hd, hde⟩ | ⟨hd, hdn⟩ | ⟨hd, hdn⟩
    · clear hd
      have HR := Lib.hid (rises_calls AF c.fns.length cF c.fns _ rfl ((Reads.of_own HF.out).below HB.out |>.more HB.out.size) (by omega))
      have HCL := Lib.hid (Clone_calls AF c.fns.length cF c.fns _ rfl ((Reads.of_own HF.out).below HB.out |>.more HB.out.size) (by omega))
      have HBX := Lib.hid (Blk.new w 32 #[.string (strOf c.typ), .string (strOf c.dev), .slice AF c.fns.length cF])
      cases hrs : risesB c.fns
      · rw [hrs] at HR
        have hm : newErr c = 1 := by simp [newErr, ht, hde, hrs]
        rw [hm]
        clear hm ht hrs
        go_enter Try.func6, Try.ntmps6
        go_wp2_with fail
        refine (HT.out _).mono ?_
        rintro e w1 ⟨rfl, rfl⟩
        go_wp2_with fail
        refine HR.out.mono ?_
        rintro e w1 ⟨rfl, rfl⟩
        go_wp2_with fail
        go_ret2
        exact ⟨HB.out, .inl ⟨by decide, rfl⟩⟩
      · rw [hrs] at HR
        have hm : newErr c = 0 := by simp [newErr, ht, hde, hrs]
        rw [hm]
        clear hm ht hrs
        go_enter Try.func6, Try.ntmps6
        go_wp2_with fail
        refine (HT.out _).mono ?_
        rintro e w1 ⟨rfl, rfl⟩
        go_wp2_with fail
        refine HR.out.mono ?_
        rintro e w1 ⟨rfl, rfl⟩
        go_wp2_with fail
        refine HCL.out.mono ?_
        rintro e w1 ⟨v, rfl, ho, hb⟩
        have hbx := HBX.out.below hb (by simp)
        have hst := hbx.set_ 2 v
        have d2 := hbx.cell 2
        have k2 := hbx.frozen 2
        have hcg : OB w.heap.size (w1.setCell ⟨w.heap.size, 2, none⟩ v) v c.fns := OB.low (show OB _ _ _ _ from ho.kept (grown_set w1 w.heap.size 2 v) (.inr (own_blk_ne ho hbx (by decide)))) (by simp)
        have hbw : Below w.heap.size w (w1.setCell ⟨w.heap.size, 2, none⟩ v) := ((HB.out.trans (hb.mono (by simp))).setCell (p := ⟨w.heap.size, 2, none⟩) (Nat.le_refl _) v)
        obtain ⟨Av, cv, hv, _, _, _, _⟩ := ho.reads
        subst hv
        obtain ⟨W, hW⟩ : ∃ W, w1.setCell ⟨w.heap.size, 2, none⟩ (.slice Av c.fns.length cv) = W := ⟨_, rfl⟩
        rw [hW] at hst hcg hbw
        have q0 := hst.cell 0
        have q1 := hst.cell 1
        have q2 := hst.cell 2
        have HW := Lib.hid hW
        have HCG := Lib.hid hcg
        have HBW := Lib.hid hbw
        have HLT := Lib.hid hst.lt
        clear hb ho hbx hst hcg hbw hW
        go_upto_region 6 with (fail)
        rw [HW.out]
        clear d2 k2
        go_wp2_with fail
        go_ret2
        have hb3 : Below W.heap.size W (W.alloc (.cells #[.string (strOf c.typ), .string (strOf c.dev), .slice Av c.fns.length cv, .int .i64 0, .string ⟨#[]⟩, .slice none 0 0] 55)) := (Below.refl _ W).alloc (Nat.le_refl _) _
        refine ⟨HBW.out.trans (hb3.mono HBW.out.size), .inr ⟨trivial, W.heap.size, .slice Av c.fns.length cv, rfl, HBW.out.size, ?_, fun b hb => (HCG.out.lt b hb).1⟩⟩
        exact ⟨Nat.le_trans hbase HBW.out.size, Blk.new W 55 _, (HCG.out.below hb3).low hbase, World.ownsRow_nil _ _ _ _, ⟨hs1, hs2, hs3⟩, by simp [St.small]⟩
    · rw [hdn] at HD
      have hm : newErr c = 4 := by simp [newErr, ht, hd, hdn]
      rw [hm]
      have d0 := Blk.cell (Blk.new w 32 #[.string (strOf c.typ), .string (strOf c.dev), .slice AF c.fns.length cF]) 1
      clear hm ht hdn
      go_enter Try.func6, Try.ntmps6
      go_wp2_with fail
      refine (HT.out _).mono ?_
      rintro e w1 ⟨rfl, rfl⟩
      go_wp2_with fail
      refine (HD.out _).mono ?_
      rintro e w1 ⟨rfl, rfl⟩
      go_wp2_with fail
      go_ret2
      exact ⟨HB.out, .inl ⟨by decide, rfl⟩⟩
    · rw [hdn] at HD
      have HR := Lib.hid (rises_calls AF c.fns.length cF c.fns _ rfl ((Reads.of_own HF.out).below HB.out |>.more HB.out.size) (by omega))
      have HCL := Lib.hid (Clone_calls AF c.fns.length cF c.fns _ rfl ((Reads.of_own HF.out).below HB.out |>.more HB.out.size) (by omega))
      have HBX := Lib.hid (Blk.new w 32 #[.string (strOf c.typ), .string (strOf c.dev), .slice AF c.fns.length cF])
      cases hrs : risesB c.fns
      · rw [hrs] at HR
        have hm : newErr c = 1 := by simp [newErr, ht, hd, hdn, hrs]
        rw [hm]
        clear hm ht hrs
        go_enter Try.func6, Try.ntmps6
        go_wp2_with fail
        refine (HT.out _).mono ?_
        rintro e w1 ⟨rfl, rfl⟩
        go_wp2_with fail
        refine (HD.out _).mono ?_
        rintro e w1 ⟨rfl, rfl⟩
        go_wp2_with fail
        refine HR.out.mono ?_
        rintro e w1 ⟨rfl, rfl⟩
        go_wp2_with fail
        go_ret2
        exact ⟨HB.out, .inl ⟨by decide, rfl⟩⟩
      · rw [hrs] at HR
        have hm : newErr c = 0 := by simp [newErr, ht, hd, hdn, hrs]
        rw [hm]
        clear hm ht hrs
        go_enter Try.func6, Try.ntmps6
        go_wp2_with fail
        refine (HT.out _).mono ?_
        rintro e w1 ⟨rfl, rfl⟩
        go_wp2_with fail
        refine (HD.out _).mono ?_
        rintro e w1 ⟨rfl, rfl⟩
        go_wp2_with fail
        refine HR.out.mono ?_
        rintro e w1 ⟨rfl, rfl⟩
        go_wp2_with fail
        refine HCL.out.mono ?_
        rintro e w1 ⟨v, rfl, ho, hb⟩
        have hbx := HBX.out.below hb (by simp)
        have hst := hbx.set_ 2 v
        have d2 := hbx.cell 2
        have k2 := hbx.frozen 2
        have hcg : OB w.heap.size (w1.setCell ⟨w.heap.size, 2, none⟩ v) v c.fns := OB.low (show OB _ _ _ _ from ho.kept (grown_set w1 w.heap.size 2 v) (.inr (own_blk_ne ho hbx (by decide)))) (by simp)
        have hbw : Below w.heap.size w (w1.setCell ⟨w.heap.size, 2, none⟩ v) := ((HB.out.trans (hb.mono (by simp))).setCell (p := ⟨w.heap.size, 2, none⟩) (Nat.le_refl _) v)
        obtain ⟨Av, cv, hv, _, _, _, _⟩ := ho.reads
        subst hv
        obtain ⟨W, hW⟩ : ∃ W, w1.setCell ⟨w.heap.size, 2, none⟩ (.slice Av c.fns.length cv) = W := ⟨_, rfl⟩
        rw [hW] at hst hcg hbw
        have q0 := hst.cell 0
        have q1 := hst.cell 1
        have q2 := hst.cell 2
        have HW := Lib.hid hW
        have HCG := Lib.hid hcg
        have HBW := Lib.hid hbw
        have HLT := Lib.hid hst.lt
        clear hb ho hbx hst hcg hbw hW
        go_upto_region 6 with (fail)
        rw [HW.out]
        clear d2 k2
        go_wp2_with fail
        go_ret2
        have hb3 : Below W.heap.size W (W.alloc (.cells #[.string (strOf c.typ), .string (strOf c.dev), .slice Av c.fns.length cv, .int .i64 0, .string ⟨#[]⟩, .slice none 0 0] 55)) := (Below.refl _ W).alloc (Nat.le_refl _) _
        refine ⟨HBW.out.trans (hb3.mono HBW.out.size), .inr ⟨trivial, W.heap.size, .slice Av c.fns.length cv, rfl, HBW.out.size, ?_, fun b hb => (HCG.out.lt b hb).1⟩⟩
        exact ⟨Nat.le_trans hbase HBW.out.size, Blk.new W 55 _, (HCG.out.below hb3).low hbase, World.ownsRow_nil _ _ _ _, ⟨hs1, hs2, hs3⟩, by simp [St.small]⟩
end Go.Proofs.Ytfjlgpbplliccaa
