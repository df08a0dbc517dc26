/- awake: the document's example. -/
import Derived.Test.YtfjlgpbplliccaaQ
namespace Go.Proofs.Ytfjlgpbplliccaa
open Go.RowKit

def demo : Cfg := ⟨[73, 66, 77, 45, 51, 50, 55, 56, 45, 50, 45, 69], [], [2]⟩
theorem demo_new : newErr demo = 0 := by decide
theorem demo_hear : hearB demo ⟨0, [], []⟩ 40 [8, 2] = (⟨1, [], []⟩, asksB demo, 0) := by rfl
set_option maxRecDepth 100000 in
set_option maxHeartbeats 1000000 in
theorem awake_calls (w : World) : Calls Try.prog 4 #[] w fun e w' => e = .returned (.bool true) ∧ Below w.heap.size w w' := by
  have HN := Lib.hid (New_calls w.heap.size (w.alloc (.cells #[.int .u8 2] 5)) (by simp) _ demo (OB.lit w w.heap.size (Nat.le_refl _) [2] (by simp) #[.int .u8 2] rfl 1 rfl) (by simp [Cfg.small, demo]))
  have HB := Lib.hid ((Below.refl w.heap.size w).alloc (Nat.le_refl _) (.cells #[.int .u8 2] 5))
  go_enter Try.func4, Try.ntmps4
  go_wp2_with fail
  refine HN.out.mono ?_
  rintro e w1 ⟨hb1, hd⟩
  rcases hd with ⟨hd, _⟩ | ⟨_, g, F', rfl, hg, hE, hF⟩
  · exact absurd demo_new hd
  have HB1 := Lib.hid (HB.out.trans (hb1.mono HB.out.size))
  have HE := Lib.hid hE
  have hr2 := Lib.hid (Reads.of_own (OB.lit w1 w1.heap.size (Nat.le_refl _) [8, 2] (by simp) #[.int .u8 8, .int .u8 2] rfl 2 rfl))
  have hgs : g < w1.heap.size := hE.blk.lt
  have HB2 := Lib.hid ((Below.refl w1.heap.size w1).alloc (Nat.le_refl _) (.cells #[.int .u8 8, .int .u8 2] 5))
  clear hb1 hF hE
  go_wp2_with fail
  have HH := Lib.hid (Hear_calls (HE.out.below HB2.out) (by decide) 40 (some ⟨w1.heap.size, 0, none⟩) 2 2 [8, 2] rfl hr2.out (by omega) (by omega) (fun a ha => by cases ha; exact Nat.ne_of_gt hgs))
  rw [demo_hear] at HH
  refine HH.out.mono ?_
  rintro e w2 ⟨v', G', rfl, ho, hE2, hg2, _⟩
  obtain ⟨A, cp, hv, hc, hr, _, _⟩ := ho.reads
  subst hv
  have HE2 := Lib.hid hE2
  have kc : (convert 22 9 (.slice A (asksB demo).length cp)).run Try.prog w2 = .ok (.string (strOf (asksB demo))) w2 := hr.convert cp rfl
  have ks : strOf (asksB demo) = ⟨#[2, 7, 73, 66, 77, 45, 51, 50, 55, 56, 45, 50, 45, 69]⟩ := by decide
  have HS := Lib.hid (State_calls hE2)
  have HB3 : Below w.heap.size w w2 := (HB1.out.trans (HB2.out.mono HB1.out.size)).grown hg2 (Nat.le_trans HB1.out.size HB2.out.size) (fun b hb => by cases hb; exact Nat.le_trans HB.out.size hg)
  rw [ks] at kc
  clear hE2 ho hg2 ks
  go_wp2_with fail
  refine HS.out.mono ?_
  rintro e w3 ⟨rfl, rfl⟩
  go_wp2_with fail
  go_ret
  exact ⟨rfl, HB3⟩
end Go.Proofs.Ytfjlgpbplliccaa
