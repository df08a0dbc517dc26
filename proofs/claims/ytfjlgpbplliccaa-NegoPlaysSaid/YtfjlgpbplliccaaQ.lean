/- Few. -/
import Derived.Test.YtfjlgpbplliccaaP
namespace Go.Proofs.Ytfjlgpbplliccaa
open Go.RowKit

theorem below_undrew {B : Nat} {a w : World} {n : Nat} (h : Below B (a.drewN n) w) : Below B a w := ⟨h.os, h.tape, h.output, h.size, h.block⟩
def Cfg.few (c : Cfg) : Cfg := ⟨c.typ.take 45, c.dev.take 45, c.fns.take 8⟩
set_option maxRecDepth 100000 in
set_option maxHeartbeats 1000000 in
theorem Few_calls (w : World) (A : Option Addr) (cp : Nat) (c : Cfg) (hr : RB w A c.fns) (hc : c.fns.length ≤ cp) (h1 : c.typ.length ≤ 9223372036854775807) (h2 : c.dev.length ≤ 9223372036854775807) (h3 : c.fns.length ≤ 9223372036854775807) :
    Calls Try.prog 5 #[.agg #[.string (strOf c.typ), .string (strOf c.dev), .slice A c.fns.length cp]] w fun e w' =>
      ∃ v, e = .returned (.agg #[.string (strOf c.few.typ), .string (strOf c.few.dev), v]) ∧ OB w.heap.size w' v c.few.fns ∧ Below w.heap.size w w' := by
  have H1 := Lib.hid (fun W => CutText_calls c.typ 45 W (by omega) (by omega))
  have H2 := Lib.hid (fun W => CutText_calls c.dev 45 W (by omega) (by omega))
  have hbp := Blk.new w 24 #[.string (strOf c.typ), .string (strOf c.dev), .slice A c.fns.length cp]
  have hal : Below w.heap.size w ((w.alloc (.cells #[.string (strOf c.typ), .string (strOf c.dev), .slice A c.fns.length cp] 24)).alloc (.cells #[.string ⟨#[]⟩, .string ⟨#[]⟩, .slice none 0 0] 24)) := ((Below.refl _ w).alloc (Nat.le_refl _) _).alloc (by simp) _
  have hb2 : Below _ (w.alloc (.cells #[.string (strOf c.typ), .string (strOf c.dev), .slice A c.fns.length cp] 24)) ((w.alloc (.cells #[.string (strOf c.typ), .string (strOf c.dev), .slice A c.fns.length cp] 24)).alloc (.cells #[.string ⟨#[]⟩, .string ⟨#[]⟩, .slice none 0 0] 24)) := (Below.refl _ _).alloc (Nat.le_refl _) _
  have hbr := Blk.new (w.alloc (.cells #[.string (strOf c.typ), .string (strOf c.dev), .slice A c.fns.length cp] 24)) 24 #[.string ⟨#[]⟩, .string ⟨#[]⟩, .slice none 0 0]
  have hsz : (w.alloc (.cells #[.string (strOf c.typ), .string (strOf c.dev), .slice A c.fns.length cp] 24)).heap.size = w.heap.size + 1 := Array.size_push ..
  rw [hsz] at hbr
  have hbp2 := hbp.below hb2 (by rw [hsz]; omega)
  obtain ⟨W, hW⟩ : ∃ W, (w.alloc (.cells #[.string (strOf c.typ), .string (strOf c.dev), .slice A c.fns.length cp] 24)).alloc (.cells #[.string ⟨#[]⟩, .string ⟨#[]⟩, .slice none 0 0] 24) = W := ⟨_, rfl⟩
  rw [hW] at hal hbr hbp2
  have q0 := hbp2.cell 0
  have q1 := hbp2.cell 1
  have q2 := hbp2.cell 2
  have HW := Lib.hid hW
  have HAL := Lib.hid hal
  have HBR := Lib.hid hbr
  have HBP := Lib.hid hbp2
  have HR := Lib.hid ((hr.below hal).more hal.size)
  clear hW hal hbr hbp hbp2 hb2 hsz
  go_enter Try.func5, Try.ntmps5
  go_upto_region 1 with (fail)
  rw [HW.out]
  go_region_held3 (fun w' => w'.cell? ⟨w.heap.size, 0, none⟩ = some (.string (strOf c.typ)) ∧ w'.cell? ⟨w.heap.size, 1, none⟩ = some (.string (strOf c.dev)) ∧ w'.cell? ⟨w.heap.size, 2, none⟩ = some (.slice A c.fns.length cp)) (first | go_keep | assumption)
    (first
      | (go_at_call_of 17 (Value.string (strOf c.typ)); refine (H1.out _).mono ?_; rintro e w' ⟨rfl, rfl⟩)
      | (go_at_call_of 17 (Value.string (strOf c.dev)); refine (H2.out _).mono ?_; rintro e w' ⟨rfl, rfl⟩)
      | (go_at_call 10; refine (Cut_calls A c.fns.length cp 8 c.fns _ rfl (HR.out.drewN _) (by omega) hc (by omega)).mono ?_; rintro e w3 ⟨v, rfl, ho, hb⟩; obtain ⟨Av, cv, hv, _, _, _, _⟩ := ho.reads; subst hv; have HO := Lib.hid ho; have HB3 := Lib.hid (below_undrew hb); have hk := HBP.out.below HB3.out HBP.out.lt; clear ho hb; have hk0 := hk.cell 0; have hk1 := hk.cell 1; have hk2 := hk.cell 2; have hrb := HBR.out.below HB3.out HBR.out.lt; have r0 := hrb.cell 0; have r1 := hrb.cell 1; have r2 := hrb.cell 2; have z0 := hrb.frozen 0; have z1 := hrb.frozen 1; have z2 := hrb.frozen 2; have HRB := Lib.hid hrb; clear hk hrb))
  have HZ := Lib.hid (((HRB.out.set_ 0 (.string (strOf (c.typ.take 45)))).set_ 1 (.string (strOf (c.dev.take 45)))).set_ 2 (.slice Av (List.take 8 c.fns).length cv))
  have HK : OB w.heap.size (((w3.setCell ⟨w.heap.size + 1, 0, none⟩ (.string (strOf (c.typ.take 45)))).setCell ⟨w.heap.size + 1, 1, none⟩ (.string (strOf (c.dev.take 45)))).setCell ⟨w.heap.size + 1, 2, none⟩ (.slice Av (List.take 8 c.fns).length cv)) (.slice Av (List.take 8 c.fns).length cv) (c.fns.take 8) ∧
      Below w.heap.size w (((w3.setCell ⟨w.heap.size + 1, 0, none⟩ (.string (strOf (c.typ.take 45)))).setCell ⟨w.heap.size + 1, 1, none⟩ (.string (strOf (c.dev.take 45)))).setCell ⟨w.heap.size + 1, 2, none⟩ (.slice Av (List.take 8 c.fns).length cv)) := by
    have hne : (Value.slice Av (List.take 8 c.fns).length cv).ownBlock ≠ some (w.heap.size + 1) := fun e => by
      have h1 := (HO.out.lt _ e).1
      have h2 := HBR.out.lt
      have h3 : w.heap.size + 1 < w.heap.size + 1 := Nat.lt_of_lt_of_le h2 h1
      omega
    refine ⟨OB.low (base := (W.drewN 1).heap.size) (show OB _ _ _ _ from World.ownsRow.kept (World.ownsRow.kept (World.ownsRow.kept HO.out (grown_set _ _ 0 _) (.inr hne)) (grown_set _ _ 1 _) (.inr hne)) (grown_set _ _ 2 _) (.inr hne)) HAL.out.size, ?_⟩
    exact (((HAL.out.trans (HB3.out.mono HAL.out.size)).setCell (p := ⟨w.heap.size + 1, 0, none⟩) (by simp) _).setCell (p := ⟨w.heap.size + 1, 1, none⟩) (by simp) _).setCell (p := ⟨w.heap.size + 1, 2, none⟩) (by simp) _
  rw [List.length_take] at HK HZ
  obtain ⟨W3, hW3⟩ : ∃ W3, (((w3.setCell ⟨w.heap.size + 1, 0, none⟩ (.string (strOf (c.typ.take 45)))).setCell ⟨w.heap.size + 1, 1, none⟩ (.string (strOf (c.dev.take 45)))).setCell ⟨w.heap.size + 1, 2, none⟩ (.slice Av (min 8 c.fns.length) cv)) = W3 := ⟨_, rfl⟩
  rw [hW3] at HK HZ
  rw [hW3]
  clear hW3 r0 r1 r2 z0 z1 z2 hk0 hk1 hk2
  go_wp2_with fail
  refine bodyPost_ret (results_cell_row rfl _ _ (w.heap.size + 1) _ _ _ _ rfl HZ.out rfl rfl rfl) rfl ?_
  exact ⟨_, rfl, HK.1, HK.2⟩
end Go.Proofs.Ytfjlgpbplliccaa
