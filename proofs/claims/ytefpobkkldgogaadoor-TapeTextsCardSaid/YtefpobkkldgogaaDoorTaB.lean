/- A number of the program's tape. -/
import Derived.Test.YtefpobkkldgogaaDoorTaG
import Derived.Test.YtefpobkkldgogaaDoorRw
namespace Go.Proofs.YtefpobkkldgogaaDoor
open Go.RowKit

def NumRet (r : Option Int) (w : World) (e : Ending) (w' : World) : Prop :=
  Below w.heap.size w w' ∧ ∃ n, e = .returned (.tuple #[.int .i64 n, .bool r.isSome]) ∧ -9223372036854775808 ≤ n ∧ n ≤ 9223372036854775807 ∧ ∀ v, r = some v → n = v
theorem parse_in {B : Nat} (hB : B = 64 ∨ B = 32) {s : List UInt8} {v : Int} (h : Lib.parseIntB B s = .ok v) : -9223372036854775808 ≤ v ∧ v ≤ 9223372036854775807 := by
  have := parse_range h
  rcases hB with rfl | rfl <;> omega

theorem numB_some {B : Nat} {s : List UInt8} {v : Int} (h : Lib.parseIntB B s = .ok v) : (numB B s).isSome = (Lib.itoa v == s) := by
  unfold numB
  rw [h]
  by_cases he : Lib.itoa v = s
  · simp [he]
  · simp [he]
theorem numB_val {B : Nat} {s : List UInt8} {v u : Int} (h : Lib.parseIntB B s = .ok v) (hu : numB B s = some u) : v = u := by
  unfold numB at hu
  rw [h] at hu
  dsimp only at hu
  split at hu
  · exact Option.some.inj hu
  · cases hu
theorem numB_none {B : Nat} {s : List UInt8} (h : ∀ v, Lib.parseIntB B s ≠ .ok v) : numB B s = none := by
  unfold numB
  cases hp : Lib.parseIntB B s
  case ok v => exact absurd hp (h v)
  all_goals rfl

set_option maxHeartbeats 1000000 in
theorem number64_calls (s : List UInt8) (w : World) (hw : GW w) (hs : s.length ≤ 4000000000) : Calls Tryd.prog 43 #[.string (strOf s), .int .i64 64] w (NumRet (numB 64 s) w) := by
  have HP := Lib.hid (ParseInt64_calls' s w hw hs)
  have HW := Lib.hid hw
  clear hw
  go_enter Tryd.func43, Tryd.ntmps43
  go_wp2_with fail
  refine HP.out.mono ?_
  rintro e w1 ⟨hb, hh⟩
  rcases hh with ⟨v, hv, rfl⟩ | ⟨hv, n, t, p, hn1, hn2, rfl⟩
  · have hvr := parse_in (.inl rfl) hv
    have HF := Lib.hid (FormatInt_calls' v hvr.1 hvr.2 w1 (HW.out.below hb))
    have HB := Lib.hid hb
    have HV := Lib.hid hv
    clear hb hv
    go_wp2_with fail
    refine HF.out.mono ?_
    rintro e w2 ⟨rfl, hb2⟩
    have HB2 := Lib.hid (HB.out.trans (hb2.mono HB.out.size))
    clear hb2
    go_wp2_with fail
    go_ret2
    refine ⟨HB2.out, v, ?_, hvr.1, hvr.2, fun u hu => ?_⟩
    · rw [show (numB 64 s).isSome = (Lib.itoa v == s) from numB_some HV.out]; rfl
    · exact numB_val HV.out hu
  · have HB := Lib.hid hb
    have HN := Lib.hid (numB_none hv)
    clear hb hv
    go_wp2_with fail
    go_ret2
    exact ⟨HB.out, n, by rw [HN.out]; rfl, hn1, hn2, fun v h => by rw [HN.out] at h; cases h⟩
set_option maxHeartbeats 1000000 in
theorem number32_calls (s : List UInt8) (w : World) (hw : GW w) (hs : s.length ≤ 4000000000) : Calls Tryd.prog 43 #[.string (strOf s), .int .i64 32] w (NumRet (numB 32 s) w) := by
  have HP := Lib.hid (ParseInt32_calls' s w hw hs)
  have HW := Lib.hid hw
  clear hw
  go_enter Tryd.func43, Tryd.ntmps43
  go_wp2_with fail
  refine HP.out.mono ?_
  rintro e w1 ⟨hb, hh⟩
  rcases hh with ⟨v, hv, rfl⟩ | ⟨hv, n, t, p, hn1, hn2, rfl⟩
  · have hvr := parse_in (.inr rfl) hv
    have HF := Lib.hid (FormatInt_calls' v hvr.1 hvr.2 w1 (HW.out.below hb))
    have HB := Lib.hid hb
    have HV := Lib.hid hv
    clear hb hv
    go_wp2_with fail
    refine HF.out.mono ?_
    rintro e w2 ⟨rfl, hb2⟩
    have HB2 := Lib.hid (HB.out.trans (hb2.mono HB.out.size))
    clear hb2
    go_wp2_with fail
    go_ret2
    refine ⟨HB2.out, v, ?_, hvr.1, hvr.2, fun u hu => ?_⟩
    · rw [show (numB 32 s).isSome = (Lib.itoa v == s) from numB_some HV.out]; rfl
    · exact numB_val HV.out hu
  · have HB := Lib.hid hb
    have HN := Lib.hid (numB_none hv)
    clear hb hv
    go_wp2_with fail
    go_ret2
    exact ⟨HB.out, n, by rw [HN.out]; rfl, hn1, hn2, fun v h => by rw [HN.out] at h; cases h⟩

def KeyRet (r : Option Stp) (w : World) (e : Ending) (w' : World) : Prop :=
  Below w.heap.size w w' ∧ ∃ k1 k2 k3 : Int, e = .returned (.tuple #[.agg #[.int .i64 k1, .int .i32 k2, .int .i64 k3], .bool r.isSome]) ∧ (∀ s, r = some s → s = ⟨75, [], k1, k2, k3⟩)
theorem key_isSome (a b c : List UInt8) : (keyB a b c).isSome = ((numB 64 a).isSome && ((numB 32 b).isSome && (numB 64 c).isSome)) := by
  unfold keyB
  cases numB 64 a <;> cases numB 32 b <;> cases numB 64 c <;> rfl
theorem key_val {a b c : List UInt8} {n1 n2 n3 : Int} (h1 : ∀ v, numB 64 a = some v → n1 = v) (h2 : ∀ v, numB 32 b = some v → n2 = v) (h3 : ∀ v, numB 64 c = some v → n3 = v) (hr : -2147483648 ≤ n2 ∧ n2 ≤ 2147483647 ∨ numB 32 b = none) :
    ∀ s, keyB a b c = some s → s = ⟨75, [], n1, wrap32 n2, n3⟩ := by
  intro s hs
  unfold keyB at hs
  cases ha : numB 64 a with
  | none => rw [ha] at hs; simp at hs
  | some x =>
    cases hb : numB 32 b with
    | none => rw [ha, hb] at hs; simp at hs
    | some y =>
      cases hc : numB 64 c with
      | none => rw [ha, hb, hc] at hs; simp at hs
      | some z =>
        rw [ha, hb, hc] at hs
        simp only [Option.some.injEq] at hs
        rcases hr with hr | hr
        · rw [← hs, h1 x ha, h3 z hc, show wrap32 n2 = n2 by unfold wrap32; omega, h2 y hb]
        · rw [hr] at hb; cases hb
set_option maxRecDepth 100000 in
set_option maxHeartbeats 1000000 in
theorem key3_calls (ad : Addr) (cp : Nat) (a b c : List UInt8) (w : World) (hw : GW w) (hr : Reads w w.heap.size 1 (some ad) 3 (sv [a, b, c])) (h1 : a.length ≤ 4000000000) (h2 : b.length ≤ 4000000000) (h3 : c.length ≤ 4000000000) (hc : 3 ≤ cp) :
    Calls Tryd.prog 25 #[.slice (some ad) 3 cp] w (KeyRet (keyB a b c) w) := by
  obtain ⟨ad', e, hb, hcell⟩ := hr.2 (by omega)
  injection e with e
  subst e
  have c0 : w.cell? ad = some (.string (strOf a)) := by simpa [Addr.add] using hcell 0 _ rfl
  have c1 : w.cell? ⟨ad.block, ad.off + 1, none⟩ = some (.string (strOf b)) := hcell 1 _ rfl
  have c2 : w.cell? ⟨ad.block, ad.off + 2, none⟩ = some (.string (strOf c)) := hcell 2 _ rfl
  have HW := Lib.hid hw
  have HA := Lib.hid (fun W hW => number64_calls a W hW h1)
  have HB := Lib.hid (fun W hW => number32_calls b W hW h2)
  have HC := Lib.hid (fun W hW => number64_calls c W hW h3)
  clear hw hr hcell
  go_enter Tryd.func25, Tryd.ntmps25
  go_wp2_with fail
  have hal : Below w.heap.size w (w.alloc (.cells #[.int .i64 0, .int .i32 0, .int .i64 0] 35)) := (Below.refl _ w).alloc (Nat.le_refl _) _
  have hbx := Blk.new w 35 #[.int .i64 0, .int .i32 0, .int .i64 0]
  have HAL := Lib.hid hal
  have HBX := Lib.hid hbx
  clear hal hbx c0
  refine (HA.out _ (HW.out.below HAL.out)).mono ?_
  rintro e w1 ⟨hb1, n1, rfl, hl1, hu1, hv1⟩
  have d1 := (hb1.cell (p := ⟨ad.block, ad.off + 1, none⟩) (Nat.lt_of_lt_of_le hb HAL.out.size)).trans ((HAL.out.cell (p := ⟨ad.block, ad.off + 1, none⟩) hb).trans c1)
  have HB1 := Lib.hid (HAL.out.trans (hb1.mono HAL.out.size))
  have HX1 := Lib.hid (HBX.out.below hb1 HBX.out.lt)
  have HV1 := Lib.hid hv1
  clear hb1 hv1 c1
  go_wp2_with fail
  refine (HB.out _ (HW.out.below HB1.out)).mono ?_
  rintro e w2 ⟨hb2, n2, rfl, hl2, hu2, hv2⟩
  have d2 := ((HB1.out.trans (hb2.mono HB1.out.size)).cell (p := ⟨ad.block, ad.off + 2, none⟩) hb).trans c2
  have HB2 := Lib.hid (HB1.out.trans (hb2.mono HB1.out.size))
  have HX2 := Lib.hid (HX1.out.below hb2 HX1.out.lt)
  have HV2 := Lib.hid hv2
  have hr2 : -2147483648 ≤ n2 ∧ n2 ≤ 2147483647 ∨ numB 32 b = none := by
    cases h : numB 32 b with
    | none => exact .inr rfl
    | some v =>
      have := (numB_iff (by omega) (by omega) b v).1 h
      rw [hv2 v h]
      exact .inl (by omega)
  have HR2 := Lib.hid hr2
  clear hb2 hv2 d1 c2 hr2
  go_wp2_with fail
  refine (HC.out _ (HW.out.below HB2.out)).mono ?_
  rintro e w3 ⟨hb3, n3, rfl, hl3, hu3, hv3⟩
  have HB3 := Lib.hid (HB2.out.trans (hb3.mono HB2.out.size))
  have hx3 := HX2.out.below hb3 HX2.out.lt
  have HX3 := Lib.hid hx3
  have HV3 := Lib.hid hv3
  have q0 := hx3.cell 0
  have q1 := hx3.cell 1
  have q2 := hx3.cell 2
  have k0 := hx3.frozen 0
  have k1 := hx3.frozen 1
  have k2 := hx3.frozen 2
  clear hb3 hv3 hx3 d2
  have HZ := Lib.hid (((HX3.out.set_ 0 (.int .i64 n1)).set_ 1 (.int .i32 (wrap32 n2))).set_ 2 (.int .i64 n3))
  have HBZ : Hid (Below w.heap.size w (((w3.setCell ⟨w.heap.size, 0, none⟩ (.int .i64 n1)).setCell ⟨w.heap.size, 1, none⟩ (.int .i32 (wrap32 n2))).setCell ⟨w.heap.size, 2, none⟩ (.int .i64 n3))) :=
    Lib.hid (((HB3.out.setCell (p := ⟨w.heap.size, 0, none⟩) (Nat.le_refl _) _).setCell (p := ⟨w.heap.size, 1, none⟩) (Nat.le_refl _) _).setCell (p := ⟨w.heap.size, 2, none⟩) (Nat.le_refl _) _)
  have HVZ := Lib.hid (key_val HV1.out HV2.out HV3.out HR2.out)
  have HS := Lib.hid (key_isSome a b c)
  clear HX3 HB3 HV1 HV2 HV3 HR2 HA HB HC HAL HBX HB1 HX1 HB2 HX2 HW
  go_wp2_with fail
  all_goals
    refine bodyPost_ret (results_row_tmp rfl _ _ w.heap.size _ _ _ _ rfl HZ.out Tryd.underlying35 rfl (by kernel_rfl)) rfl ?_
    refine ⟨HBZ.out, n1, wrap32 n2, n3, ?_, HVZ.out⟩
    rw [HS.out]
    simp_all
end Go.Proofs.YtefpobkkldgogaaDoor
