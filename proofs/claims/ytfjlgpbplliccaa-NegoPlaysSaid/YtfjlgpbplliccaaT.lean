/- same. -/
import Derived.Test.YtfjlgpbplliccaaQ
namespace Go.Proofs.Ytfjlgpbplliccaa
open Go.RowKit

theorem inB_step (l : List UInt8) (b : UInt8) (k : Nat) (h : k < l.length) : inB (l.take (k + 1)) b = (inB (l.take k) b || decide (l[k] = b)) := by
  rw [List.take_succ_eq_append_getElem h]
  simp only [inB, List.contains_append]
  congr 1
  by_cases e : l[k] = b
  · simp [e]
  · have : ¬ b = l[k] := fun h => e h.symm
    simp [this, e]

set_option maxRecDepth 100000 in
set_option maxHeartbeats 1000000 in
theorem lsame3_calls (base : Nat) (w : World) (ga gb : Nat) (F G F2 G2 : Value) (c : Cfg) (dv ag : List UInt8) (h1 : EndAt base 55 w ga F G c ⟨3, dv, ag⟩) (h2 : EndAt base 40 w gb F2 G2 c ⟨3, dv, ag⟩) :
    Calls Try.prog 15 #[.pointer (some ⟨ga, 0, none⟩), .pointer (some ⟨gb, 0, none⟩)] w fun e w' => e = .returned (.bool true) ∧ Below w.heap.size w w' := by
  obtain ⟨c0, c1, c2, c3, c4, c5⟩ := h2.cells
  obtain ⟨A, cp, rfl, hc, hr, hb, _⟩ := h2.agr.reads
  have hsz : ag.length ≤ 1000 := h2.ss.2.2
  have hdz : dv.length ≤ 1000 := h2.ss.2.1
  have E1 := Lib.hid h1
  have E2 := Lib.hid h2
  clear h1 h2
  go_enter Try.func15, Try.ntmps15
  go_wp2_with fail
  go_loopw [19] (fun i wr => ∃ f : Nat, f ≤ 6 ∧ i = .int .i64 f ∧ Hid (Below w.heap.size w wr)) (fun i _ => 6 - (intOf i).toNat)
  case atStart => exact ⟨0, by omega, rfl, Lib.hid (Below.refl _ _)⟩
  case round =>
    obtain ⟨f, hf, rfl, HB⟩ := hrel
    by_cases hlt : f < 6
    · obtain ⟨b, hbf⟩ : ∃ b : UInt8, b.toNat = f := ⟨UInt8.ofNat f, by simp; omega⟩
      subst hbf
      have hrw := hr.below HB.out
      go_wp2_with fail
      go_loop [24, 7] (fun i h => ∃ k : Nat, k ≤ ag.length ∧ i = .int .i64 k ∧ h = .bool (inB (ag.take k) b)) (fun i _ => ag.length - (intOf i).toNat)
      case atStart => exact ⟨0, by omega, rfl, by simp [inB]⟩
      case round =>
        obtain ⟨k, hk, rfl, rfl⟩ := hrel
        by_cases hk2 : k < ag.length
        · obtain ⟨ad, v, rfl, _, hx, hcl⟩ := hrw.at_ hk2
          rw [bv_get ag k hk2] at hx
          injection hx with hx
          subst hx
          have hx255 : (ag[k].toNat : Int) ≤ 255 := by have := ag[k].toNat_lt; omega
          have hst := inB_step ag b k hk2
          cases hin : inB (ag.take k) b
          · rw [hin] at hst
            by_cases he : ag[k] = b
            · have HS := Lib.hid (show inB (ag.take (k + 1)) b = true by rw [hst]; simp [he])
              obtain ⟨t1, t2⟩ := teq (show (ag[k].toNat : Int) = (b.toNat : Int) by rw [he])
              clear hst hin he
              go_wp2_with fail
              go_round
              case rel => exact ⟨k + 1, by omega, by go_num, by rw [HS.out]⟩
              case measure => simp [intOf]; omega
            · have HS := Lib.hid (show inB (ag.take (k + 1)) b = false by rw [hst]; simp [he])
              obtain ⟨t1, t2⟩ := tne (u8ne he)
              clear hst hin he
              go_wp2_with fail
              go_round
              case rel => exact ⟨k + 1, by omega, by go_num, by rw [HS.out]⟩
              case measure => simp [intOf]; omega
          · rw [hin] at hst
            have HS := Lib.hid (show inB (ag.take (k + 1)) b = true by rw [hst]; rfl)
            clear hst hin
            go_wp2_with fail
            go_round
            case rel => exact ⟨k + 1, by omega, by go_num, by rw [HS.out]⟩
            case measure => simp [intOf]; omega
        · have hke : k = ag.length := by omega
          subst hke
          rw [List.take_length]
          have HH := Lib.hid (Has_calls b (E1.out.below HB.out))
          have hf3 : fnsOf ⟨3, dv, ag⟩ = ag := rfl
          rw [hf3] at HH
          obtain ⟨bb, hbb⟩ : ∃ v, inB ag b = v := ⟨_, rfl⟩
          rw [hbb] at HH
          rw [hbb]
          clear hbb hf3
          go_wp2_with fail
          refine HH.out.mono ?_
          rintro e w4 ⟨rfl, hb4⟩
          have HB4 := Lib.hid (HB.out.trans (hb4.mono HB.out.size))
          clear hb4
          have hbx : ¬ (bb != bb) = true := by cases bb <;> decide
          cases bb
          all_goals
            go_wp2_with fail
            go_roundw
            case rel => exact ⟨b.toNat + 1, by omega, by go_num, HB4⟩
            case measure => simp [intOf]; omega
    · have HE1 := Lib.hid (E1.out.below HB.out)
      have HE2 := Lib.hid (E2.out.below HB.out)
      obtain ⟨d0, d1, d2, d3, d4, d5⟩ := HE2.out.cells
      go_wp2_with fail
      have HRA := Lib.hid ((hr.below HB.out).more HB.out.size)
      go_region_held3 (fun w' => w'.cell? ⟨gb, 3, none⟩ = some (.int .i64 3) ∧ w'.cell? ⟨gb, 4, none⟩ = some (.string (strOf dv))) (first | go_keep | assumption)
        (first
          | (go_at_call 16; refine (State_calls (HE1.out.drewN _)).mono ?_; rintro e w' ⟨rfl, rfl⟩)
          | (go_at_call 30; refine (Ready_calls (HE1.out.drewN _)).mono ?_; rintro e w' ⟨rfl, rfl⟩)
          | (go_at_call 31; refine (Device_calls (HE1.out.drewN _)).mono ?_; rintro e w' ⟨rfl, rfl⟩)
          | (go_at_call 32; refine (Functions_calls (HE1.out.drewN _)).mono ?_; rintro e w3 ⟨v, rfl, ho, hb⟩; obtain ⟨Av, cv, hv, _, hrv, _, _⟩ := ho.reads; subst hv; have HO := Lib.hid ho; have HB3 := Lib.hid (below_undrew hb); have HRV := Lib.hid hrv; have HRW := Lib.hid ((HRA.out.below HB3.out).more HB3.out.size); have HQ := Lib.hid (HE2.out.below (HB3.out.mono (Nat.le_refl _))); have hk0 := HQ.out.cells.2.2.2.1; have hk1 := HQ.out.cells.2.2.2.2.1; clear hb ho)
          | (go_at_call 14; refine (Same_calls _ _ _ _ _ _ _ ag _ rfl rfl HRV.out HRW.out).mono ?_; rintro e w5 ⟨rfl, rfl⟩))
      rw [show (fnsOf ⟨3, dv, ag⟩ == ag) = true from by simp [fnsOf]]
      go_wp2_with fail
      go_ret
      exact ⟨rfl, HB.out.trans (HB3.out.mono HB.out.size)⟩

set_option maxRecDepth 100000 in
set_option maxHeartbeats 1000000 in
theorem lsameN_calls (base : Nat) (w : World) (ga gb : Nat) (F G F2 G2 : Value) (c : Cfg) (st : Nat) (dv ag : List UInt8) (hst : st ≠ 3) (h1 : EndAt base 55 w ga F G c ⟨st, dv, ag⟩) (h2 : EndAt base 40 w gb F2 G2 c ⟨st, dv, ag⟩) :
    Calls Try.prog 15 #[.pointer (some ⟨ga, 0, none⟩), .pointer (some ⟨gb, 0, none⟩)] w fun e w' => e = .returned (.bool true) ∧ Below w.heap.size w w' := by
  obtain ⟨c0, c1, c2, c3, c4, c5⟩ := h2.cells
  have hs4 : st ≤ 4 := h2.ss.1
  obtain ⟨s1, s2⟩ := tne (show (st : Int) ≠ 3 by omega)
  have HNE := Lib.hid hst
  clear hst
  have hr : RB w none [] := Reads.none_
  have hsz : ag.length ≤ 1000 := h2.ss.2.2
  have hdz : dv.length ≤ 1000 := h2.ss.2.1
  have E1 := Lib.hid h1
  have E2 := Lib.hid h2
  clear h1 h2
  go_enter Try.func15, Try.ntmps15
  go_wp2_with fail
  go_loopw [19] (fun i wr => ∃ f : Nat, f ≤ 6 ∧ i = .int .i64 f ∧ Hid (Below w.heap.size w wr)) (fun i _ => 6 - (intOf i).toNat)
  case atStart => exact ⟨0, by omega, rfl, Lib.hid (Below.refl _ _)⟩
  case round =>
    obtain ⟨f, hf, rfl, HB⟩ := hrel
    by_cases hlt : f < 6
    · obtain ⟨b, hbf⟩ : ∃ b : UInt8, b.toNat = f := ⟨UInt8.ofNat f, by simp; omega⟩
      subst hbf
      go_wp2_with fail
      go_loop [24, 7] (fun i h => i = .int .i64 0 ∧ h = .bool false) (fun _ _ => 0)
      case atStart => exact ⟨rfl, rfl⟩
      case round =>
        obtain ⟨rfl, rfl⟩ := hrel
        · skip
          have HH := Lib.hid (Has_calls b (E1.out.below HB.out))
          rw [show fnsOf ⟨st, dv, ag⟩ = [] from by simp [fnsOf, HNE.out]] at HH
          rw [show inB [] b = false from rfl] at HH
          go_wp2_with fail
          refine HH.out.mono ?_
          rintro e w4 ⟨rfl, hb4⟩
          have HB4 := Lib.hid (HB.out.trans (hb4.mono HB.out.size))
          clear hb4
          go_wp2_with fail
          go_roundw
          case rel => exact ⟨b.toNat + 1, by omega, by go_num, HB4⟩
          case measure => simp [intOf]; omega
    · have HE1 := Lib.hid (E1.out.below HB.out)
      have HE2 := Lib.hid (E2.out.below HB.out)
      obtain ⟨d0, d1, d2, d3, d4, d5⟩ := HE2.out.cells
      go_wp2_with fail
      have HRD := Lib.hid (fun n => Calls.mono (Ready_calls (HE1.out.drewN n)) (R' := fun e w' => e = .returned (.bool false) ∧ wr.drewN n = w') (fun _ _ h => ⟨h.1.trans (ret_bool (by simpa using HNE.out)), h.2⟩))
      have HRA := Lib.hid ((hr.below HB.out).more HB.out.size)
      go_region_held3 (fun w' => w'.cell? ⟨gb, 3, none⟩ = some (.int .i64 (st : Int)) ∧ w'.cell? ⟨gb, 4, none⟩ = some (.string (strOf dv))) (first | go_keep | assumption)
        (first
          | (go_at_call 16; refine (State_calls (HE1.out.drewN _)).mono ?_; rintro e w' ⟨rfl, rfl⟩)
          | (go_at_call 30; refine (HRD.out _).mono ?_; rintro e w' ⟨rfl, rfl⟩)
          | (go_at_call 31; refine (Device_calls (HE1.out.drewN _)).mono ?_; rintro e w' ⟨rfl, rfl⟩)
          | (go_at_call 32; refine (Functions_calls (HE1.out.drewN _)).mono ?_; rintro e w3 ⟨v, rfl, ho, hb⟩; obtain ⟨Av, cv, hv, _, hrv, _, _⟩ := ho.reads; subst hv; have HO := Lib.hid ho; have HB3 := Lib.hid (below_undrew hb); have HRV := Lib.hid hrv; have HRW := Lib.hid ((HRA.out.below HB3.out).more HB3.out.size); have HQ := Lib.hid (HE2.out.below (HB3.out.mono (Nat.le_refl _))); have hk0 := HQ.out.cells.2.2.2.1; have hk1 := HQ.out.cells.2.2.2.2.1; clear hb ho)
          | (go_at_call 14; refine (Same_calls _ _ _ _ _ _ _ [] _ rfl rfl HRV.out HRW.out).mono ?_; rintro e w5 ⟨rfl, rfl⟩))
      rw [show (fnsOf ⟨st, dv, ag⟩).isEmpty = true from by simp [fnsOf, HNE.out]]
      go_wp2_with fail
      go_ret
      exact ⟨rfl, HB.out.trans (HB3.out.mono HB.out.size)⟩

theorem lsame_calls (base : Nat) (w : World) (ga gb : Nat) (F G F2 G2 : Value) (c : Cfg) (s : St) (h1 : EndAt base 55 w ga F G c s) (h2 : EndAt base 40 w gb F2 G2 c s) :
    Calls Try.prog 15 #[.pointer (some ⟨ga, 0, none⟩), .pointer (some ⟨gb, 0, none⟩)] w fun e w' => e = .returned (.bool true) ∧ Below w.heap.size w w' := by
  obtain ⟨st, dv, ag⟩ := s
  by_cases h : st = 3
  · subst h
    exact lsame3_calls base w ga gb F G F2 G2 c dv ag h1 h2
  · exact lsameN_calls base w ga gb F G F2 G2 c st dv ag h h1 h2
end Go.Proofs.Ytfjlgpbplliccaa
