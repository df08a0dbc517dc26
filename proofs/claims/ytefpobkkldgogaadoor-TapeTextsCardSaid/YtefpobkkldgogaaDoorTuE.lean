/- The document's digits of a number. -/
import Derived.Test.YtefpobkkldgogaaDoorTuD
namespace Go.Proofs.YtefpobkkldgogaaDoor
open Go.RowKit Go.Lib
theorem tenS_cut : ∀ x : Fin 10, (⟨#[48, 49, 50, 51, 52, 53, 54, 55, 56, 57]⟩ : ByteArray).extract x.val (x.val + 1) = strOf [dg x.val] := by decide +kernel
theorem run_cut_ten (x : Nat) (hx : x < 10) (k k' : IntKind) (W : World) : (Instr.slice 9 (.string ⟨#[48, 49, 50, 51, 52, 53, 54, 55, 56, 57]⟩) (some (.int k (x : Int))) (some (.int k' ((x : Int) + 1))) none).run Tryd.prog W = .ok (.string (strOf [dg x])) W := by
  rw [run_slice_string W 9 _ k k' (x : Int) ((x : Int) + 1) Tryd.underlying9 (by omega) (by omega) (by rw [show (⟨#[48, 49, 50, 51, 52, 53, 54, 55, 56, 57]⟩ : ByteArray).size = 10 from rfl]; omega)]
  rw [show ((x : Int)).toNat = x by omega, show ((x : Int) + 1).toNat = x + 1 by omega]
  exact congrArg (fun s => Result.ok (Value.string s) W) (tenS_cut ⟨x, hx⟩)
theorem decD_small {u : Nat} (h : u < 10) : decDigits u = [dg u] := by rw [decDigits, dif_pos h, dg, if_pos h]
theorem dec_big' {u : Nat} (h : ¬ u < 10) : decDigits u = decDigits (u / 10) ++ [dg (u % 10)] := by rw [dec_big h, dg, if_pos (by omega)]
theorem decD_len20 {u : Nat} (h : u ≤ 9223372036854775808) : (decDigits u).length ≤ 19 := dec_19 (by omega)
set_option maxRecDepth 100000 in
set_option maxHeartbeats 1000000 in
theorem DecN_calls : ∀ (k u : Nat), u ≤ k → u ≤ 9223372036854775807 → ∀ w, Calls Tryd.prog 36 #[.int .i64 (u : Int)] w fun e w' => e = .returned (.string (strOf (decDigits u))) ∧ w = w' := by
  intro k
  induction k with
  | zero =>
    intro u hu _ w
    obtain rfl : u = 0 := by omega
    have q1 := fun W => run_cut_ten 0 (by omega) .i64 .i64 W
    go_enter Tryd.func36, Tryd.ntmps36
    go_wp2_with fail
    go_ret
    exact ⟨by rw [decD_small (by omega)]; rfl, rfl⟩
  | succ k ih =>
    intro u hu hm w
    by_cases h10 : u < 10
    · have q1 := fun W => run_cut_ten u h10 .i64 .i64 W
      have HS := Lib.hid (decD_small h10)
      clear ih
      go_enter Tryd.func36, Tryd.ntmps36
      go_wp2_with fail
      go_ret
      exact ⟨by rw [HS.out]; rfl, rfl⟩
    · obtain ⟨q, hq⟩ : ∃ q : Nat, u / 10 = q := ⟨_, rfl⟩
      obtain ⟨r, hr⟩ : ∃ r : Nat, u % 10 = r := ⟨_, rfl⟩
      have e1 : (u : Int) / 10 = (q : Int) := by omega
      have e2 : (u : Int) % 10 = (r : Int) := by omega
      have H1 := Lib.hid (fun W => ih q (by omega) (by omega) W)
      have H2 := Lib.hid (fun W => ih r (by omega) (by omega) W)
      have hdb := dec_big' h10
      rw [hq, hr] at hdb
      have hl1 := decD_len20 (u := q) (by omega)
      have hl2 := decD_len20 (u := r) (by omega)
      have q3 := fun W => run_add (decDigits q) (decDigits r) (by omega) W
      have HDB := Lib.hid hdb
      have HR := Lib.hid (decD_small (u := r) (by omega))
      clear ih hdb hq hr hl1 hl2
      go_enter Tryd.func36, Tryd.ntmps36
      go_wp2_with fail
      refine (H1.out _).mono ?_
      rintro e w' ⟨rfl, rfl⟩
      go_wp2_with fail
      refine (H2.out _).mono ?_
      rintro e w' ⟨rfl, rfl⟩
      go_wp2_with fail
      go_ret
      exact ⟨by rw [HDB.out, ← HR.out]; rfl, rfl⟩
set_option maxRecDepth 100000 in
set_option maxHeartbeats 1000000 in
theorem neg_calls (u : Nat) (h1 : 1 ≤ u) (h2 : u ≤ 9223372036854775808) (w : World) : Calls Tryd.prog 52 #[.int .i64 (-(u : Int))] w fun e w' => e = .returned (.string (strOf (decDigits u))) ∧ ∃ m, w' = w.drewN m := by
  obtain ⟨r, hr⟩ : ∃ r : Nat, u % 10 = r := ⟨_, rfl⟩
  have hr10 : r < 10 := by omega
  have e1 : (u : Int) % 10 = (r : Int) := by omega
  have q1 := fun W => run_cut_ten r hr10 .i64 .i64 W
  by_cases h10 : u < 10
  · have hu : r = u := by omega
    have HS := Lib.hid (decD_small h10)
    rw [hu] at e1 q1
    clear hr hu
    go_enter Tryd.func52, Tryd.ntmps52
    go_wp2_with fail
    go_ret
    exact ⟨by rw [HS.out]; rfl, 0, rfl⟩
  · obtain ⟨q, hq⟩ : ∃ q : Nat, u / 10 = q := ⟨_, rfl⟩
    have e2 : (u : Int) / 10 = (q : Int) := by omega
    have H1 := Lib.hid (fun W => DecN_calls q q (Nat.le_refl _) (by omega) W)
    have hdb := dec_big' h10
    rw [hq, hr] at hdb
    have hl1 := decD_len20 (u := q) (by omega)
    have q3 := fun W => run_add (decDigits q) [dg r] (by simp; omega) W
    have HDB := Lib.hid hdb
    clear hr hq hdb hl1
    go_enter Tryd.func52, Tryd.ntmps52
    go_wp2_with fail
    go_quiet ((go_at_call 36; exact quiet_left (H1.out _)))
    go_wp2_with fail
    go_ret
    exact ⟨by rw [HDB.out]; rfl, nq, rfl⟩
/-- both signs -/
theorem Dec_calls (v : Int) (h1 : -9223372036854775808 ≤ v) (h2 : v ≤ 9223372036854775807) (w : World) : Calls Tryd.prog 36 #[.int .i64 v] w fun e w' => e = .returned (.string (strOf (itoa v))) ∧ ∃ m, w' = w.drewN m := by
  by_cases hv : v < 0
  · obtain ⟨u, rfl⟩ : ∃ u : Nat, v = -(u : Int) := ⟨v.natAbs, by omega⟩
    have HN := Lib.hid (fun W => neg_calls u (by omega) (by omega) W)
    have hl1 := decD_len20 (u := u) (by omega)
    have q3 : ∀ W, (Op.stringOp .add (⟨#[45]⟩ : ByteArray) (strOf (decDigits u))).run Tryd.prog W = .ok (.string (strOf (45 :: decDigits u))) W := fun W => run_add [45] (decDigits u) (by simp; omega) W
    have hi : itoa (-(u : Int)) = 45 :: decDigits u := by rw [itoa_neg hv]; simp
    have HI := Lib.hid hi
    have hlt : (0 : Int) < (u : Int) := by omega
    clear hi hl1 hv
    go_enter Tryd.func36, Tryd.ntmps36
    go_wp2_with fail
    refine (HN.out _).mono ?_
    rintro e w' ⟨rfl, m, rfl⟩
    go_wp2_with fail
    go_ret
    exact ⟨by rw [HI.out]; rfl, m, rfl⟩
  · obtain ⟨u, rfl⟩ : ∃ u : Nat, v = (u : Int) := ⟨v.toNat, by omega⟩
    refine (DecN_calls u u (Nat.le_refl _) (by omega) w).mono ?_
    rintro e w' ⟨rfl, rfl⟩
    exact ⟨by rw [itoa_pos hv]; rfl, 0, rfl⟩
end Go.Proofs.YtefpobkkldgogaaDoor
