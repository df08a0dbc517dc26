/- The document's texts of steps. -/
import Derived.Test.YtefpobkkldgogaaDoorTuM
import Derived.Test.YtefpobkkldgogaaDoorTaN
namespace Go.Proofs.YtefpobkkldgogaaDoor
open Go.RowKit

theorem and15_fin : ∀ x : Fin 256, bits .and .u8 (x.val : Int) 15 = ((x.val % 16 : Nat) : Int) := by decide +kernel
theorem and15 (b : UInt8) : bits .and .u8 (b.toNat : Int) 15 = ((b.toNat % 16 : Nat) : Int) := and15_fin ⟨b.toNat, b.toNat_lt⟩
def hexS : ByteArray := ⟨#[48, 49, 50, 51, 52, 53, 54, 55, 56, 57, 97, 98, 99, 100, 101, 102]⟩
theorem hexS_cut : ∀ x : Fin 16, (⟨#[48, 49, 50, 51, 52, 53, 54, 55, 56, 57, 97, 98, 99, 100, 101, 102]⟩ : ByteArray).extract x.val (x.val + 1) = strOf [dg x.val] := by decide +kernel
theorem strOf_app (a b : List UInt8) : strOf a ++ strOf b = strOf (a ++ b) := by
  apply Go.WideShapes.bytes_inj
  simp [strOf]
theorem run_add (a b : List UInt8) (h : a.length + b.length ≤ 9223372036854775807) (W : World) : (Op.stringOp .add (strOf a) (strOf b)).run Tryd.prog W = .ok (.string (strOf (a ++ b))) W :=
  (run_string_add_sum (P := Tryd.prog) (w := W) _ _ (by rw [strOf_size, strOf_size]; exact h)).trans (by rw [strOf_app])
theorem run_cut_hex (x : Nat) (hx : x < 16) (k k' : IntKind) (W : World) : (Instr.slice 9 (.string ⟨#[48, 49, 50, 51, 52, 53, 54, 55, 56, 57, 97, 98, 99, 100, 101, 102]⟩) (some (.int k (x : Int))) (some (.int k' ((x : Int) + 1))) none).run Tryd.prog W = .ok (.string (strOf [dg x])) W := by
  rw [run_slice_string W 9 _ k k' (x : Int) ((x : Int) + 1) Tryd.underlying9 (by omega) (by omega) (by rw [show (⟨#[48, 49, 50, 51, 52, 53, 54, 55, 56, 57, 97, 98, 99, 100, 101, 102]⟩ : ByteArray).size = 16 from rfl]; omega)]
  rw [show ((x : Int)).toNat = x by omega, show ((x : Int) + 1).toNat = x + 1 by omega]
  exact congrArg (fun s => Result.ok (Value.string s) W) (hexS_cut ⟨x, hx⟩)
set_option maxRecDepth 100000 in
set_option maxHeartbeats 1000000 in
theorem RHex_calls (A : Option Addr) (n c : Nat) (p : List UInt8) (w : World) (hn : n = p.length) (hr : RB w A p) (hl : p.length ≤ 1000000) :
    Calls Tryd.prog 51 #[.slice A n c] w fun e w' => e = .returned (.string (strOf (hexD p))) ∧ ∃ m, w' = w.drewN m := by
  subst hn
  have HR := Lib.hid hr
  clear hr
  go_enter Tryd.func51, Tryd.ntmps51
  go_wp2_with fail
  go_loopw [3, 8] (fun s i wr => ∃ k : Nat, k ≤ p.length ∧ i = .int .i64 k ∧ s = .string (strOf (hexD (p.take k))) ∧ ∃ m, wr = w.drewN m) (fun _ i _ => p.length - (intOf i).toNat)
  case atStart => exact ⟨0, Nat.zero_le _, rfl, rfl, 0, rfl⟩
  case round =>
    obtain ⟨k, hk, rfl, rfl, m, rfl⟩ := hrel
    by_cases hlt : k < p.length
    · obtain ⟨ad, v, rfl, _, hx, hc⟩ := HR.out.at_ hlt
      rw [bv_get p k hlt] at hx
      injection hx with hx
      subst hx
      have hc' : (w.drewN m).cell? (ad.add k) = some (.int .u8 (p[k].toNat : Int)) := hc
      obtain ⟨b, hb⟩ : ∃ b, p[k] = b := ⟨_, rfl⟩
      rw [hb] at hc'
      have HB := Lib.hid hb
      have hb256 := b.toNat_lt
      clear hc hb
      obtain ⟨h, hh⟩ : ∃ h : Nat, b.toNat / 16 = h := ⟨_, rfl⟩
      obtain ⟨l, hl'⟩ : ∃ l : Nat, b.toNat % 16 = l := ⟨_, rfl⟩
      have h16 : h < 16 := by omega
      have l16 : l < 16 := by omega
      have ha : bits .and .u8 (b.toNat : Int) 15 = (l : Int) := by rw [and15, hl']
      have e0 : (b.toNat : Int) / 16 = (h : Int) := by omega
      have e1 : IntKind.u8.wrap ((h : Int) + 1) = (h : Int) + 1 := by simp [IntKind.wrap, IntKind.signed, IntKind.bits]; omega
      have e2 : IntKind.u8.wrap ((l : Int) + 1) = (l : Int) + 1 := by simp [IntKind.wrap, IntKind.signed, IntKind.bits]; omega
      have q1 := fun W => run_cut_hex h h16 .u8 .u8 W
      have q2 := fun W => run_cut_hex l l16 .u8 .u8 W
      have hdl : (hexD (p.take k)).length ≤ 2000000 := by rw [hexD_len]; simp; omega
      have q3 := fun W => run_add [dg h] [dg l] (by simp) W
      have q4 := fun W => run_add (hexD (p.take k)) [dg h, dg l] (by simp; omega) W
      have HH := Lib.hid hh
      have HL := Lib.hid hl'
      clear hh hl' hdl
      go_wp2_with fail
      go_quiet (fail)
      go_wp2_with fail
      go_roundw
      case rel =>
        refine ⟨k + 1, by omega, by go_num, ?_, m + nq, rfl⟩
        rw [List.take_succ_eq_append_getElem hlt, HB.out, hexD_append]
        show Value.string _ = .string (strOf (hexD (p.take k) ++ [dg (b.toNat / 16), dg (b.toNat % 16)]))
        rw [HH.out, HL.out]
      case measure => simp [intOf]; omega
    · have : k = p.length := by omega
      subst this
      go_wp2_with fail
      go_ret
      exact ⟨by rw [show p.take p.length = p from List.take_length]; rfl, m, rfl⟩
end Go.Proofs.YtefpobkkldgogaaDoor
