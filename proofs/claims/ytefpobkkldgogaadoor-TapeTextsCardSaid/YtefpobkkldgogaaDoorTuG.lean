/- The program's bytes as letters. -/
import Derived.Test.YtefpobkkldgogaaDoorTuE
import Derived.Test.YtefpobkkldgogaaDoorBld
import Derived.Test.YtefpobkkldgogaaDoorTaG
namespace Go.Proofs.YtefpobkkldgogaaDoor
open Go.RowKit Go.Lib

theorem hexS_fin : ∀ x : Fin 16, (⟨#[48, 49, 50, 51, 52, 53, 54, 55, 56, 57, 97, 98, 99, 100, 101, 102]⟩ : ByteArray)[x.val]'(x.isLt) = dg x.val := by decide +kernel
theorem hexS_at {x : Nat} (h : x < 16) (hp : x < (⟨#[48, 49, 50, 51, 52, 53, 54, 55, 56, 57, 97, 98, 99, 100, 101, 102]⟩ : ByteArray).size) : (⟨#[48, 49, 50, 51, 52, 53, 54, 55, 56, 57, 97, 98, 99, 100, 101, 102]⟩ : ByteArray)[x]'hp = dg x := hexS_fin ⟨x, h⟩
theorem byteCells_bv (l : List UInt8) : Lib.byteCells l = bv l := rfl
set_option maxRecDepth 100000 in
set_option maxHeartbeats 2000000 in
theorem shown_calls (A : Option Addr) (n c : Nat) (p : List UInt8) (w : World) (hn : n = p.length) (hr : RB w A p) (hl : p.length ≤ 100000) :
    Calls Tryd.prog 32 #[.slice A n c] w fun e w' => e = .returned (.string (strOf (hexOf p))) ∧ Below w.heap.size w w' := by
  subst hn
  have HR := Lib.hid hr
  clear hr
  by_cases h0 : p = []
  · subst h0
    go_enter Tryd.func32, Tryd.ntmps32
    go_wp2_with fail
    go_ret
    exact ⟨rfl, Below.refl _ _⟩
  · have hl0 : 0 < p.length := List.length_pos_iff.2 h0
    have HO := Lib.hid (show hexOf p = hexD p by unfold hexOf; rw [if_neg h0])
    have t0 : ((p.length : Int) == 0) = false := by simp; omega
    have HB0 := Lib.hid (Bld.new w w.heap.size (Nat.le_refl _))
    clear h0
    go_enter Tryd.func32, Tryd.ntmps32
    go_wp2_with fail
    go_loopw [11] (fun i wr => ∃ k : Nat, k ≤ p.length ∧ i = .int .i64 k ∧ BldI w.heap.size w.heap.size (hexD (p.take k)) wr ∧ Below w.heap.size w wr) (fun i _ => p.length - (RowKit.intOf i).toNat)
    case atStart => exact ⟨0, Nat.zero_le _, rfl, HB0.out, (Below.refl _ w).alloc (Nat.le_refl _) _⟩
    case round =>
      obtain ⟨k, hk, rfl, hbl, hb⟩ := hrel
      have HBL := Lib.hid hbl
      have HB := Lib.hid hb
      clear hbl hb
      by_cases hlt : k < p.length
      · obtain ⟨ad, v, rfl, _, hx, hc⟩ := (HR.out.below HB.out).at_ hlt
        rw [bv_get p k hlt] at hx
        injection hx with hx
        subst hx
        obtain ⟨b, hb⟩ : ∃ b, p[k] = b := ⟨_, rfl⟩
        rw [hb] at hc
        have HBB := Lib.hid hb
        have hb256 := b.toNat_lt
        clear hb
        obtain ⟨h, hh⟩ : ∃ h : Nat, b.toNat / 16 = h := ⟨_, rfl⟩
        obtain ⟨l, hl'⟩ : ∃ l : Nat, b.toNat % 16 = l := ⟨_, rfl⟩
        have h16 : h < 16 := by omega
        have l16 : l < 16 := by omega
        have ha : bits .and .u8 (b.toNat : Int) 15 = (l : Int) := by rw [and15, hl']
        have e0 : (b.toNat : Int) / 16 = (h : Int) := by omega
        have HH := Lib.hid hh
        have HL := Lib.hid hl'
        have hdl : (hexD (p.take k)).length ≤ 200000 := by rw [hexD_len]; simp; omega
        have g1 := hexS_at h16
        have g2 := hexS_at l16
        clear hh hl'
        go_wp2_with fail
        refine (WriteByte_calls w.heap.size w.heap.size _ (dg h) wr HBL.out (by omega) HB.out.size).mono ?_
        rintro e w1 ⟨rfl, hbl1, hb1⟩
        have HBL1 := Lib.hid hbl1
        have HB1 := Lib.hid (HB.out.trans hb1)
        clear hbl1 hb1
        go_wp2_with fail
        refine (WriteByte_calls w.heap.size w.heap.size _ (dg l) w1 HBL1.out (by simp; omega) HB1.out.size).mono ?_
        rintro e w2 ⟨rfl, hbl2, hb2⟩
        have HBL2 := Lib.hid hbl2
        have HB2 := Lib.hid (HB1.out.trans hb2)
        clear hbl2 hb2
        go_wp2_with fail
        go_roundw
        case rel =>
          refine ⟨k + 1, by omega, by go_num, ?_, HB2.out⟩
          rw [List.take_succ_eq_append_getElem hlt, HBB.out, hexD_append]
          have := HBL2.out
          rw [List.append_assoc] at this
          rw [show hexD [b] = [dg (b.toNat / 16), dg (b.toNat % 16)] from rfl, HH.out, HL.out]
          exact this
        case measure => simp [RowKit.intOf]; omega
      · have : k = p.length := by omega
        subst this
        have HS := Lib.hid (Tryd.Builder_String_any w.heap.size w.heap.size (hexD (p.take p.length)) wr HBL.out HB.out.size)
        go_wp2_with fail
        refine HS.out.mono ?_
        rintro e w1 ⟨rfl, hb1⟩
        have HB1 := Lib.hid (HB.out.trans hb1)
        clear hb1
        go_wp2_with fail
        go_ret
        exact ⟨by rw [HO.out]; rfl, HB1.out⟩
end Go.Proofs.YtefpobkkldgogaaDoor
