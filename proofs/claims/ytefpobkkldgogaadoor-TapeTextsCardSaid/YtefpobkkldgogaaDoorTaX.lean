/- Steps alike. -/
import Derived.Test.YtefpobkkldgogaaDoorTaW
namespace Go.Proofs.YtefpobkkldgogaaDoor
open Go.RowKit

def okStp (x y : Stp) : Prop := x.kind = y.kind ∧ (x.kind = 75 → x.k1 = y.k1 ∧ x.k2 = y.k2 ∧ x.k3 = y.k3) ∧ (x.kind = 72 ∨ x.kind = 79 → x.bytes = y.bytes)
set_option maxRecDepth 100000 in
set_option maxHeartbeats 2000000 in
theorem RSame_calls (A1 A2 : Option Addr) (n c1 c2 : Nat) (ps qs : List (Stp × Value)) (w : World) (h1 : StR w A1 n ps) (h2 : StR w A2 n qs) (hn : n ≤ 1000000) (hok : ∀ (k : Nat) x u y v, ps[k]? = some (x, u) → qs[k]? = some (y, v) → okStp x y) :
    Calls Tryd.prog 9 #[.slice A1 n c1, .slice A2 n c2] w fun e w' => e = .returned (.bool true) ∧ Below w.heap.size w w' := by
  have H1 := Lib.hid h1
  have H2 := Lib.hid h2
  have HOK := Lib.hid hok
  clear h1 h2 hok
  go_enter Tryd.func9, Tryd.ntmps9
  go_wp2_with fail
  go_loopw [15] (fun i wr => ∃ k : Nat, k ≤ n ∧ i = .int .i64 k ∧ Below w.heap.size w wr) (fun i _ => n - (intOf i).toNat)
  case atStart => exact ⟨0, Nat.zero_le _, rfl, Below.refl _ _⟩
  case round =>
    obtain ⟨k, hk, rfl, hb⟩ := hrel
    have HB := Lib.hid hb
    clear hb
    by_cases hlt : k < n
    · obtain ⟨ad, x, u, rfl, hadb, hp, hel, a0, a1, a2, a3, a4⟩ := H1.out.cells hlt
      obtain ⟨bd, y, v, rfl, hbdb, hq, hem, b0, b1, b2, b3, b4⟩ := H2.out.cells hlt
      have hok := HOK.out k x u y v hp hq
      obtain ⟨kx, bx, x1, x2, x3⟩ := x
      obtain ⟨ky, bY, y1, y2, y3⟩ := y
      obtain ⟨hk1, hk2, hk3⟩ := hok
      simp only at hk1 hk2 hk3 a0 a1 a2 a3 a4 b0 b1 b2 b3 b4 hel hem
      subst hk1
      have c0 := (HB.out.cell (World.block_lt_of_cell? _ _ a0)).trans a0
      have c1 := (HB.out.cell (World.block_lt_of_cell? _ _ a1)).trans a1
      have c2 := (HB.out.cell (World.block_lt_of_cell? _ _ a2)).trans a2
      have c3 := (HB.out.cell (World.block_lt_of_cell? _ _ a3)).trans a3
      have c4 := (HB.out.cell (World.block_lt_of_cell? _ _ a4)).trans a4
      have d0 := (HB.out.cell (World.block_lt_of_cell? _ _ b0)).trans b0
      have d1 := (HB.out.cell (World.block_lt_of_cell? _ _ b1)).trans b1
      have d2 := (HB.out.cell (World.block_lt_of_cell? _ _ b2)).trans b2
      have d3 := (HB.out.cell (World.block_lt_of_cell? _ _ b3)).trans b3
      have d4 := (HB.out.cell (World.block_lt_of_cell? _ _ b4)).trans b4
      have hsz := HB.out.size
      have hadb' : (ad.add (k * 5)).block < wr.heap.size := by rw [block_of_add]; omega
      have hbdb' : (bd.add (k * 5)).block < wr.heap.size := by rw [block_of_add]; omega
      have HEL := Lib.hid (hel.below HB.out)
      have HEM := Lib.hid (hem.below HB.out)
      obtain ⟨ua, uc, rfl, _, _⟩ := hel
      obtain ⟨va, vc, rfl, _, _⟩ := hem
      clear a0 a1 a2 a3 a4 b0 b1 b2 b3 b4 hp hq
      have HR1 : Hid (∀ W, Below w.heap.size wr W → RB W ua bx) := Lib.hid (fun W hW => by
        obtain ⟨A, c, he, _, hr⟩ := HEL.out
        injection he with hA _ _
        subst hA
        exact (hr.below hW).more (Nat.le_trans hsz hW.size))
      have HR2 : Hid (∀ W, Below w.heap.size wr W → RB W va bY) := Lib.hid (fun W hW => by
        obtain ⟨A, c, he, _, hr⟩ := HEM.out
        injection he with hA _ _
        subst hA
        exact (hr.below hW).more (Nat.le_trans hsz hW.size))
      have HBL : Hid (∀ o1 o2, Below w.heap.size wr ((wr.alloc o1).alloc o2).drew) := Lib.hid (fun o1 o2 => ((((Below.refl _ wr)).alloc hsz o1).alloc (by simp; omega) o2).drew)
      have HK2 := Lib.hid hk2
      have HK3 := Lib.hid hk3
      clear hk2 hk3
      have tk : ∀ c : UInt8, ((kx.toNat : Int) == (c.toNat : Int)) = decide (kx = c) := fun c => by
        rw [Bool.eq_iff_iff]
        simp only [beq_iff_eq, decide_eq_true_eq]
        exact ⟨fun h => UInt8.toNat_inj.1 (by omega), fun h => by rw [h]⟩
      by_cases h75 : kx = 75
      · obtain ⟨rfl, rfl, rfl⟩ := HK2.out h75
        have t75 : ((kx.toNat : Int) == 75) = true := (tk 75).trans (by simp [h75])
        have t72 : ((kx.toNat : Int) == 72) = false := (tk 72).trans (by simp [h75])
        have t79 : ((kx.toNat : Int) == 79) = false := (tk 79).trans (by simp [h75])
        clear tk h75
        go_wp2_with fail
        go_region
        all_goals
          go_wp2_with fail
          go_round
          case rel => exact ⟨k + 1, by omega, by go_num, HB.out.trans (HBL.out _ _)⟩
          case measure => simp [intOf]; omega
      · have t75 : ((kx.toNat : Int) == 75) = false := (tk 75).trans (by simp [h75])
        by_cases hho : kx = 72 ∨ kx = 79
        · have hbb := HK3.out hho
          subst hbb
          have hor : ((kx.toNat : Int) == 72) = true ∨ (((kx.toNat : Int) == 72) = false ∧ ((kx.toNat : Int) == 79) = true) := by
            rcases hho with h | h
            · exact .inl ((tk 72).trans (by simp [h]))
            · exact .inr ⟨(tk 72).trans (by simp [h]), (tk 79).trans (by simp [h])⟩
          clear tk h75 hho
          rcases hor with t72 | ⟨t72, t79⟩
          all_goals
            go_wp2_with fail
            go_region
            all_goals
              go_wp2_with fail
              refine (Same_calls ua va _ uc _ vc bx bx _ rfl rfl (HR1.out _ (HBL.out _ _)) (HR2.out _ (HBL.out _ _))).mono ?_
              rintro e w9 ⟨rfl, rfl⟩
              have hbe : (bx == bx) = true := by simp
              rw [hbe]
              go_wp2_with fail
              go_round
              case rel => exact ⟨k + 1, by omega, by go_num, HB.out.trans (HBL.out _ _)⟩
              case measure => simp [intOf]; omega
        · have t72 : ((kx.toNat : Int) == 72) = false := (tk 72).trans (by simp; exact fun h => hho (.inl h))
          have t79 : ((kx.toNat : Int) == 79) = false := (tk 79).trans (by simp; exact fun h => hho (.inr h))
          clear tk h75 hho
          go_wp2_with fail
          go_region
          all_goals
            go_wp2_with fail
            go_round
            case rel => exact ⟨k + 1, by omega, by go_num, HB.out.trans (HBL.out _ _)⟩
            case measure => simp [intOf]; omega
    · obtain rfl : k = n := by omega
      go_wp2_with fail
      go_ret
      exact ⟨rfl, HB.out⟩
end Go.Proofs.YtefpobkkldgogaaDoor
