/- The document's numbers. -/
import Derived.Test.YtefpobkkldgogaaDoorTaF
namespace Go.Proofs.YtefpobkkldgogaaDoor
open Go.RowKit

def RNumRet (r : Option Int) (w : World) (e : Ending) (w' : World) : Prop :=
  w = w' ∧ ∃ n, e = .returned (.tuple #[.int .i64 n, .bool r.isSome]) ∧ -9223372036854775808 ≤ n ∧ n ≤ 9223372036854775807 ∧ ∀ v, r = some v → n = v
theorem strOf_tail (c : UInt8) (d : List UInt8) (n : Nat) (hn : n = d.length + 1) : (strOf (c :: d)).extract 1 n = strOf d := by
  subst hn
  rw [strOf_extract, List.take_of_length_le (by simp)]
  rfl
def big : Nat := 9223372036854775808
theorem big_eq : big = 2 ^ 63 := by decide
/-- what holds of the digits ahead of place k -/
def DigAt (d : List UInt8) (k : Nat) : Prop := (d.take k).all isDig = true ∧ valF 0 (d.take k) ≤ big
theorem DigAt.zero (d : List UInt8) : DigAt d 0 := ⟨rfl, Nat.zero_le _⟩
theorem DigAt.step {d : List UInt8} {k : Nat} (h : DigAt d k) (hk : k < d.length) : valF 0 (d.take (k + 1)) = valF 0 (d.take k) * 10 + (d[k].toNat - 48) := by
  rw [List.take_succ_eq_append_getElem hk, valF_app]
  rfl
theorem DigAt.next {d : List UInt8} {k : Nat} (h : DigAt d k) (hk : k < d.length) (h1 : 48 ≤ d[k].toNat) (h2 : d[k].toNat ≤ 57) (h3 : valF 0 (d.take k) * 10 + (d[k].toNat - 48) ≤ big) : DigAt d (k + 1) := by
  refine ⟨?_, by rw [h.step hk]; exact h3⟩
  rw [List.take_succ_eq_append_getElem hk, List.all_append, h.1]
  simp [isDig_iff, h1, h2]
theorem DigAt.far {d : List UInt8} {k : Nat} (h : DigAt d k) (hk : k < d.length) (h3 : big < valF 0 (d.take k) * 10 + (d[k].toNat - 48)) : big < valF 0 d := by
  rw [← h.step hk] at h3
  have h4 : valF 0 d = valF (valF 0 (d.take (k + 1))) (d.drop (k + 1)) := by
    conv => lhs; rw [← List.take_append_drop (k + 1) d]
    rw [valF_app]
  rw [h4]
  exact Nat.lt_of_lt_of_le h3 (valF_ge _ _)
theorem DigAt.all_ {d : List UInt8} (h : DigAt d d.length) : d.all isDig = true ∧ valF 0 d ≤ big := by
  unfold DigAt at h
  rw [List.take_length] at h
  exact h
theorem refneg_dig {lo hi : Int} {d : List UInt8} (h : d.all isDig = false) : refNum lo hi (45 :: d) = none := by
  unfold refNum
  rw [if_pos (by rfl), if_pos (.inr (.inr (.inr (.inl h))))]
theorem refneg_far {lo hi : Int} {d : List UInt8} (h : big < valF 0 d) : refNum lo hi (45 :: d) = none := by
  rw [big_eq] at h
  unfold refNum
  rw [if_pos (by rfl), if_pos (.inr (.inr (.inr (.inr h))))]
theorem refneg_ok {lo hi : Int} {d : List UInt8} (h1 : 1 ≤ d.length) (h2 : d.length ≤ 19) (h3 : ¬ d.head? = some 48) (h : DigAt d d.length) : refNum lo hi (45 :: d) = if lo ≤ -(valF 0 d : Int) then some (-(valF 0 d : Int)) else none := by
  have h4 := h.all_
  rw [big_eq] at h4
  unfold refNum
  rw [if_pos (by rfl), if_neg]
  · rfl
  · simp only [List.drop_succ_cons, List.drop_zero, not_or, Bool.not_eq_false]
    refine ⟨fun e => by rw [e] at h1; simp at h1, by omega, h3, h4.1, by omega⟩
theorem refpos_dig {lo hi : Int} {d : List UInt8} (h0 : ¬ d.head? = some 45) (h : d.all isDig = false) : refNum lo hi d = none := by
  unfold refNum
  rw [if_neg h0, if_pos (.inr (.inr (.inr (.inl h))))]
theorem refpos_far {lo hi : Int} {d : List UInt8} (h0 : ¬ d.head? = some 45) (h : big < valF 0 d) : refNum lo hi d = none := by
  rw [big_eq] at h
  unfold refNum
  rw [if_neg h0, if_pos (.inr (.inr (.inr (.inr h))))]
theorem refpos_ok {lo hi : Int} {d : List UInt8} (h0 : ¬ d.head? = some 45) (h1 : 1 ≤ d.length) (h2 : d.length ≤ 19) (h3 : d.head? = some 48 → d.length ≤ 1) (h : DigAt d d.length) : refNum lo hi d = if valF 0 d = big ∨ hi < (valF 0 d : Int) then none else some (valF 0 d : Int) := by
  have h4 := h.all_
  rw [big_eq] at h4 ⊢
  unfold refNum
  rw [if_neg h0, if_neg]
  simp only [not_or, Bool.not_eq_false]
  refine ⟨fun e => by rw [e] at h1; simp at h1, by omega, fun ⟨a, b⟩ => by have := h3 a; omega, h4.1, by omega⟩
/-- the test ahead of the next digit -/
theorem over_iff (V c : Nat) (h1 : 48 ≤ c) (h2 : c ≤ 57) : (-(V : Int) < (-9223372036854775808 + ((c : Int) - 48)).tdiv 10) ↔ big < V * 10 + (c - 48) := by
  unfold big
  obtain rfl | rfl | rfl | rfl | rfl | rfl | rfl | rfl | rfl | rfl : c = 48 ∨ c = 49 ∨ c = 50 ∨ c = 51 ∨ c = 52 ∨ c = 53 ∨ c = 54 ∨ c = 55 ∨ c = 56 ∨ c = 57 := by omega
  all_goals first
    | (rw [show (-9223372036854775808 + (((_ : Nat) : Int) - 48)).tdiv 10 = -922337203685477580 from by decide]; omega)
    | (rw [show (-9223372036854775808 + (((57 : Nat) : Int) - 48)).tdiv 10 = -922337203685477579 by decide]; omega)
theorem not_dig {d : List UInt8} {k : Nat} (hk : k < d.length) (h : d[k].toNat < 48 ∨ 57 < d[k].toNat) : d.all isDig = false := by
  rw [List.all_eq_false]
  refine ⟨d[k], List.getElem_mem _, ?_⟩
  rw [isDig_iff]
  omega
set_option maxRecDepth 100000 in
set_option maxHeartbeats 1000000 in
theorem RNumber_neg (d : List UInt8) (w : World) (lo hi : Int) (hl : d.length ≤ 1000000) (h1 : 1 ≤ d.length) (h2 : d.length ≤ 19) (h3 : ¬ d.head? = some 48) :
    Calls Tryd.prog 27 #[.string (strOf (45 :: d)), .int .i64 lo, .int .i64 hi] w (RNumRet (refNum lo hi (45 :: d)) w) := by
  have hex := strOf_tail 45 d (d.length + 1) rfl
  have t1 : ((d[0].toNat : Int) == 48) = false := by
    simp only [beq_eq_false_iff_ne, ne_eq]
    intro e
    apply h3
    rw [List.head?_eq_getElem?, List.getElem?_eq_getElem h1]
    congr 1
    exact UInt8.toNat_inj.1 (by show _ = 48; omega)
  have H3 := Lib.hid h3
  clear h3
  go_enter Tryd.func27, Tryd.ntmps27
  go_wp2_with fail
  go_loop [10, 11] (fun n i => ∃ k : Nat, k ≤ d.length ∧ i = .int .i64 k ∧ n = .int .i64 (-(valF 0 (d.take k) : Int)) ∧ DigAt d k) (fun _ i => d.length - (intOf i).toNat)
  case atStart => exact ⟨0, Nat.zero_le _, rfl, rfl, DigAt.zero d⟩
  case round =>
    obtain ⟨k, hk, rfl, rfl, hat⟩ := hrel
    have hv63 := hat.2
    unfold big at hv63
    obtain ⟨V, hV⟩ : ∃ V, valF 0 (d.take k) = V := ⟨_, rfl⟩
    rw [hV] at hv63 ⊢
    have HAT := Lib.hid hat
    have HVV := Lib.hid hV
    clear hat hV
    by_cases hlt : k < d.length
    · by_cases hd : d[k].toNat < 48 ∨ 57 < d[k].toNat
      · have HN := Lib.hid (refneg_dig (lo := lo) (hi := hi) (not_dig hlt hd))
        go_wp2_with fail
        all_goals
          go_ret2
          exact ⟨rfl, 0, by rw [HN.out]; rfl, by decide, by decide, fun v h => by rw [HN.out] at h; cases h⟩
      · have h1 : 48 ≤ d[k].toNat := by omega
        have h2 : d[k].toNat ≤ 57 := by omega
        clear hd
        have hx : d[k].toNat - 48 ≤ 9 := by omega
        by_cases hov : big < V * 10 + (d[k].toNat - 48)
        · have hT := (over_iff V d[k].toNat h1 h2).2 hov
          have HN := Lib.hid (refneg_far (lo := lo) (hi := hi) (HAT.out.far hlt (by rw [HVV.out]; exact hov)))
          clear hov
          go_wp2_with fail
          go_ret2
          exact ⟨rfl, 0, by rw [HN.out]; rfl, by decide, by decide, fun v h => by rw [HN.out] at h; cases h⟩
        · have hT : ¬ (-(V : Int) < (-9223372036854775808 + ((d[k].toNat : Int) - 48)).tdiv 10) := fun h => hov ((over_iff V d[k].toNat h1 h2).1 h)
          have HA := Lib.hid (HAT.out.next hlt h1 h2 (by rw [HVV.out]; omega))
          have HS := Lib.hid (HAT.out.step hlt)
          have hb : V * 10 + (d[k].toNat - 48) ≤ 9223372036854775808 := by unfold big at hov; omega
          clear hov
          go_wp2_with fail
          go_round
          case rel => exact ⟨k + 1, by omega, by go_num, int_eq (by rw [HS.out, HVV.out]; omega), HA.out⟩
          case measure => simp [intOf]; omega
    · have hke : k = d.length := by omega
      subst hke
      have HN := Lib.hid (refneg_ok (lo := lo) (hi := hi) (by omega) (by omega) H3.out HAT.out)
      have hvd : valF 0 d = V := by rw [← HVV.out, List.take_length]
      have HVD := Lib.hid hvd
      clear hvd
      go_wp2_with fail
      go_ret2
      refine ⟨rfl, -(V : Int), ?_, by omega, by omega, fun v h => ?_⟩
      · rw [HN.out, HVD.out]
        by_cases hlo : lo ≤ -(V : Int) <;> simp [hlo]
      · rw [HN.out, HVD.out] at h
        split at h
        · exact Option.some.inj h
        · cases h
set_option maxRecDepth 100000 in
set_option maxHeartbeats 1000000 in
theorem RNumber_pos (d : List UInt8) (w : World) (lo hi : Int) (hl : d.length ≤ 1000000) (h1 : 1 ≤ d.length) (h2 : d.length ≤ 19) (h0 : ¬ d.head? = some 45) (h3 : d.head? = some 48 → d.length ≤ 1) :
    Calls Tryd.prog 27 #[.string (strOf d), .int .i64 lo, .int .i64 hi] w (RNumRet (refNum lo hi d) w) := by
  have H0 := Lib.hid h0
  have t0 : ((d[0].toNat : Int) == 45) = false := by
    simp only [beq_eq_false_iff_ne, ne_eq]
    intro e
    apply h0
    rw [List.head?_eq_getElem?, List.getElem?_eq_getElem h1]
    congr 1
    exact UInt8.toNat_inj.1 (by show _ = 45; omega)
  clear h0
  have H3 := Lib.hid h3
  clear h3
  by_cases hz : d[0].toNat = 48
  · have hl1 : d.length ≤ 1 := H3.out (by rw [List.head?_eq_getElem?, List.getElem?_eq_getElem h1]; congr 1; exact UInt8.toNat_inj.1 hz)
    have t1 : ((d[0].toNat : Int) == 48) = true := by simp; omega
    clear hz
    go_enter Tryd.func27, Tryd.ntmps27
    go_wp2_with fail
    go_loop [10, 11] (fun n i => ∃ k : Nat, k ≤ d.length ∧ i = .int .i64 k ∧ n = .int .i64 (-(valF 0 (d.take k) : Int)) ∧ DigAt d k) (fun _ i => d.length - (intOf i).toNat)
    case atStart => exact ⟨0, Nat.zero_le _, rfl, rfl, DigAt.zero d⟩
    case round =>
      obtain ⟨k, hk, rfl, rfl, hat⟩ := hrel
      have hv63 := hat.2
      unfold big at hv63
      obtain ⟨V, hV⟩ : ∃ V, valF 0 (d.take k) = V := ⟨_, rfl⟩
      rw [hV] at hv63 ⊢
      have HAT := Lib.hid hat
      have HVV := Lib.hid hV
      clear hat hV
      by_cases hlt : k < d.length
      · by_cases hd : d[k].toNat < 48 ∨ 57 < d[k].toNat
        · have HN := Lib.hid (refpos_dig (lo := lo) (hi := hi) H0.out (not_dig hlt hd))
          go_wp2_with fail
          all_goals
            go_ret2
            exact ⟨rfl, 0, by rw [HN.out]; rfl, by decide, by decide, fun v h => by rw [HN.out] at h; cases h⟩
        · have h1 : 48 ≤ d[k].toNat := by omega
          have h2 : d[k].toNat ≤ 57 := by omega
          clear hd
          have hx : d[k].toNat - 48 ≤ 9 := by omega
          by_cases hov : big < V * 10 + (d[k].toNat - 48)
          · have hT := (over_iff V d[k].toNat h1 h2).2 hov
            have HN := Lib.hid (refpos_far (lo := lo) (hi := hi) H0.out (HAT.out.far hlt (by rw [HVV.out]; exact hov)))
            clear hov
            go_wp2_with fail
            go_ret2
            exact ⟨rfl, 0, by rw [HN.out]; rfl, by decide, by decide, fun v h => by rw [HN.out] at h; cases h⟩
          · have hT : ¬ (-(V : Int) < (-9223372036854775808 + ((d[k].toNat : Int) - 48)).tdiv 10) := fun h => hov ((over_iff V d[k].toNat h1 h2).1 h)
            have HA := Lib.hid (HAT.out.next hlt h1 h2 (by rw [HVV.out]; omega))
            have HS := Lib.hid (HAT.out.step hlt)
            have hb : V * 10 + (d[k].toNat - 48) ≤ 9223372036854775808 := by unfold big at hov; omega
            clear hov
            go_wp2_with fail
            go_round
            case rel => exact ⟨k + 1, by omega, by go_num, int_eq (by rw [HS.out, HVV.out]; omega), HA.out⟩
            case measure => simp [intOf]; omega
      · have hke : k = d.length := by omega
        subst hke
        have HN := Lib.hid (refpos_ok (lo := lo) (hi := hi) H0.out (by omega) (by omega) H3.out HAT.out)
        have hvd : valF 0 d = V := by rw [← HVV.out, List.take_length]
        have HVD := Lib.hid hvd
        clear hvd
        by_cases hbig : V = 9223372036854775808
        · subst hbig
          go_wp2_with fail
          go_ret2
          have hn : refNum lo hi d = none := by rw [HN.out, HVD.out, if_pos (.inl rfl)]
          exact ⟨rfl, 0, by rw [hn]; rfl, by decide, by decide, fun v h => by rw [hn] at h; cases h⟩
        · have hb1 : ((-(V : Int)) == -9223372036854775808) = false := by simp; omega
          have hb2 : V ≤ 9223372036854775807 := by omega
          go_wp2_with fail
          go_ret2
          refine ⟨rfl, (V : Int), ?_, by omega, by omega, fun v h => ?_⟩
          · rw [HN.out, HVD.out]
            by_cases hlo : hi < (V : Int)
            · rw [if_pos (.inr hlo)]; simp; omega
            · rw [if_neg (fun h => h.elim hbig hlo)]; simp; omega
          · rw [HN.out, HVD.out] at h
            split at h
            · cases h
            · exact Option.some.inj h
  · have t1 : ((d[0].toNat : Int) == 48) = false := by simp; omega
    clear hz
    go_enter Tryd.func27, Tryd.ntmps27
    go_wp2_with fail
    go_loop [10, 11] (fun n i => ∃ k : Nat, k ≤ d.length ∧ i = .int .i64 k ∧ n = .int .i64 (-(valF 0 (d.take k) : Int)) ∧ DigAt d k) (fun _ i => d.length - (intOf i).toNat)
    case atStart => exact ⟨0, Nat.zero_le _, rfl, rfl, DigAt.zero d⟩
    case round =>
      obtain ⟨k, hk, rfl, rfl, hat⟩ := hrel
      have hv63 := hat.2
      unfold big at hv63
      obtain ⟨V, hV⟩ : ∃ V, valF 0 (d.take k) = V := ⟨_, rfl⟩
      rw [hV] at hv63 ⊢
      have HAT := Lib.hid hat
      have HVV := Lib.hid hV
      clear hat hV
      by_cases hlt : k < d.length
      · by_cases hd : d[k].toNat < 48 ∨ 57 < d[k].toNat
        · have HN := Lib.hid (refpos_dig (lo := lo) (hi := hi) H0.out (not_dig hlt hd))
          go_wp2_with fail
          all_goals
            go_ret2
            exact ⟨rfl, 0, by rw [HN.out]; rfl, by decide, by decide, fun v h => by rw [HN.out] at h; cases h⟩
        · have h1 : 48 ≤ d[k].toNat := by omega
          have h2 : d[k].toNat ≤ 57 := by omega
          clear hd
          have hx : d[k].toNat - 48 ≤ 9 := by omega
          by_cases hov : big < V * 10 + (d[k].toNat - 48)
          · have hT := (over_iff V d[k].toNat h1 h2).2 hov
            have HN := Lib.hid (refpos_far (lo := lo) (hi := hi) H0.out (HAT.out.far hlt (by rw [HVV.out]; exact hov)))
            clear hov
            go_wp2_with fail
            go_ret2
            exact ⟨rfl, 0, by rw [HN.out]; rfl, by decide, by decide, fun v h => by rw [HN.out] at h; cases h⟩
          · have hT : ¬ (-(V : Int) < (-9223372036854775808 + ((d[k].toNat : Int) - 48)).tdiv 10) := fun h => hov ((over_iff V d[k].toNat h1 h2).1 h)
            have HA := Lib.hid (HAT.out.next hlt h1 h2 (by rw [HVV.out]; omega))
            have HS := Lib.hid (HAT.out.step hlt)
            have hb : V * 10 + (d[k].toNat - 48) ≤ 9223372036854775808 := by unfold big at hov; omega
            clear hov
            go_wp2_with fail
            go_round
            case rel => exact ⟨k + 1, by omega, by go_num, int_eq (by rw [HS.out, HVV.out]; omega), HA.out⟩
            case measure => simp [intOf]; omega
      · have hke : k = d.length := by omega
        subst hke
        have HN := Lib.hid (refpos_ok (lo := lo) (hi := hi) H0.out (by omega) (by omega) H3.out HAT.out)
        have hvd : valF 0 d = V := by rw [← HVV.out, List.take_length]
        have HVD := Lib.hid hvd
        clear hvd
        by_cases hbig : V = 9223372036854775808
        · subst hbig
          go_wp2_with fail
          go_ret2
          have hn : refNum lo hi d = none := by rw [HN.out, HVD.out, if_pos (.inl rfl)]
          exact ⟨rfl, 0, by rw [hn]; rfl, by decide, by decide, fun v h => by rw [hn] at h; cases h⟩
        · have hb1 : ((-(V : Int)) == -9223372036854775808) = false := by simp; omega
          have hb2 : V ≤ 9223372036854775807 := by omega
          go_wp2_with fail
          go_ret2
          refine ⟨rfl, (V : Int), ?_, by omega, by omega, fun v h => ?_⟩
          · rw [HN.out, HVD.out]
            by_cases hlo : hi < (V : Int)
            · rw [if_pos (.inr hlo)]; simp; omega
            · rw [if_neg (fun h => h.elim hbig hlo)]; simp; omega
          · rw [HN.out, HVD.out] at h
            split at h
            · cases h
            · exact Option.some.inj h
set_option maxRecDepth 100000 in
set_option maxHeartbeats 1000000 in
theorem RNumber_neg0 (d : List UInt8) (w : World) (lo hi : Int) (hl : d.length ≤ 1000000) (h1 : d = []) :
    Calls Tryd.prog 27 #[.string (strOf (45 :: d)), .int .i64 lo, .int .i64 hi] w (RNumRet (refNum lo hi (45 :: d)) w) := by
  have HN : Hid (refNum lo hi (45 :: d) = none) := Lib.hid (by
    unfold refNum
    rw [if_pos (by rfl), if_pos (.inl h1)])
  subst h1
  have hex := strOf_tail 45 [] 1 rfl
  go_enter Tryd.func27, Tryd.ntmps27
  go_wp2_with fail
  all_goals
    go_ret2
    exact ⟨rfl, 0, by rw [HN.out]; rfl, by decide, by decide, fun v h => by rw [HN.out] at h; cases h⟩
set_option maxRecDepth 100000 in
set_option maxHeartbeats 1000000 in
theorem RNumber_neg19 (d : List UInt8) (w : World) (lo hi : Int) (hl : d.length ≤ 1000000) (h1 : 19 < d.length) :
    Calls Tryd.prog 27 #[.string (strOf (45 :: d)), .int .i64 lo, .int .i64 hi] w (RNumRet (refNum lo hi (45 :: d)) w) := by
  have HN : Hid (refNum lo hi (45 :: d) = none) := Lib.hid (by
    unfold refNum
    rw [if_pos (by rfl), if_pos (.inr (.inl h1))])
  have hex := strOf_tail 45 d (d.length + 1) rfl
  go_enter Tryd.func27, Tryd.ntmps27
  go_wp2_with fail
  all_goals
    go_ret2
    exact ⟨rfl, 0, by rw [HN.out]; rfl, by decide, by decide, fun v h => by rw [HN.out] at h; cases h⟩
set_option maxRecDepth 100000 in
set_option maxHeartbeats 1000000 in
theorem RNumber_neg48 (d : List UInt8) (w : World) (lo hi : Int) (hl : d.length ≤ 1000000) (h1 : d.head? = some 48) :
    Calls Tryd.prog 27 #[.string (strOf (45 :: d)), .int .i64 lo, .int .i64 hi] w (RNumRet (refNum lo hi (45 :: d)) w) := by
  have HN : Hid (refNum lo hi (45 :: d) = none) := Lib.hid (by
    unfold refNum
    rw [if_pos (by rfl), if_pos (.inr (.inr (.inl h1)))])
  have hex := strOf_tail 45 d (d.length + 1) rfl
  have hl0 : 1 ≤ d.length := by
    cases d with
    | nil => cases h1
    | cons c r => simp
  have t1 : ((d[0].toNat : Int) == 48) = true := by
    rw [List.head?_eq_getElem?, List.getElem?_eq_getElem hl0] at h1
    injection h1 with h1
    rw [h1]; rfl
  clear h1
  go_enter Tryd.func27, Tryd.ntmps27
  go_wp2_with fail
  all_goals
    go_ret2
    exact ⟨rfl, 0, by rw [HN.out]; rfl, by decide, by decide, fun v h => by rw [HN.out] at h; cases h⟩
set_option maxRecDepth 100000 in
set_option maxHeartbeats 1000000 in
theorem RNumber_pos0 (d : List UInt8) (w : World) (lo hi : Int) (hl : d.length ≤ 1000000) (h1 : d = []) :
    Calls Tryd.prog 27 #[.string (strOf d), .int .i64 lo, .int .i64 hi] w (RNumRet (refNum lo hi d) w) := by
  have HN : Hid (refNum lo hi d = none) := Lib.hid (by
    unfold refNum
    rw [if_neg (by rw [h1]; simp), if_pos (.inl h1)])
  subst h1
  go_enter Tryd.func27, Tryd.ntmps27
  go_wp2_with fail
  all_goals
    go_ret2
    exact ⟨rfl, 0, by rw [HN.out]; rfl, by decide, by decide, fun v h => by rw [HN.out] at h; cases h⟩
set_option maxRecDepth 100000 in
set_option maxHeartbeats 1000000 in
theorem RNumber_pos19 (d : List UInt8) (w : World) (lo hi : Int) (hl : d.length ≤ 1000000) (h0 : ¬ d.head? = some 45) (h1 : 19 < d.length) :
    Calls Tryd.prog 27 #[.string (strOf d), .int .i64 lo, .int .i64 hi] w (RNumRet (refNum lo hi d) w) := by
  have HN : Hid (refNum lo hi d = none) := Lib.hid (by
    unfold refNum
    rw [if_neg h0, if_pos (.inr (.inl h1))])
  have hl0 : 1 ≤ d.length := by omega
  have t0 : ((d[0].toNat : Int) == 45) = false := by
    simp only [beq_eq_false_iff_ne, ne_eq]
    intro e
    apply h0
    rw [List.head?_eq_getElem?, List.getElem?_eq_getElem hl0]
    congr 1
    exact UInt8.toNat_inj.1 (by show _ = 45; omega)
  clear h0
  go_enter Tryd.func27, Tryd.ntmps27
  go_wp2_with fail
  all_goals
    go_ret2
    exact ⟨rfl, 0, by rw [HN.out]; rfl, by decide, by decide, fun v h => by rw [HN.out] at h; cases h⟩
set_option maxRecDepth 100000 in
set_option maxHeartbeats 1000000 in
theorem RNumber_pos48 (d : List UInt8) (w : World) (lo hi : Int) (hl : d.length ≤ 1000000) (h2 : 1 < d.length) (h1 : d.head? = some 48) :
    Calls Tryd.prog 27 #[.string (strOf d), .int .i64 lo, .int .i64 hi] w (RNumRet (refNum lo hi d) w) := by
  have HN : Hid (refNum lo hi d = none) := Lib.hid (by
    unfold refNum
    rw [if_neg (by rw [h1]; simp), if_pos (.inr (.inr (.inl ⟨h1, h2⟩)))])
  have hl0 : 1 ≤ d.length := by
    cases d with
    | nil => cases h1
    | cons c r => simp
  have t1 : ((d[0].toNat : Int) == 48) = true := by
    rw [List.head?_eq_getElem?, List.getElem?_eq_getElem hl0] at h1
    injection h1 with h1
    rw [h1]; rfl
  clear h1
  go_enter Tryd.func27, Tryd.ntmps27
  go_wp2_with fail
  all_goals
    go_ret2
    exact ⟨rfl, 0, by rw [HN.out]; rfl, by decide, by decide, fun v h => by rw [HN.out] at h; cases h⟩
theorem RNumber_calls (s : List UInt8) (w : World) (lo hi : Int) (hl : s.length ≤ 1000000) :
    Calls Tryd.prog 27 #[.string (strOf s), .int .i64 lo, .int .i64 hi] w (RNumRet (refNum lo hi s) w) := by
  by_cases h45 : s.head? = some 45
  · obtain ⟨d, rfl⟩ : ∃ d, s = 45 :: d := by
      cases s with
      | nil => cases h45
      | cons c d => simp at h45; exact ⟨d, by rw [h45]⟩
    have hl' : d.length ≤ 1000000 := by simp at hl; omega
    by_cases h0 : d = []
    · exact RNumber_neg0 d w lo hi hl' h0
    · have h1 : 1 ≤ d.length := List.length_pos_iff.2 h0
      by_cases h19 : d.length ≤ 19
      · by_cases h48 : d.head? = some 48
        · exact RNumber_neg48 d w lo hi hl' h48
        · exact RNumber_neg d w lo hi hl' h1 h19 h48
      · exact RNumber_neg19 d w lo hi hl' (by omega)
  · by_cases h0 : s = []
    · exact RNumber_pos0 s w lo hi hl h0
    · have h1 : 1 ≤ s.length := List.length_pos_iff.2 h0
      by_cases h19 : s.length ≤ 19
      · by_cases h48 : s.head? = some 48 ∧ 1 < s.length
        · exact RNumber_pos48 s w lo hi hl h48.2 h48.1
        · exact RNumber_pos s w lo hi hl h1 h19 h45 (fun h => Nat.le_of_not_lt fun h2 => h48 ⟨h, h2⟩)
      · exact RNumber_pos19 s w lo hi hl h45 (by omega)
end Go.Proofs.YtefpobkkldgogaaDoor
