/- Leaves: bytes alike, cut, in a list; names; lists that rise. -/
import Derived.Test.YtfjlgpbplliccaaB
import Derived.Test.YtfjlgpbplliccaaM
namespace Go.Proofs.Ytfjlgpbplliccaa
open Go.RowKit

@[simp, go_sem] theorem strOf_get (xs : List UInt8) (k : Nat) (h : k < (strOf xs).size) : (strOf xs)[k] = xs[k]'(by simpa using h) := rfl
@[simp, go_sem] theorem strOf_tl (xs : List UInt8) : (strOf xs).toList = xs := by rw [ByteArray.toList_eq]; rfl
theorem ret_bool {a b : Bool} (h : a = b) : Ending.returned (.bool a) = .returned (.bool b) := by rw [h]
theorem ret_int {k : IntKind} {a b : Int} (h : a = b) : Ending.returned (.int k a) = .returned (.int k b) := by rw [h]
theorem int_eq {k : IntKind} {a b : Int} (h : a = b) : Value.int k a = .int k b := by rw [h]

set_option maxHeartbeats 400000 in
theorem Same_calls (A1 A2 : Option Addr) (n1 c1 n2 c2 : Nat) (xs ys : List UInt8) (w : World) (hn1 : n1 = xs.length) (hn2 : n2 = ys.length) (h1 : RB w A1 xs) (h2 : RB w A2 ys) :
    Calls Try.prog 14 #[.slice A1 n1 c1, .slice A2 n2 c2] w fun e w' => e = .returned (.bool (xs == ys)) ∧ w = w' := by
  subst hn1 hn2
  have e1 := h1.convert c1 rfl
  have e2 := h2.convert c2 rfl
  clear h1 h2
  go_enter Try.func14, Try.ntmps14
  go_wp2
  go_ret
  exact ⟨by simp [strOf_tl], rfl⟩

set_option maxHeartbeats 400000 in
theorem Equal_calls (A1 A2 : Option Addr) (n1 c1 n2 c2 : Nat) (xs ys : List UInt8) (w : World) (hn1 : n1 = xs.length) (hn2 : n2 = ys.length) (h1 : RB w A1 xs) (h2 : RB w A2 ys) :
    Calls Try.prog 22 #[.slice A1 n1 c1, .slice A2 n2 c2] w fun e w' => e = .returned (.bool (xs == ys)) ∧ w = w' := by
  subst hn1 hn2
  have e1 := h1.convert c1 rfl
  have e2 := h2.convert c2 rfl
  clear h1 h2
  go_enter Try.func22, Try.ntmps22
  go_wp2
  go_ret
  exact ⟨by simp [strOf_tl], rfl⟩

theorem inB_take_succ (xs : List UInt8) (b : UInt8) (k : Nat) (h : k < xs.length) (h0 : inB (xs.take k) b = false) (h1 : ¬ xs[k] = b) : inB (xs.take (k + 1)) b = false := by
  unfold inB at *
  rw [List.take_succ_eq_append_getElem h, List.contains_append]
  rw [h0]; simp [Ne.symm h1]
theorem inB_hit (xs : List UInt8) (b : UInt8) (k : Nat) (h : k < xs.length) (h1 : xs[k] = b) : inB xs b = true := by
  unfold inB; simp only [List.contains_eq_mem, decide_eq_true_eq]; rw [← h1]; exact List.getElem_mem h
theorem u8_inj {x y : UInt8} (h : ((x.toNat : Int) == (y.toNat : Int)) = true) : x = y := by
  simp only [beq_iff_eq] at h; exact UInt8.toNat_inj.1 (by omega)
theorem u8_ninj {x y : UInt8} (h : ((x.toNat : Int) == (y.toNat : Int)) = false) : ¬ x = y := by
  rintro rfl; simp at h

set_option maxHeartbeats 400000 in
theorem in_calls (A : Option Addr) (n c : Nat) (xs : List UInt8) (b : UInt8) (w : World) (hn : n = xs.length) (h : RB w A xs) (hl : xs.length ≤ 140737488351232) :
    Calls Try.prog 38 #[.slice A n c, .int .u8 b.toNat] w fun e w' => e = .returned (.bool (inB xs b)) ∧ w = w' := by
  subst hn
  go_enter Try.func38, Try.ntmps38
  go_wp2
  go_loop [9] (fun i => ∃ k : Nat, k ≤ xs.length ∧ i = .int .i64 k ∧ inB (xs.take k) b = false) (fun i => xs.length - (intOf i).toNat)
  case atStart => exact ⟨0, Nat.zero_le _, rfl, by simp [inB]⟩
  case round =>
    obtain ⟨k, hk, rfl, hb⟩ := hrel
    have HB := Lib.hid hb
    clear hb
    by_cases hlt : k < xs.length
    · obtain ⟨ad, v, rfl, _, hx, hc⟩ := h.at_ hlt
      rw [bv_get xs k hlt] at hx
      injection hx with hx
      subst hx
      go_wp2
      · have h1 : ((xs[k].toNat : Int) == (b.toNat : Int)) = true := by assumption
        go_ret
        exact ⟨ret_bool (inB_hit xs b k hlt (u8_inj h1)).symm, rfl⟩
      · have h1 : ((xs[k].toNat : Int) == (b.toNat : Int)) = false := by assumption
        go_round
        case rel => exact ⟨k + 1, by omega, by go_num, inB_take_succ xs b k hlt HB.out (u8_ninj h1)⟩
        case measure => simp [intOf]; omega
    · go_wp2
      go_ret
      refine ⟨ret_bool ?_, rfl⟩
      have := HB.out
      rw [List.take_of_length_le (by omega)] at this
      exact this.symm

theorem nameCh_true {c : UInt8} (h1 : ¬ ((c.toNat : Int) < 33)) (h2 : ¬ ((126 : Int) < c.toNat)) : nameCh c = true := by
  unfold nameCh; simp; omega
theorem nameCh_lo {c : UInt8} (h1 : ((c.toNat : Int) < 33)) : nameCh c = false := by
  unfold nameCh; simp; omega
theorem nameCh_hi {c : UInt8} (h1 : ((126 : Int) < c.toNat)) : nameCh c = false := by
  unfold nameCh; simp; omega
theorem nameOk_bad {s : List UInt8} (k : Nat) (h : k < s.length) (h1 : nameCh s[k] = false) : nameOk s = false := by
  unfold nameOk
  have : s.all nameCh = false := List.all_eq_false.2 ⟨s[k], List.getElem_mem h, by simp [h1]⟩
  simp [this]
theorem nameOk_all {s : List UInt8} (h : (s.take s.length).all nameCh = true) : nameOk s = (decide (1 ≤ s.length) && decide (s.length ≤ 40)) := by
  rw [List.take_of_length_le (Nat.le_refl _)] at h
  unfold nameOk; simp [h]
theorem all_take_succ {s : List UInt8} {p : UInt8 → Bool} (k : Nat) (h : k < s.length) (h0 : (s.take k).all p = true) (h1 : p s[k] = true) : (s.take (k + 1)).all p = true := by
  rw [List.take_succ_eq_append_getElem h, List.all_append]; simp [h0, h1]

set_option maxHeartbeats 400000 in
theorem Name_calls (s : List UInt8) (w : World) (hl : s.length ≤ 140737488351232) :
    Calls Try.prog 18 #[.string (strOf s)] w fun e w' => e = .returned (.bool (nameOk s)) ∧ w = w' := by
  go_enter Try.func18, Try.ntmps18
  go_wp2
  go_loop [6] (fun i => ∃ k : Nat, k ≤ s.length ∧ i = .int .i64 k ∧ (s.take k).all nameCh = true) (fun i => s.length - (intOf i).toNat)
  case atStart => exact ⟨0, Nat.zero_le _, rfl, by simp⟩
  case round =>
    obtain ⟨k, hk, rfl, hb⟩ := hrel
    have HB := Lib.hid hb
    clear hb
    by_cases hlt : k < s.length
    · go_wp2
      · have h1 : (s[k].toNat : Int) < 33 ∨ (126 : Int) < (s[k].toNat : Int) := by assumption
        go_ret
        exact ⟨ret_bool (nameOk_bad k hlt (h1.elim nameCh_lo nameCh_hi)).symm, rfl⟩
      · have h1 : (33 : Int) ≤ (s[k].toNat : Int) ∧ (s[k].toNat : Int) ≤ 126 := by assumption
        go_round
        case rel => exact ⟨k + 1, by omega, by go_num, all_take_succ k hlt HB.out (nameCh_true (by omega) (by omega))⟩
        case measure => simp [intOf]; omega
      · have h1 : (s[k].toNat : Int) < 33 := by assumption
        go_ret
        exact ⟨ret_bool (nameOk_bad k hlt (nameCh_lo h1)).symm, rfl⟩
    · have hk' : k = s.length := by omega
      have H := HB.out
      rw [hk'] at H
      have HF := Lib.hid (nameOk_all H)
      clear H hk'
      go_wp2
      · go_ret
        have h0 : s = [] := by assumption
        refine ⟨ret_bool ?_, rfl⟩
        subst h0; rfl
      · go_ret
        have h0 : ¬ s = [] := by assumption
        refine ⟨ret_bool ?_, rfl⟩
        rw [HF.out]
        have : 1 ≤ s.length := List.length_pos_iff.2 h0
        cases s with
        | nil => exact absurd rfl h0
        | cons a t => simp; omega

set_option maxHeartbeats 400000 in
theorem RName_calls (s : List UInt8) (w : World) (hl : s.length ≤ 140737488351232) :
    Calls Try.prog 21 #[.string (strOf s)] w fun e w' => e = .returned (.bool (nameOk s)) ∧ w = w' := by
  go_enter Try.func21, Try.ntmps21
  go_wp2
  go_loop [3] (fun i => ∃ k : Nat, k ≤ s.length ∧ i = .int .i64 k ∧ (s.take k).all nameCh = true) (fun i => s.length - (intOf i).toNat)
  case atStart => exact ⟨0, Nat.zero_le _, rfl, by simp⟩
  case round =>
    obtain ⟨k, hk, rfl, hb⟩ := hrel
    have HB := Lib.hid hb
    clear hb
    by_cases hlt : k < s.length
    · go_wp2
      · have h1 : (s[k].toNat : Int) < 33 ∨ (126 : Int) < (s[k].toNat : Int) := by assumption
        go_ret
        exact ⟨ret_bool (nameOk_bad k hlt (h1.elim nameCh_lo nameCh_hi)).symm, rfl⟩
      · have h1 : (33 : Int) ≤ (s[k].toNat : Int) ∧ (s[k].toNat : Int) ≤ 126 := by assumption
        go_round
        case rel => exact ⟨k + 1, by omega, by go_num, all_take_succ k hlt HB.out (nameCh_true (by omega) (by omega))⟩
        case measure => simp [intOf]; omega
      · have h1 : (s[k].toNat : Int) < 33 := by assumption
        go_ret
        exact ⟨ret_bool (nameOk_bad k hlt (nameCh_lo h1)).symm, rfl⟩
    · have hk' : k = s.length := by omega
      have H := HB.out
      rw [hk'] at H
      have HF := Lib.hid (nameOk_all H)
      clear H hk'
      go_wp2
      all_goals
        go_ret
        refine ⟨ret_bool ?_, rfl⟩
        rw [HF.out]
        rw [Bool.eq_iff_iff]; simp; omega

/-! ### lists that rise; lists of bytes each once -/
def risesAt (l : List UInt8) (k : Nat) : Bool := decide ((l.getD k 0).toNat ≤ 4) && (k == 0 || decide ((l.getD (k - 1) 0).toNat < (l.getD k 0).toNat))
theorem risesB_bad {l : List UInt8} (k : Nat) (h : k < l.length) (h1 : risesAt l k = false) : risesB l = false :=
  List.all_eq_false.2 ⟨k, List.mem_range.2 h, by simpa [risesAt] using h1⟩
theorem risesB_all {l : List UInt8} (h : ∀ k, k < l.length → risesAt l k = true) : risesB l = true :=
  List.all_eq_true.2 fun k hk => h k (List.mem_range.1 hk)
theorem getD_of_lt {l : List UInt8} {k : Nat} (h : k < l.length) : l.getD k 0 = l[k] := by simp [List.getD, h]
theorem all_lt_succ {p : Nat → Prop} {k : Nat} (h : ∀ j, j < k → p j) (h1 : p k) : ∀ j, j < k + 1 → p j := fun j hj => by
  rcases Nat.lt_or_ge j k with g | g
  · exact h j g
  · have : j = k := by omega
    subst this; exact h1
set_option maxHeartbeats 400000 in
theorem rises_calls (A : Option Addr) (n c : Nat) (xs : List UInt8) (w : World) (hn : n = xs.length) (h : RB w A xs) (hl : xs.length ≤ 140737488351232) :
    Calls Try.prog 19 #[.slice A n c] w fun e w' => e = .returned (.bool (risesB xs)) ∧ w = w' := by
  subst hn
  go_enter Try.func19, Try.ntmps19
  go_wp2
  go_loop [7] (fun i => ∃ k : Nat, k ≤ xs.length ∧ i = .int .i64 k ∧ Hid (∀ j, j < k → risesAt xs j = true)) (fun i => xs.length - (intOf i).toNat)
  case atStart => exact ⟨0, Nat.zero_le _, rfl, Lib.hid (fun j hj => absurd hj (by omega))⟩
  case round =>
    obtain ⟨k, hk, rfl, HB⟩ := hrel
    by_cases hlt : k < xs.length
    · obtain ⟨ad, v, rfl, _, hx, hc⟩ := h.at_ hlt
      rw [bv_get xs k hlt] at hx
      injection hx with hx
      subst hx
      have gk := getD_of_lt hlt
      by_cases h4 : (4 : Int) < (xs[k].toNat : Int)
      · have hb : risesAt xs k = false := by unfold risesAt; rw [gk]; simp; omega
        have HF := Lib.hid (risesB_bad k hlt hb)
        clear hb gk
        go_wp2
        go_ret
        exact ⟨ret_bool HF.out.symm, rfl⟩
      · by_cases h0 : k = 0
        · subst h0
          have hb : risesAt xs 0 = true := by unfold risesAt; rw [gk]; simp; omega
          have HN := Lib.hid (all_lt_succ HB.out hb)
          have hc0 : w.cell? ad = some (Value.int .u8 (xs[0].toNat : Int)) := by simpa [Addr.add] using hc
          clear hb gk HB hc
          go_wp2
          go_round
          case rel => exact ⟨1, by omega, by go_num, HN⟩
          case measure => simp [intOf]; omega
        · have hk1 : k - 1 < xs.length := by omega
          obtain ⟨ad', v, had, _, hx1, hc1⟩ := h.at_ hk1
          injection had with had
          subst had
          rw [bv_get xs (k - 1) hk1] at hx1
          injection hx1 with hx1
          subst hx1
          have gk1 := getD_of_lt hk1
          have hpos : (0 : Int) < (k : Int) := by omega
          by_cases h5 : ((xs[k].toNat : Int)) ≤ (xs[k - 1].toNat : Int)
          · have hb : risesAt xs k = false := by unfold risesAt; rw [gk, gk1]; simp; omega
            have HF := Lib.hid (risesB_bad k hlt hb)
            clear hb gk gk1
            go_wp2
            go_ret
            exact ⟨ret_bool HF.out.symm, rfl⟩
          · have hb : risesAt xs k = true := by unfold risesAt; rw [gk, gk1]; simp; omega
            have HN := Lib.hid (all_lt_succ HB.out hb)
            clear hb gk gk1 HB
            go_wp2
            go_round
            case rel => exact ⟨k + 1, by omega, by go_num, HN⟩
            case measure => simp [intOf]; omega
    · have HF := Lib.hid (risesB_all (l := xs) (fun j hj => HB.out j (by omega)))
      clear HB
      go_wp2
      go_ret
      exact ⟨ret_bool HF.out.symm, rfl⟩

/-! ### texts cut -/
theorem strOf_extract (s : List UInt8) (i j : Nat) : (strOf s).extract i j = strOf ((s.take j).drop i) := by
  apply Go.WideShapes.bytes_inj
  simp [strOf, ByteArray.extract, ByteArray.copySlice, List.drop_take]
set_option maxHeartbeats 400000 in
theorem CutText_calls (s : List UInt8) (m : Nat) (w : World) (hl : s.length ≤ 9223372036854775807) (hm : m ≤ 1000000) :
    Calls Try.prog 17 #[.string (strOf s), .int .i64 m] w fun e w' => e = .returned (.string (strOf (s.take m))) ∧ w = w' := by
  go_enter Try.func17, Try.ntmps17
  by_cases hlt : m < s.length
  · go_wp2
    go_ret
    exact ⟨by rw [← show (strOf s).extract 0 m = strOf (s.take m) from by rw [strOf_extract]; rfl]; rfl, rfl⟩
  · go_wp2
    go_ret
    exact ⟨by rw [List.take_of_length_le (by omega)]; rfl, rfl⟩

/-! ### bytes cut -/
set_option maxHeartbeats 400000 in
theorem Cut_calls (A : Option Addr) (n c m : Nat) (xs : List UInt8) (w : World) (hn : n = xs.length) (h : RB w A xs) (hl : xs.length ≤ 9223372036854775807) (hc : xs.length ≤ c) (hm : m ≤ 1000000) :
    Calls Try.prog 10 #[.slice A n c, .int .i64 m] w fun e w' => ∃ v, e = .returned v ∧ OB w.heap.size w' v (xs.take m) ∧ Below w.heap.size w w' := by
  subst hn
  go_enter Try.func10, Try.ntmps10
  by_cases hlt : m < xs.length
  · have ht := Lib.hid (show (xs.take m).length = m by simp; omega)
    go_wp2_with fail
    refine (Copy_calls A m c (xs.take m) _ ht.out.symm (by show Reads _ _ _ _ _ _; rw [ht.out]; exact h.take (by omega)) (by rw [ht.out]; omega)).mono ?_
    rintro e w1 ⟨v, rfl, ho, hb⟩
    go_wp2
    go_ret
    exact ⟨v, rfl, ho, hb⟩
  · rw [List.take_of_length_le (by omega)]
    go_wp2_with fail
    refine (Copy_calls A _ c xs _ rfl h (by omega)).mono ?_
    rintro e w1 ⟨v, rfl, ho, hb⟩
    go_wp2
    go_ret
    exact ⟨v, rfl, ho, hb⟩

/-! ### all bits of bytes are turned: only that block is another -/
theorem getElem?_lt {α : Type} {l : List α} {i : Nat} {v : α} (h : l[i]? = some v) : i < l.length := (List.getElem?_eq_some_iff.1 h).1
set_option maxHeartbeats 400000 in
theorem Flip_calls (v : Value) (xs : List UInt8) (base : Nat) (w : World) (h : OB base w v xs) (hl : xs.length ≤ 140737488351232) :
    Calls Try.prog 8 #[v] w fun e w' => e = .returned (.tuple #[]) ∧ w.grownBy w' v.ownBlock := by
  obtain ⟨A, c, rfl, hc, hr, hb, hob⟩ := h.reads
  have HO : ∃ ns : List Int, ns.length = xs.length ∧ w.ownsRow base 5 1 (.slice A xs.length c) xs.length (ns.map (Value.int .u8)) := ⟨xs.map fun x => (x.toNat : Int), by simp, by rw [List.map_map]; exact h⟩
  clear h hob hr
  go_enter Try.func8, Try.ntmps8
  go_wp2
  go_loopw [5] (fun i wr => ∃ k : Nat, k ≤ xs.length ∧ i = .int .i64 k ∧ w.grownBy wr (Value.slice A xs.length c).ownBlock ∧ ∃ ns : List Int, ns.length = xs.length ∧ wr.ownsRow base 5 1 (.slice A xs.length c) xs.length (ns.map (Value.int .u8))) (fun i _ => xs.length - (intOf i).toNat)
  case atStart => exact ⟨0, Nat.zero_le _, rfl, World.grownBy.refl _ _, HO⟩
  case round =>
    obtain ⟨k, hk, rfl, hg, ns, hy, ho⟩ := hrel
    have hy' : ns.length ≤ xs.length := by omega
    have HY := Lib.hid hy
    clear hy HO
    by_cases hlt : k < xs.length
    · obtain ⟨g, c', hv, _⟩ := ho.form (by omega)
      injection hv with hv1 _ hv2
      subst hv1
      have hlt' : k < ns.length := by have := HY.out; omega
      have hcell := ho.cellAt k (by omega)
      rw [List.getElem?_map, List.getElem?_eq_getElem hlt', Option.map_some] at hcell
      have hfr := ho.frozenAt k
      have hst := Lib.hid (ho.stored k (.int .u8 (bits .xor .u8 ns[k] 255)))
      have HO := Lib.hid ho
      clear ho hb
      go_wp2
      go_roundw
      case rel =>
        refine ⟨k + 1, by omega, by go_num, ?_, ns.set k (bits .xor .u8 ns[k] 255), by simp; exact HY.out, by rw [List.map_set]; exact hst.out.1⟩
        exact ⟨hg.os, hg.tape, hg.output, by simpa [World.setCell] using hg.size, fun i hi hne => (hst.out.2.block i (Nat.lt_of_lt_of_le hi hg.size) hne).trans (hg.block i hi hne)⟩
      case measure => simp [intOf]; omega
    · go_wp2
      go_end0
      exact ⟨rfl, hg⟩
end Go.Proofs.Ytfjlgpbplliccaa
