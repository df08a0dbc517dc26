/- slices.Sort over few bytes: a sorted permutation, in place. -/
import Derived.Test.YtfjlgpbplliccaaI
import Derived.Test.YtfjlgpbplliccaaShelf
import Derived.ChangeAlike
import Derived.BigRegion
import Derived.Deep.DeepCutAuto
import Derived.Deep.CutBlock
namespace Go.Proofs.Ytfjlgpbplliccaa
open Go.RowKit

set_option maxHeartbeats 400000 in
theorem isNaN_calls (x : Int) (w : World) : Calls Try.prog 74 #[.int .u8 x] w fun e w' => e = .returned (.bool false) ∧ w = w' := by
  go_enter Try.func74, Try.ntmps74
  go_wp2
  go_ret
  exact ⟨by simp, rfl⟩

set_option maxHeartbeats 400000 in
theorem Less_calls (x y : Int) (w : World) : Calls Try.prog 64 #[.int .u8 x, .int .u8 y] w fun e w' => e = .returned (.bool (decide (x < y))) ∧ w = w' := by
  go_enter Try.func64, Try.ntmps64
  go_wp2_with (go_at_call 74; refine (isNaN_calls _ _).mono ?_; rintro e w' ⟨rfl, rfl⟩)
  go_ret
  exact ⟨by simp, rfl⟩

/-- sorted but for the place j -/
def SrtBut (ys : List Int) (i j : Nat) : Prop := ∀ p q, p < q → q ≤ i → q ≠ j → q < ys.length → ys.getD p 0 ≤ ys.getD q 0
def Srt (ys : List Int) (i : Nat) : Prop := ∀ p q, p < q → q < i → q < ys.length → ys.getD p 0 ≤ ys.getD q 0

theorem getD_set (ys : List Int) (a b : Nat) (x : Int) (h : a < ys.length) : (ys.set a x).getD b 0 = if a = b then x else ys.getD b 0 := by
  simp only [List.getD_eq_getElem?_getD, List.getElem?_set]
  split
  · simp [h]
  · rfl
theorem swap_perm (ys : List Int) (m : Nat) (h : m + 1 < ys.length) : ((ys.set (m + 1) (ys.getD m 0)).set m (ys.getD (m + 1) 0)).Perm ys := by
  induction ys generalizing m with
  | nil => simp at h
  | cons a t ih =>
    cases m with
    | zero =>
      cases t with
      | nil => simp at h
      | cons b t => simp; exact List.Perm.swap _ _ _
    | succ m =>
      have := ih m (by simpa using h)
      simpa using this
theorem swap_getD (ys : List Int) (m b : Nat) (A B : Int) (h : m + 1 < ys.length) : ((ys.set (m + 1) A).set m B).getD b 0 = if m = b then B else if m + 1 = b then A else ys.getD b 0 := by
  rw [getD_set _ _ _ _ (by rw [List.length_set]; omega), getD_set _ _ _ _ h]
theorem SrtBut.swap {ys : List Int} {i m : Nat} (h : SrtBut ys i (m + 1)) (hm : m + 1 ≤ i) (hl : m + 1 < ys.length) (hlt : ys.getD (m + 1) 0 < ys.getD m 0) :
    SrtBut ((ys.set (m + 1) (ys.getD m 0)).set m (ys.getD (m + 1) 0)) i m := by
  intro p q hpq hqi hqm hql
  have hl' : q < ys.length := by simpa using hql
  rw [swap_getD ys m p _ _ hl, swap_getD ys m q _ _ hl]
  rw [if_neg (show ¬ m = q from fun e => hqm e.symm)]
  by_cases hq : m + 1 = q
  · rw [if_pos hq]
    by_cases hp : m = p
    · rw [if_pos hp]; omega
    · rw [if_neg hp, if_neg (by omega)]
      exact h p m (by omega) (by omega) (by omega) (by omega)
  · rw [if_neg hq]
    by_cases hp : m = p
    · rw [if_pos hp]
      exact h (m + 1) q (by omega) hqi (by omega) hl'
    · rw [if_neg hp]
      by_cases hp1 : m + 1 = p
      · rw [if_pos hp1]
        exact h m q (by omega) hqi (by omega) hl'
      · rw [if_neg hp1]
        exact h p q hpq hqi (by omega) hl'
theorem SrtBut.done {ys : List Int} {i j : Nat} (h : SrtBut ys i j) (hj : j = 0 ∨ ys.getD (j - 1) 0 ≤ ys.getD j 0) : Srt ys (i + 1) := by
  intro p q hpq hqi hql
  by_cases hq : q = j
  · subst hq
    rcases hj with h0 | h0
    · omega
    · by_cases hp : p = q - 1
      · subst hp; exact h0
      · have := h p (q - 1) (by omega) (by omega) (by omega) (by omega)
        omega
  · exact h p q hpq (by omega) hq hql
theorem Srt.start {ys : List Int} {i : Nat} (h : Srt ys i) : SrtBut ys i i := fun p q hpq hqi hq hql => h p q hpq (by omega) hql

def ib (xs : List Int) : List Value := xs.map (Value.int .u8)

set_option maxRecDepth 100000 in
set_option maxHeartbeats 1000000 in
theorem insertion_calls (base g n c : Nat) (xs : List Int) (w : World) (hn : n = xs.length) (hl : n ≤ 1000)
    (h : w.ownsRow base 5 1 (.slice (some ⟨g, 0, none⟩) n c) n (ib xs)) :
    Calls Try.prog 58 #[.slice (some ⟨g, 0, none⟩) n c, .int .i64 0, .int .i64 n] w fun e w' => e = .returned (.tuple #[]) ∧
      ∃ ys : List Int, ys.Perm xs ∧ Srt ys n ∧ w'.ownsRow base 5 1 (.slice (some ⟨g, 0, none⟩) n c) n (ib ys) ∧ w.grownBy w' (some g) := by
  have HN := Lib.hid hn
  have HO := Lib.hid h
  clear hn h
  go_enter Try.func58, Try.ntmps58
  go_wp2
  go_loopw [6] (fun i wr => ∃ (k : Nat) (ys : List Int), 1 ≤ k ∧ k ≤ n + 1 ∧ i = .int .i64 k ∧ Hid (ys.Perm xs ∧ Srt ys k ∧ wr.ownsRow base 5 1 (.slice (some ⟨g, 0, none⟩) n c) n (ib ys) ∧ w.grownBy wr (some g))) (fun i _ => n + 1 - (intOf i).toNat)
  case atStart => exact ⟨1, xs, by omega, by omega, rfl, List.Perm.refl _, fun p q h1 h2 => by omega, HO.out, World.grownBy.refl _ _⟩
  case round =>
    obtain ⟨k, ys, hk1, hk, rfl, H⟩ := hrel
    by_cases hlt : k < n
    · go_wp2
      obtain ⟨wo, rfl⟩ : ∃ wo : World, wo = wr := ⟨_, rfl⟩
      go_loopw [7] (fun j wr => ∃ (q : Nat) (zs : List Int), q ≤ k ∧ j = .int .i64 q ∧ Hid (zs.Perm xs ∧ SrtBut zs k q ∧ wr.ownsRow base 5 1 (.slice (some ⟨g, 0, none⟩) n c) n (ib zs) ∧ w.grownBy wr (some g))) (fun j _ => (intOf j).toNat)
      case atStart => exact ⟨k, ys, by omega, rfl, H.out.1, H.out.2.1.start, H.out.2.2⟩
      case round =>
        obtain ⟨q, zs, hq, rfl, HZ⟩ := hrel
        by_cases h0 : q = 0
        · subst h0
          rw [show ((0 : Nat) : Int) = 0 from rfl]
          go_wp2_with fail
          go_quiet (fail)
          go_wp2
          refine ⟨⟨k + 1, zs, by omega, by omega, by go_num, HZ.out.1, HZ.out.2.1.done (.inl rfl), HZ.out.2.2.1, only_drewN HZ.out.2.2.2 _⟩, by simp [intOf]; omega⟩
        · obtain ⟨m, rfl⟩ : ∃ m, q = m + 1 := ⟨q - 1, by omega⟩
          have hzl : zs.length = n := by rw [HZ.out.1.length_eq, HN.out]
          have hc1 := HZ.out.2.2.1.cellAt (m + 1) (by omega)
          have hc0 := HZ.out.2.2.1.cellAt m (by omega)
          simp only [ib, List.getElem?_map, List.getElem?_eq_getElem (show m + 1 < zs.length from by omega), List.getElem?_eq_getElem (show m < zs.length from by omega), Option.map_some] at hc1 hc0
          have g1 : zs.getD (m + 1) 0 = zs[m + 1] := by simp [List.getD, show m + 1 < zs.length from by omega]
          have g0 : zs.getD m 0 = zs[m] := by simp [List.getD, show m < zs.length from by omega]
          rw [← g1] at hc1
          rw [← g0] at hc0
          clear g1 g0
          obtain ⟨x1, hx1⟩ : ∃ x, x = zs.getD (m + 1) 0 := ⟨_, rfl⟩
          obtain ⟨x0, hx0⟩ : ∃ x, x = zs.getD m 0 := ⟨_, rfl⟩
          rw [← hx1] at hc1
          rw [← hx0] at hc0
          have HX1 := Lib.hid hx1
          have HX0 := Lib.hid hx0
          have HZL := Lib.hid hzl
          clear hx1 hx0 hzl
          rw [show ((m + 1 : Nat) : Int) = (m : Int) + 1 from by omega]
          have e1 : IntKind.i64.wrap ((m : Int) + 1 - 1) = (m : Int) := by rw [IntWalk.i64_in _ (by omega)]; omega
          have e2 : ((m : Int) + 1).toNat = m + 1 := by omega
          have e3 : (0 : Int) ≤ (m : Int) + 1 := by omega
          have e4 : (m : Int) + 1 < (n : Int) := by omega
          have e5 : (m : Int) < (n : Int) := by omega
          have e6 : (0 : Int) < (m : Int) + 1 := by omega
          go_wp2_with fail
          have hf1 := HZ.out.2.2.1.frozenAt (m + 1)
          have hf0 := HZ.out.2.2.1.frozenAt m
          go_quiet ((go_at_call 64; exact quiet_left (Less_calls _ _ _)))
          go_wp2_with fail
          · have hlt1 : x1 < x0 := by assumption
            obtain ⟨wq, hwq⟩ : ∃ wq, wr.drewN nq = wq := ⟨_, rfl⟩
            rw [hwq]
            have hd1 : wq.cell? ⟨g, m + 1, none⟩ = some (.int .u8 x1) := by rw [← hwq]; exact hc1
            have hd0 : wq.cell? ⟨g, m, none⟩ = some (.int .u8 x0) := by rw [← hwq]; exact hc0
            have hg1 : wq.frozen? ⟨g, m + 1, none⟩ = false := by rw [← hwq]; exact hf1
            have hg0 : wq.frozen? ⟨g, m, none⟩ = false := by rw [← hwq]; exact hf0
            have HWQ := Lib.hid hwq
            clear hwq hc1 hc0 hf1 hf0
            go_region
            go_wp2
            have ho := HZ.out.2.2.1
            rw [show wr.ownsRow base 5 1 (.slice (some ⟨g, 0, none⟩) n c) n (ib zs) = wq.ownsRow base 5 1 (.slice (some ⟨g, 0, none⟩) n c) n (ib zs) from by rw [← HWQ.out]; rfl] at ho
            have s1 := ho.stored (m + 1) (.int .u8 x0)
            have s2 := s1.1.stored m (.int .u8 x1)
            have hgw : w.grownBy wq (some g) := by rw [← HWQ.out]; exact only_drewN HZ.out.2.2.2 _
            have hzl : m + 1 < zs.length := by rw [HZL.out]; omega
            refine ⟨⟨m, (zs.set (m + 1) (zs.getD m 0)).set m (zs.getD (m + 1) 0), by omega, rfl, (swap_perm zs m hzl).trans HZ.out.1, HZ.out.2.1.swap hq hzl (by rw [← HX1.out, ← HX0.out]; exact hlt1), ?_, ?_⟩, by simp [intOf]⟩
            · have := s2.1
              rw [HX0.out, HX1.out] at this ⊢
              simp only [ib, List.map_set]
              exact this
            · exact only_drew (only_setCell (p := ⟨g, m, none⟩) (only_setCell (p := ⟨g, m + 1, none⟩) hgw (.inl rfl) _) (.inl rfl) _)
          · have hge : x0 ≤ x1 := by assumption
            refine ⟨⟨k + 1, zs, by omega, by omega, by go_num, HZ.out.1, HZ.out.2.1.done (.inr ?_), HZ.out.2.2.1, only_drewN HZ.out.2.2.2 _⟩, by simp [intOf]; omega⟩
            rw [Nat.add_sub_cancel, ← HX1.out, ← HX0.out]; exact hge
    · go_wp2
      go_end0
      refine ⟨rfl, ys, H.out.1, fun p q h1 h2 h3 => H.out.2.1 p q h1 (by omega) h3, H.out.2.2⟩

set_option maxRecDepth 100000 in
set_option maxHeartbeats 1000000 in
theorem pdq_calls (base g n c : Nat) (lim : Value) (xs : List Int) (w : World) (hn : n = xs.length) (hl : n ≤ 12)
    (h : w.ownsRow base 5 1 (.slice (some ⟨g, 0, none⟩) n c) n (ib xs)) :
    Calls Try.prog 55 #[.slice (some ⟨g, 0, none⟩) n c, .int .i64 0, .int .i64 n, lim] w fun e w' => e = .returned (.tuple #[]) ∧
      ∃ ys : List Int, ys.Perm xs ∧ Srt ys n ∧ w'.ownsRow base 5 1 (.slice (some ⟨g, 0, none⟩) n c) n (ib ys) ∧ w.grownBy w' (some g) := by
  have H := Lib.hid (insertion_calls base g n c xs w hn (by omega) h)
  clear hn h
  go_enter Try.func55, Try.ntmps55
  go_wp2_with fail
  refine wp_loop_rounds 1 ?_
  rw [rounds_succ]
  go_wp2_with fail
  refine H.out.mono ?_
  rintro e w1 ⟨rfl, hq⟩
  have HQ := Lib.hid hq
  clear hq
  go_wp2_with fail
  refine bodyPost_ret (results_none rfl _ _ _) rfl ?_
  exact ⟨rfl, HQ.out⟩

set_option maxRecDepth 100000 in
set_option maxHeartbeats 1000000 in
theorem insertion_nil (w : World) : Calls Try.prog 58 #[.slice none 0 0, .int .i64 0, .int .i64 0] w fun e w' => e = .returned (.tuple #[]) ∧ w = w' := by
  go_enter Try.func58, Try.ntmps58
  go_wp2_with fail
  refine wp_loop_rounds 1 ?_
  rw [rounds_succ]
  go_wp2_with fail
  go_end0
  exact ⟨rfl, rfl⟩
set_option maxRecDepth 100000 in
set_option maxHeartbeats 1000000 in
theorem pdq_nil (lim : Value) (w : World) : Calls Try.prog 55 #[.slice none 0 0, .int .i64 0, .int .i64 0, lim] w fun e w' => e = .returned (.tuple #[]) ∧ w = w' := by
  go_enter Try.func55, Try.ntmps55
  go_wp2_with fail
  refine wp_loop_rounds 1 ?_
  rw [rounds_succ]
  go_wp2_with fail
  refine (insertion_nil _).mono ?_
  rintro e w1 ⟨rfl, rfl⟩
  go_wp2_with fail
  refine bodyPost_ret (results_none rfl _ _ _) rfl ?_
  exact ⟨rfl, rfl⟩

set_option maxRecDepth 100000 in
set_option maxHeartbeats 1000000 in
theorem Sort_calls (base n : Nat) (v : Value) (xs : List Int) (w : World) (hn : n = xs.length) (hl : n ≤ 12) (h : w.ownsRow base 5 1 v n (ib xs)) :
    Calls Try.prog 49 #[v] w fun e w' => e = .returned (.tuple #[]) ∧
      ∃ ys : List Int, ys.Perm xs ∧ Srt ys n ∧ w'.ownsRow base 5 1 v n (ib ys) ∧ w.grownBy w' v.ownBlock := by
  rcases h.2 with ⟨rfl, h0⟩ | ⟨g, cap, cur, rfl, hb, hg, hc, _⟩
  · subst h0
    have hx : xs = [] := List.eq_nil_of_length_eq_zero hn.symm
    subst hx
    have HO := Lib.hid h
    have HL := Lib.hid (Try.bits_Len 0 w (by omega) (by omega))
    clear hn h
    go_enter Try.func49, Try.ntmps49
    go_wp2_with fail
    refine HL.out.mono ?_
    rintro e w1 ⟨rfl, rfl⟩
    go_wp2_with fail
    refine (pdq_nil _ _).mono ?_
    rintro e w1 ⟨rfl, rfl⟩
    go_wp2_with fail
    go_end0
    exact ⟨rfl, [], List.Perm.refl _, fun p q h1 h2 => by omega, HO.out, World.grownBy.refl _ _⟩
  · have H := Lib.hid (fun lim => pdq_calls base g n cap lim xs w hn hl h)
    have hn1 : (0 : Int) ≤ (n : Int) := by omega
    have hn2 : (n : Int) ≤ 12 := by omega
    have HL := Lib.hid (Try.bits_Len (n : Int) w (by omega) (by omega))
    clear hn h hg
    go_enter Try.func49, Try.ntmps49
    go_wp2_with fail
    refine HL.out.mono ?_
    rintro e w1 ⟨rfl, rfl⟩
    go_wp2_with fail
    refine (H.out _).mono ?_
    rintro e w1 ⟨rfl, hq⟩
    have HQ := Lib.hid hq
    clear hq
    go_wp2_with fail
    go_end0
    exact ⟨rfl, HQ.out⟩

/-- ys is l, sorted -/
def SortOf (l ys : List UInt8) : Prop := ys.Perm l ∧ ys.Pairwise fun a b => a.toNat ≤ b.toNat

theorem sort_back {zs : List UInt8} {ys : List Int} {n : Nat} (hn : n = zs.length) (hp : ys.Perm (zs.map fun x => (x.toNat : Int))) (hs : Srt ys n) :
    ∃ bs : List UInt8, ib ys = bv bs ∧ bs.length = n ∧ SortOf zs bs := by
  have hmem : ∀ y ∈ ys, ∃ x : UInt8, y = (x.toNat : Int) := fun y hy => by
    obtain ⟨x, _, rfl⟩ := List.mem_map.1 (hp.mem_iff.1 hy)
    exact ⟨x, rfl⟩
  have e1 : (ys.map fun y => UInt8.ofNat y.toNat).map (fun x => (x.toNat : Int)) = ys := by
    rw [List.map_map]
    conv => rhs; rw [← List.map_id ys]
    refine List.map_congr_left fun y hy => ?_
    obtain ⟨x, rfl⟩ := hmem y hy
    simp
  have e2 : (zs.map fun x => (x.toNat : Int)).map (fun y => UInt8.ofNat y.toNat) = zs := by
    rw [List.map_map]
    conv => rhs; rw [← List.map_id zs]
    refine List.map_congr_left fun x _ => by simp
  have hl : ys.length = n := by rw [hp.length_eq, List.length_map, hn]
  refine ⟨ys.map fun y => UInt8.ofNat y.toNat, ?_, by simp [hl], ?_, ?_⟩
  · conv => lhs; rw [← e1]
    simp [ib, bv, Function.comp_def]
  · have := hp.map fun y => UInt8.ofNat y.toNat
    rwa [e2] at this
  · rw [List.pairwise_iff_getElem]
    intro i j hi hj hij
    have hi' : i < ys.length := by simpa using hi
    have hj' : j < ys.length := by simpa using hj
    have := hs i j hij (by omega) hj'
    simp only [List.getD, List.getElem?_eq_getElem hi', List.getElem?_eq_getElem hj', Option.getD_some] at this
    obtain ⟨x, hx⟩ := hmem ys[i] (List.getElem_mem _)
    obtain ⟨y, hy⟩ := hmem ys[j] (List.getElem_mem _)
    simp only [List.getElem_map, hx, hy, Int.toNat_natCast, UInt8.ofNat_toNat]
    omega

set_option maxRecDepth 100000 in
set_option maxHeartbeats 1000000 in
theorem Sorted_calls (Bs len cap : Nat) (A : Option Addr) (zs : List UInt8) (hlen : len = zs.length) (hreach : len ≤ 12) (w : World)
    (hc : w.cell? ⟨Bs, 0, none⟩ = some (.slice A len cap)) (hI : Reads w w.heap.size 1 A len (bv zs)) :
    Calls Try.prog 43 #[.func (.func 50) #[] #[.pointer (some ⟨Bs, 0, none⟩)]] w fun e W' => ∃ v bs, e = .returned v ∧ OB w.heap.size W' v bs ∧ SortOf zs bs ∧ Below w.heap.size w W' := by
  have H := Lib.hid (Collect_calls Bs len cap A zs hlen (by omega) w hc hI)
  have HL := Lib.hid hlen
  clear hlen hc hI
  go_enter Try.func43, Try.ntmps43
  go_wp2_with fail
  refine H.out.mono ?_
  rintro e w1 ⟨v, rfl, ho, hb⟩
  have HO := Lib.hid ho
  have hsz := hb.size
  have HB := Lib.hid hb
  clear ho hb
  go_wp2_with fail
  have hz : zs.length ≤ 12 := by have := HL.out; omega
  refine (Sort_calls w.heap.size zs.length v (zs.map fun x => (x.toNat : Int)) w1 (by simp) hz (by have := HO.out; simp only [ib, List.map_map]; exact this)).mono ?_
  rintro e w2 ⟨rfl, ys, hp, hs, ho2, hg⟩
  obtain ⟨bs, hbs, hbl, hso⟩ := sort_back rfl hp hs
  rw [hbs, ← hbl] at ho2
  have HO2 := Lib.hid ho2
  have HG := Lib.hid hg
  clear hp hs ho2 hg hbs hbl
  go_wp2_with fail
  go_ret
  exact ⟨v, bs, rfl, HO2.out, hso, HB.out.grown HG.out hsz (fun k hk => (HO.out.lt k hk).1)⟩

set_option maxHeartbeats 1000000 in
theorem Values_calls (A : Option Addr) (len cap : Nat) (w : World) :
    Calls Try.prog 44 #[.slice A len cap] w fun e w' => e = .returned (.func (.func 50) #[] #[.pointer (some ⟨w.heap.size, 0, none⟩)]) ∧ w.alloc (.cells #[.slice A len cap] 22) = w' := by
  go_enter Try.func44, Try.ntmps44
  go_wp2
  go_ret
  exact ⟨rfl, rfl⟩
end Go.Proofs.Ytfjlgpbplliccaa
