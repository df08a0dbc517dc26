/- The ends as they lie in memory; what asks them. -/
import Derived.Test.YtfjlgpbplliccaaS
namespace Go.Proofs.Ytfjlgpbplliccaa
open Go.RowKit

def Cfg.small (c : Cfg) : Prop := c.typ.length ≤ 1000 ∧ c.dev.length ≤ 1000 ∧ c.fns.length ≤ 1000
def St.small (s : St) : Prop := s.state ≤ 4 ∧ s.device.length ≤ 1000 ∧ s.agreed.length ≤ 1000
/-- an end: its block (of type t) holds its config, its state, its device, what is agreed on; the two lists are blocks of their own from base on. -/
structure EndAt (base t : Nat) (w : World) (g : Nat) (F G : Value) (c : Cfg) (s : St) : Prop where
  lo : base ≤ g
  blk : Blk w g t #[.string (strOf c.typ), .string (strOf c.dev), F, .int .i64 (s.state : Int), .string (strOf s.device), G]
  fns : OB base w F c.fns
  agr : OB base w G s.agreed
  cs : c.small
  ss : s.small

theorem EndAt.kept {base t g : Nat} {w w' : World} {F G : Value} {c : Cfg} {s : St} (h : EndAt base t w g F G c s) {row : Option Nat} (hg : w.grownBy w' row) (h1 : row ≠ some g)
    (h2 : F.ownBlock = none ∨ F.ownBlock ≠ row) (h3 : G.ownBlock = none ∨ G.ownBlock ≠ row) : EndAt base t w' g F G c s :=
  ⟨h.lo, h.blk.grown hg (fun e => h1 e.symm), h.fns.kept hg h2, h.agr.kept hg h3, h.cs, h.ss⟩
theorem none_or (v : Value) : v.ownBlock = none ∨ v.ownBlock ≠ none := by cases v.ownBlock <;> simp
theorem EndAt.below {base t g : Nat} {w w' : World} {F G : Value} {c : Cfg} {s : St} (h : EndAt base t w g F G c s) (hb : Below w.heap.size w w') : EndAt base t w' g F G c s :=
  h.kept (row := none) (only_of_below hb none) (by simp) (none_or F) (none_or G)
theorem EndAt.drewN {base t g : Nat} {w : World} {F G : Value} {c : Cfg} {s : St} (h : EndAt base t w g F G c s) (n : Nat) : EndAt base t (w.drewN n) g F G c s :=
  ⟨h.lo, h.blk, h.fns, h.agr, h.cs, h.ss⟩

section
variable {base : Nat} {w : World} {g : Nat} {F G : Value} {c : Cfg} {s : St}
theorem EndAt.cells {t : Nat} (h : EndAt base t w g F G c s) : w.cell? ⟨g, 0, none⟩ = some (.string (strOf c.typ)) ∧ w.cell? ⟨g, 1, none⟩ = some (.string (strOf c.dev)) ∧ w.cell? ⟨g, 2, none⟩ = some F ∧
    w.cell? ⟨g, 3, none⟩ = some (.int .i64 (s.state : Int)) ∧ w.cell? ⟨g, 4, none⟩ = some (.string (strOf s.device)) ∧ w.cell? ⟨g, 5, none⟩ = some G :=
  ⟨h.blk.cell 0, h.blk.cell 1, h.blk.cell 2, h.blk.cell 3, h.blk.cell 4, h.blk.cell 5⟩
theorem EndAt.free {t : Nat} (h : EndAt base t w g F G c s) : w.frozen? ⟨g, 0, none⟩ = false ∧ w.frozen? ⟨g, 1, none⟩ = false ∧ w.frozen? ⟨g, 2, none⟩ = false ∧
    w.frozen? ⟨g, 3, none⟩ = false ∧ w.frozen? ⟨g, 4, none⟩ = false ∧ w.frozen? ⟨g, 5, none⟩ = false :=
  ⟨h.blk.frozen 0, h.blk.frozen 1, h.blk.frozen 2, h.blk.frozen 3, h.blk.frozen 4, h.blk.frozen 5⟩

set_option maxHeartbeats 400000 in
theorem State_calls (h : EndAt base 55 w g F G c s) : Calls Try.prog 16 #[.pointer (some ⟨g, 0, none⟩)] w fun e w' => e = .returned (.int .i64 (s.state : Int)) ∧ w = w' := by
  obtain ⟨c0, c1, c2, c3, c4, c5⟩ := h.cells
  clear h
  go_enter Try.func16, Try.ntmps16
  go_wp2
  go_ret
  exact ⟨rfl, rfl⟩

set_option maxHeartbeats 400000 in
theorem Ready_calls (h : EndAt base 55 w g F G c s) : Calls Try.prog 30 #[.pointer (some ⟨g, 0, none⟩)] w fun e w' => e = .returned (.bool (s.state == 3)) ∧ w = w' := by
  have H := Lib.hid (State_calls h)
  clear h
  go_enter Try.func30, Try.ntmps30
  go_wp2_with fail
  refine H.out.mono ?_
  rintro e w1 ⟨rfl, rfl⟩
  go_wp2_with fail
  go_ret
  exact ⟨ret_bool (by rw [Bool.eq_iff_iff]; simp; omega), rfl⟩

set_option maxHeartbeats 400000 in
theorem Device_calls (h : EndAt base 55 w g F G c s) : Calls Try.prog 31 #[.pointer (some ⟨g, 0, none⟩)] w fun e w' => e = .returned (.string (strOf s.device)) ∧ w = w' := by
  obtain ⟨c0, c1, c2, c3, c4, c5⟩ := h.cells
  clear h
  go_enter Try.func31, Try.ntmps31
  go_wp2
  go_ret
  exact ⟨rfl, rfl⟩

def fnsOf (s : St) : List UInt8 := if s.state == 3 then s.agreed else []

set_option maxHeartbeats 400000 in
theorem Functions_calls (h : EndAt base 55 w g F G c s) : Calls Try.prog 32 #[.pointer (some ⟨g, 0, none⟩)] w fun e w' => ∃ v, e = .returned v ∧ OB w.heap.size w' v (fnsOf s) ∧ Below w.heap.size w w' := by
  have H := Lib.hid (Ready_calls h)
  obtain ⟨c0, c1, c2, c3, c4, c5⟩ := h.cells
  obtain ⟨A, cp, rfl, hc, hr, hb, _⟩ := h.agr.reads
  have hsz := h.ss.2.2
  clear h c0 c1 c2 c3 c4
  by_cases h3 : s.state = 3
  · have e3 : (s.state == 3) = true := by simp [h3]
    have HF := Lib.hid (show fnsOf s = s.agreed by simp [fnsOf, h3])
    clear h3
    go_enter Try.func32, Try.ntmps32
    go_wp2_with fail
    refine H.out.mono ?_
    rintro e w1 ⟨rfl, rfl⟩
    rw [e3]
    clear e3
    go_wp2_with fail
    refine (Clone_calls A s.agreed.length cp s.agreed _ rfl hr (by omega)).mono ?_
    rintro e w1 ⟨v, rfl, ho, hbb⟩
    go_wp2_with fail
    go_ret
    exact ⟨v, rfl, by rw [HF.out]; exact ho, hbb⟩
  · have e3 : (s.state == 3) = false := by simp [h3]
    have HF := Lib.hid (show fnsOf s = [] by simp [fnsOf, h3])
    clear h3
    go_enter Try.func32, Try.ntmps32
    go_wp2_with fail
    refine H.out.mono ?_
    rintro e w1 ⟨rfl, rfl⟩
    rw [e3]
    clear e3
    go_wp2_with fail
    go_ret
    exact ⟨_, rfl, by rw [HF.out]; exact World.ownsRow_nil _ _ _ _, Below.refl _ _⟩

theorem idxB_nonneg (l : List UInt8) (b : UInt8) : decide (0 ≤ idxB l b) = inB l b := by
  unfold idxB inB
  cases h : List.findIdx? (· == b) l with
  | none =>
    have := List.findIdx?_eq_none_iff.1 h
    have hn : ¬ b ∈ l := fun hm => by simpa using this b hm
    simp [hn]
  | some i =>
    obtain ⟨hi, hp, _⟩ := List.findIdx?_eq_some_iff_getElem.1 h
    have : l[i] = b := by simpa using hp
    have hm : b ∈ l := by rw [← this]; exact List.getElem_mem _
    simp [hm]

set_option maxHeartbeats 400000 in
theorem Has_calls (b : UInt8) (h : EndAt base 55 w g F G c s) : Calls Try.prog 29 #[.pointer (some ⟨g, 0, none⟩), .int .u8 b.toNat] w fun e w' => e = .returned (.bool (inB (fnsOf s) b)) ∧ Below w.heap.size w w' := by
  have H := Lib.hid (Functions_calls h)
  clear h
  go_enter Try.func29, Try.ntmps29
  go_wp2_with fail
  refine H.out.mono ?_
  rintro e w1 ⟨v, rfl, ho, hbb⟩
  obtain ⟨A, cp, rfl, hc, hr, _, _⟩ := ho.reads
  clear ho
  go_wp2_with fail
  refine (IndexByte_calls A _ cp (fnsOf s) b _ rfl hr).mono ?_
  rintro e w2 ⟨rfl, rfl⟩
  go_wp2_with fail
  go_ret
  exact ⟨ret_bool (idxB_nonneg _ _), hbb⟩

/-! ### own -/
set_option maxHeartbeats 400000 in
theorem own1_calls (b : UInt8) (B : Nat) (hB : w.cell? ⟨B, 0, none⟩ = some (.pointer (some ⟨g, 0, none⟩))) (h : EndAt base 55 w g F G c s) :
    Calls Try.prog 42 #[.int .u8 b.toNat, .pointer (some ⟨B, 0, none⟩)] w fun e w' => e = .returned (.bool (!inB c.fns b)) ∧ w = w' := by
  obtain ⟨c0, c1, c2, c3, c4, c5⟩ := h.cells
  obtain ⟨A, cp, rfl, hc, hr, hb, _⟩ := h.fns.reads
  have hsz := h.cs.2.2
  clear h c0 c1 c5 c3 c4
  go_enter Try.func42, Try.ntmps42
  go_wp2_with fail
  refine (IndexByte_calls A _ cp c.fns b _ rfl hr).mono ?_
  rintro e w2 ⟨rfl, rfl⟩
  go_wp2_with fail
  go_ret
  refine ⟨ret_bool ?_, rfl⟩
  rw [← idxB_nonneg]
  rw [Bool.eq_iff_iff]; simp

theorem ownB_bad {fns l : List UInt8} (k : Nat) (h : k < l.length) (h1 : (!inB fns l[k]) = true) : ownB fns l = false :=
  List.all_eq_false.2 ⟨l[k], List.getElem_mem h, by simpa using h1⟩
theorem ownB_take_succ {fns l : List UInt8} (k : Nat) (h : k < l.length) (h0 : ownB fns (l.take k) = true) (h1 : (!inB fns l[k]) = false) : ownB fns (l.take (k + 1)) = true :=
  all_take_succ k h h0 (by simpa using h1)

set_option maxHeartbeats 1000000 in
theorem IndexFunc_calls (B : Nat) (hB : w.cell? ⟨B, 0, none⟩ = some (.pointer (some ⟨g, 0, none⟩))) (h : EndAt base 55 w g F G c s) (A : Option Addr) (n cap : Nat) (l : List UInt8) (hn : n = l.length) (hr : RB w A l) (hl : l.length ≤ 1000) :
    Calls Try.prog 47 #[.slice A n cap, .func (.func 42) #[] #[.pointer (some ⟨B, 0, none⟩)]] w fun e w' => (∃ r : Int, e = .returned (.int .i64 r) ∧ decide (0 ≤ r) = !ownB c.fns l) ∧ w = w' := by
  subst hn
  have H := Lib.hid (fun b => own1_calls b B hB h)
  clear hB h
  go_enter Try.func47, Try.ntmps47
  go_wp2
  go_loop [8] (fun i => ∃ k : Nat, k ≤ l.length ∧ i = .int .i64 k ∧ Hid (ownB c.fns (l.take k) = true)) (fun i => l.length - (intOf i).toNat)
  case atStart => exact ⟨0, Nat.zero_le _, rfl, Lib.hid (by simp [ownB])⟩
  case round =>
    obtain ⟨k, hk, rfl, HB⟩ := hrel
    by_cases hlt : k < l.length
    · obtain ⟨ad, v, rfl, _, hx, hc⟩ := hr.at_ hlt
      rw [bv_get l k hlt] at hx
      injection hx with hx
      subst hx
      have HC := Lib.hid (H.out l[k])
      cases ho : (!inB c.fns l[k])
      · have HN := Lib.hid (ownB_take_succ k hlt HB.out ho)
        have HO := Lib.hid ho
        clear HB ho
        go_wp2_with fail
        refine HC.out.mono ?_
        rintro e w1 ⟨rfl, rfl⟩
        rw [HO.out]
        go_wp2_with fail
        go_round
        case rel => exact ⟨k + 1, by omega, by go_num, HN⟩
        case measure => simp [intOf]; omega
      · have HN := Lib.hid (ownB_bad k hlt ho)
        have HO := Lib.hid ho
        clear HB ho
        go_wp2_with fail
        refine HC.out.mono ?_
        rintro e w1 ⟨rfl, rfl⟩
        rw [HO.out]
        go_wp2_with fail
        go_ret
        exact ⟨⟨_, rfl, by rw [HN.out]; simp⟩, rfl⟩
    · have HN := Lib.hid (show ownB c.fns l = true by have := HB.out; rwa [List.take_of_length_le (by omega)] at this)
      clear HB
      go_wp2_with fail
      go_ret
      exact ⟨⟨_, rfl, by rw [HN.out]; rfl⟩, rfl⟩

set_option maxHeartbeats 1000000 in
theorem ContainsFunc_calls (B : Nat) (hB : w.cell? ⟨B, 0, none⟩ = some (.pointer (some ⟨g, 0, none⟩))) (h : EndAt base 55 w g F G c s) (A : Option Addr) (n cap : Nat) (l : List UInt8) (hn : n = l.length) (hr : RB w A l) (hl : l.length ≤ 1000) :
    Calls Try.prog 41 #[.slice A n cap, .func (.func 42) #[] #[.pointer (some ⟨B, 0, none⟩)]] w fun e w' => e = .returned (.bool (!ownB c.fns l)) ∧ w = w' := by
  have H := Lib.hid (IndexFunc_calls B hB h A n cap l hn hr hl)
  clear hB h hr hn
  go_enter Try.func41, Try.ntmps41
  go_wp2_with fail
  refine H.out.mono ?_
  rintro e w1 ⟨⟨r, rfl, hr⟩, rfl⟩
  have HR := Lib.hid hr
  clear hr
  go_wp2_with fail
  go_ret
  exact ⟨ret_bool HR.out, rfl⟩

set_option maxHeartbeats 1000000 in
theorem own_calls (h : EndAt base 55 w g F G c s) (A : Option Addr) (n cap : Nat) (l : List UInt8) (hn : n = l.length) (hr : RB w A l) (hl : l.length ≤ 1000) :
    Calls Try.prog 36 #[.pointer (some ⟨g, 0, none⟩), .slice A n cap] w fun e w' => e = .returned (.bool (ownB c.fns l)) ∧ Below w.heap.size w w' := by
  have hb : Below w.heap.size w (w.alloc (.cells #[.pointer (some ⟨g, 0, none⟩)] 28)) := (Below.refl _ w).alloc (Nat.le_refl _) _
  have H := Lib.hid (ContainsFunc_calls w.heap.size (by have := Blk.cell (Blk.new w 28 #[.pointer (some ⟨g, 0, none⟩)]) 0; exact this) (h.below hb) A n cap l hn ((hr.below hb).more hb.size) hl)
  have HB := Lib.hid hb
  clear h hr hn hb
  go_enter Try.func36, Try.ntmps36
  go_wp2_with fail
  refine H.out.mono ?_
  rintro e w1 ⟨rfl, rfl⟩
  go_wp2_with fail
  go_ret
  exact ⟨ret_bool (by simp), HB.out⟩

/-! ### once -/
theorem onceB_bad {l : List UInt8} (k : Nat) (h : k < l.length) (h1 : inB (l.take k) l[k] = true) : onceB l = false :=
  List.all_eq_false.2 ⟨k, List.mem_range.2 h, by rw [getD_of_lt h, h1]; simp⟩
theorem onceB_all {l : List UInt8} (h : ∀ k, k < l.length → inB (l.take k) (l.getD k 0) = false) : onceB l = true :=
  List.all_eq_true.2 fun k hk => by rw [h k (List.mem_range.1 hk)]; rfl

set_option maxHeartbeats 1000000 in
theorem once_calls (A : Option Addr) (n cap : Nat) (l : List UInt8) (hn : n = l.length) (hr : RB w A l) (hl : l.length ≤ 1000) (hc : n ≤ cap) :
    Calls Try.prog 35 #[.slice A n cap] w fun e w' => e = .returned (.bool (onceB l)) ∧ w = w' := by
  subst hn
  go_enter Try.func35, Try.ntmps35
  go_wp2
  go_loop [7] (fun i => ∃ k : Nat, k ≤ l.length ∧ i = .int .i64 k ∧ Hid (∀ j, j < k → inB (l.take j) (l.getD j 0) = false)) (fun i => l.length - (intOf i).toNat)
  case atStart => exact ⟨0, Nat.zero_le _, rfl, Lib.hid (fun j hj => absurd hj (by omega))⟩
  case round =>
    obtain ⟨k, hk, rfl, HB⟩ := hrel
    by_cases hlt : k < l.length
    · obtain ⟨ad, v, rfl, _, hx, hcc⟩ := hr.at_ hlt
      rw [bv_get l k hlt] at hx
      injection hx with hx
      subst hx
      have hlen : k = (l.take k).length := by simp; omega
      have HC := Lib.hid (IndexByte_calls (some ad) k cap (l.take k) l[k] w hlen (by show Reads _ _ _ _ _ _; rw [← hlen]; exact hr.take hk))
      clear hlen
      have hg := getD_of_lt hlt
      cases ho : inB (l.take k) l[k]
      · have HN := Lib.hid (all_lt_succ (p := fun j => inB (l.take j) (l.getD j 0) = false) HB.out (by show inB (l.take k) (l.getD k 0) = false; rw [hg]; exact ho))
        have HO := Lib.hid ((idxB_nonneg (l.take k) l[k]).trans ho)
        clear HB ho hg
        go_wp2_with fail
        refine HC.out.mono ?_
        rintro e w1 ⟨rfl, rfl⟩
        obtain ⟨r, hr⟩ : ∃ r, idxB (l.take k) l[k] = r := ⟨_, rfl⟩
        rw [hr]
        have hlt0 : r < 0 := by have := HO.out; rw [hr] at this; simpa using this
        clear hr
        go_wp2_with fail
        go_round
        case rel => exact ⟨k + 1, by omega, by go_num, HN⟩
        case measure => simp [intOf]; omega
      · have HN := Lib.hid (onceB_bad k hlt ho)
        have HO := Lib.hid ((idxB_nonneg (l.take k) l[k]).trans ho)
        clear HB ho hg
        go_wp2_with fail
        refine HC.out.mono ?_
        rintro e w1 ⟨rfl, rfl⟩
        obtain ⟨r, hr⟩ : ∃ r, idxB (l.take k) l[k] = r := ⟨_, rfl⟩
        rw [hr]
        have hlt0 : 0 ≤ r := by have := HO.out; rw [hr] at this; simpa using this
        clear hr
        go_wp2_with fail
        go_ret
        exact ⟨ret_bool HN.out.symm, rfl⟩
    · have HN := Lib.hid (onceB_all (l := l) (fun j hj => HB.out j (by omega)))
      clear HB
      go_wp2_with fail
      go_ret
      exact ⟨ret_bool HN.out.symm, rfl⟩
end
end Go.Proofs.Ytfjlgpbplliccaa
