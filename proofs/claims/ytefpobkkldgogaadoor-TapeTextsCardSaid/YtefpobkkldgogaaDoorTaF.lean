/- The document's line of bytes, read. -/
import Derived.Test.YtefpobkkldgogaaDoorTaE
import Derived.Test.YtefpobkkldgogaaDoorRw
namespace Go.Proofs.YtefpobkkldgogaaDoor
open Go.RowKit

@[go_sem high] theorem run_cut_strs (w : World) (A : Option Addr) (n c : Nat) (kl : IntKind) (l : Int) (h0 : 0 ≤ l) (hl : l ≤ n) :
    (Instr.sliceAt 59 (.slice A n c) (some (.int kl l)) none none).run Tryd.prog w = .ok (.slice (cutA A c l.toNat) (n - l.toNat) (c - l.toNat)) w := by
  obtain ⟨i0, hi0, _, hz1, _⟩ := info_parts str_info
  have hel : Tryd.prog.elem 59 = 9 := by simp [Program.elem, Tryd.underlying59]
  have ht' : Tryd.prog.underlying 59 = some (.slice (Tryd.prog.elem 59)) := by rw [hel]; exact Tryd.underlying59
  rw [run_sliceAt_slice w _ _ _ _ _ ht', run_slice_l w _ A n c ht' kl l h0 hl]
  simp [sizeOf, typeInfo, hel, hi0, hz1, Result.andThen, sliced, cutA]
@[go_sem high] theorem run_cut_strs_h (w : World) (A : Option Addr) (n c : Nat) (kl : IntKind) (l : Int) (h0 : 0 ≤ l) (hl : l ≤ c) :
    (Instr.sliceAt 59 (.slice A n c) none (some (.int kl l)) none).run Tryd.prog w = .ok (.slice A l.toNat c) w := by
  obtain ⟨i0, hi0, _, hz1, _⟩ := info_parts str_info
  have hel : Tryd.prog.elem 59 = 9 := by simp [Program.elem, Tryd.underlying59]
  have ht' : Tryd.prog.underlying 59 = some (.slice (Tryd.prog.elem 59)) := by rw [hel]; exact Tryd.underlying59
  rw [run_sliceAt_slice w _ _ _ _ _ ht', run_slice_h w _ A n c ht' kl l h0 hl]
  simp [sizeOf, typeInfo, hel, hi0, hz1, Result.andThen, sliced]
  intro _
  cases A with
  | none => rfl
  | some a => simp [Addr.add]

theorem RBytes_any (s : List UInt8) (w : World) (hs : s.length ≤ 1000000) : Calls Tryd.prog 46 #[.string (strOf s)] w (RHex (hexB s) w) := by
  by_cases h : s = [45]
  · subst h; exact RBytes_dash w
  · exact RBytes_calls s w hs h
def bytesW : List UInt8 := [98, 121, 116, 101, 115]
theorem OS.reads {base : Nat} {w : World} {v : Value} {ls : List (List UInt8)} (h : OS base w v ls) : ∃ A c, v = .slice A ls.length c ∧ ls.length ≤ c ∧ Reads w w.heap.size 1 A ls.length (sv ls) ∧ (∀ a, A = some a → base ≤ a.block ∧ a.block < w.heap.size) ∧ v.ownBlock = A.map (·.block) := by
  have hl := h.lt
  rcases h.2 with ⟨rfl, h0⟩ | ⟨g, cap, cur, rfl, hb, hg, hc, _⟩
  · have : ls = [] := List.eq_nil_of_length_eq_zero h0
    subst this
    exact ⟨none, 0, rfl, Nat.le_refl _, Reads.none_, fun a ha => (by cases ha), rfl⟩
  · exact ⟨some ⟨g, 0, none⟩, cap, rfl, hc, Reads.of_own h, fun a ha => by cases ha; exact hl g rfl, rfl⟩
/-- strings in the cells of block g -/
structure Strs (w : World) (g n c : Nat) (ls : List (List UInt8)) : Prop where
  len : n = ls.length
  cap : n ≤ c
  lt : g < w.heap.size
  at_ : ∀ j x, ls[j]? = some x → w.cell? ⟨g, j, none⟩ = some (.string (strOf x))
theorem OS.strs {base : Nat} {w : World} {v : Value} {ls : List (List UInt8)} (h : OS base w v ls) (hne : ls ≠ []) : ∃ g c n, v = .slice (some ⟨g, 0, none⟩) n c ∧ base ≤ g ∧ Strs w g n c ls := by
  obtain ⟨A, c, rfl, hc, _, _, _⟩ := h.reads
  obtain ⟨g, c', he, hg, hlt⟩ := h.form (List.length_pos_iff.2 hne)
  injection he with hA _ _
  subst hA
  refine ⟨g, c, _, rfl, (h.lt g rfl).1, rfl, hc, hlt, fun j x hx => ?_⟩
  have := h.cells (g := g) rfl j (.string (strOf x)) (by rw [sv, List.getElem?_map, hx]; rfl)
  rwa [addr_plain'] at this
theorem Strs.below {w w' : World} {g n c B : Nat} {ls : List (List UInt8)} (h : Strs w g n c ls) (hb : Below B w w') (hB : g < B) : Strs w' g n c ls :=
  ⟨h.len, h.cap, by rcases Nat.lt_or_ge g w'.heap.size with h' | h' <;> first | exact h' | (have := hb.block g hB; rw [Array.getElem?_eq_none h', Array.getElem?_eq_getElem h.lt] at this; cases this), fun j x hx => (hb.cell (p := ⟨g, j, none⟩) hB).trans (h.at_ j x hx)⟩
theorem RSplit_at (s : List UInt8) (b : UInt8) (w : World) (hs : s.length ≤ 1000000) :
    Calls Tryd.prog 22 #[.string (strOf s), .int .u8 b.toNat] w fun e w' => ∃ g c n, e = .returned (.slice (some ⟨g, 0, none⟩) n c) ∧ w.heap.size ≤ g ∧ Strs w' g n c (spl b s) ∧ Below w.heap.size w w' := by
  refine (RSplit_calls s b w hs).mono ?_
  rintro e w' ⟨v, rfl, ho, hb⟩
  obtain ⟨g, c, n, rfl, h1, h2⟩ := ho.strs (spl_ne _ _)
  exact ⟨g, c, n, rfl, h1, h2, hb⟩
def RLineRet (r : Option (List UInt8)) (w : World) (e : Ending) (w' : World) : Prop :=
  Below w.heap.size w w' ∧ ∃ v ys, e = .returned (.agg #[.bool r.isNone, .string (strOf bytesW), .int .i64 0, .int .i64 0, v, .string ⟨#[]⟩, .bool false, .int .i64 0, .int .i32 0, .int .i64 0]) ∧ OB w.heap.size w' v ys ∧ ∀ zs, r = some zs → ys = zs
set_option maxRecDepth 100000 in
set_option maxHeartbeats 2000000 in
theorem RRead_calls (s : List UInt8) (w : World) (hs : s.length ≤ 900000) (hne : (32 : UInt8) ∉ s) : Calls Tryd.prog 26 #[.string (strOf (bytesW ++ 32 :: s))] w (RLineRet (hexB s) w) := by
  have hsp : spl 32 (bytesW ++ 32 :: s) = [bytesW, s] := by
    rw [spl_hit (by decide), spl_miss hne]
  have HSP := Lib.hid (fun W => RSplit_calls (bytesW ++ 32 :: s) 32 W (by simp [bytesW]; omega))
  rw [hsp] at HSP
  clear hsp hne
  go_enter Tryd.func26, Tryd.ntmps26
  go_wp2_with fail
  have hb0 : Below w.heap.size w ((w.alloc (.cells #[.bool false, .string ⟨#[]⟩, .int .i64 0, .int .i64 0, .slice none 0 0, .string ⟨#[]⟩, .bool false, .int .i64 0, .int .i32 0, .int .i64 0] 67)).alloc (.cells #[.bool true, .string ⟨#[]⟩, .int .i64 0, .int .i64 0, .slice none 0 0, .string ⟨#[]⟩, .bool false, .int .i64 0, .int .i32 0, .int .i64 0] 67)) := ((Below.refl _ w).alloc (Nat.le_refl _) _).alloc (by simp) _
  have x0 := Blk.alloc (Blk.new w 67 #[.bool false, .string ⟨#[]⟩, .int .i64 0, .int .i64 0, .slice none 0 0, .string ⟨#[]⟩, .bool false, .int .i64 0, .int .i32 0, .int .i64 0]) (.cells #[.bool true, .string ⟨#[]⟩, .int .i64 0, .int .i64 0, .slice none 0 0, .string ⟨#[]⟩, .bool false, .int .i64 0, .int .i32 0, .int .i64 0] 67)
  obtain ⟨w0, hw0⟩ : ∃ w0, ((w.alloc (.cells #[.bool false, .string ⟨#[]⟩, .int .i64 0, .int .i64 0, .slice none 0 0, .string ⟨#[]⟩, .bool false, .int .i64 0, .int .i32 0, .int .i64 0] 67)).alloc (.cells #[.bool true, .string ⟨#[]⟩, .int .i64 0, .int .i64 0, .slice none 0 0, .string ⟨#[]⟩, .bool false, .int .i64 0, .int .i32 0, .int .i64 0] 67)) = w0 := ⟨_, rfl⟩
  rw [hw0] at hb0 x0 ⊢
  have hz0 : w.heap.size < w0.heap.size := x0.lt
  clear hw0
  refine (HSP.out _).mono ?_
  rintro e w1 ⟨v, rfl, hown, hb⟩
  obtain ⟨g, c, rfl, hg0, hg⟩ := hown.form (by simp)
  have hc : 2 ≤ c := by
    obtain ⟨A, c', he, h, _⟩ := hown.reads
    injection he with _ _ he
    rw [he]; exact h
  have c0 : w1.cell? ⟨g, 0, none⟩ = some (.string (strOf bytesW)) := by simpa [Addr.add] using hown.cells (g := g) rfl 0 _ rfl
  have c1 : w1.cell? ⟨g, 1, none⟩ = some (.string (strOf s)) := by simpa [Addr.add] using hown.cells (g := g) rfl 1 _ rfl
  have hcut : cutA (some ⟨g, 0, none⟩) c 1 = some ⟨g, 1, none⟩ := by unfold cutA; rw [if_neg (by omega)]; rfl
  have x1 := x0.below hb hz0
  have hb1 := hb0.trans (hb.mono hb0.size)
  have X1 := Lib.hid x1
  have HB1 := Lib.hid hb1
  clear hown hg0 x0 x1 hb0 hb1 hb
  go_wp2_with fail
  go_quiet (fail)
  have d1 : (w1.drewN nq).cell? ⟨g, 1, none⟩ = some (.string (strOf s)) := c1
  have hg2 : g < (w1.drewN nq).heap.size := hg
  have x2 := X1.out.drewN nq
  have hb2 := below_drewN HB1.out nq
  obtain ⟨w2, hw2⟩ : ∃ w2, w1.drewN nq = w2 := ⟨_, rfl⟩
  rw [hw2] at d1 hg2 x2 hb2 ⊢
  have X2 := Lib.hid x2
  have HB2 := Lib.hid hb2
  clear hw2 c0 c1 hg x2 hb2 X1 HB1
  have HN := Lib.hid (fun W => RBytes_any s W (by omega))
  go_wp2_with fail
  refine (HN.out _).mono ?_
  rintro e w3 ⟨hb3, v, ys, rfl, hob, hval⟩
  obtain ⟨va, vc, rfl, _, _, _, _⟩ := hob.reads
  obtain ⟨n, hn⟩ : ∃ n, ys.length = n := ⟨_, rfl⟩
  rw [hn] at hob ⊢
  have HNL := Lib.hid hn
  clear hn
  have x3 := (Blk.new w2 67 #[.bool false, .string (strOf bytesW), .int .i64 0, .int .i64 0, .slice none 0 0, .string ⟨#[]⟩, .bool false, .int .i64 0, .int .i32 0, .int .i64 0]).below hb3 (by simp)
  have y3 := (X2.out.alloc (.cells #[.bool false, .string (strOf bytesW), .int .i64 0, .int .i64 0, .slice none 0 0, .string ⟨#[]⟩, .bool false, .int .i64 0, .int .i32 0, .int .i64 0] 67)).below hb3 (by have := X2.out.lt; simp; omega)
  have hb03 : Below w.heap.size w w3 := (HB2.out.alloc HB2.out.size _).trans (hb3.mono (by have := HB2.out.size; simp; omega))
  have q4 := x3.cell 4
  have q0 := x3.cell 0
  have k4 := x3.frozen 4
  have k0 := x3.frozen 0
  have X4 := Lib.hid ((x3.set_ 4 (.slice va n vc)).set_ 0 (.bool (hexB s).isNone))
  have hne : w.heap.size ≠ w2.heap.size := by have := X2.out.lt; omega
  have y4 := (y3.far (p := ⟨w2.heap.size, 4, none⟩) hne (.slice va n vc)).far (p := ⟨w2.heap.size, 0, none⟩) hne (.bool (hexB s).isNone)
  have Y4 := Lib.hid y4
  have HOB := Lib.hid hob
  have HV := Lib.hid hval
  have HB3 := Lib.hid hb03
  clear hob hval hb03 hb3 x3 y3 y4
  go_wp2_with (first
    | (refine wpl_load rfl 67 _ rfl w2.heap.size rfl _ _ X4.out _ Tryd.underlying67 rfl 10 (by kernel_rfl) rfl ?_)
    | (refine wpl_store rfl 67 _ _ rfl w.heap.size rfl _ rfl _ _ Y4.out 10 (by kernel_rfl) rfl rfl ?h1 ?_; case h1 => (simp [Value.oneCell'])))
  refine bodyPost_ret (results_cell_row rfl _ _ w.heap.size _ _ _ _ rfl (Y4.out.row _) Tryd.underlying67 rfl (by kernel_rfl)) rfl ?_
  have hsz := HB2.out.size
  have hlo : ∀ k, (Value.slice va n vc).ownBlock = some k → w2.heap.size < k := fun k hk => by have := (HOB.out.lt k hk).1; simp [Array.size_push] at this; omega
  have o1 := World.ownsRow.kept HOB.out (grown_set w3 w2.heap.size 4 (.slice va n vc)) (.inr (fun e => by have := hlo _ e; omega))
  have o2 := World.ownsRow.kept o1 (grown_set _ w2.heap.size 0 (.bool (hexB s).isNone)) (.inr (fun e => by have := hlo _ e; omega))
  refine ⟨below_row ((HB3.out.setCell (p := ⟨w2.heap.size, 4, none⟩) hsz _).setCell (p := ⟨w2.heap.size, 0, none⟩) hsz _) (Nat.le_refl _) _, .slice va n vc, ys, rfl, ?_, HV.out⟩
  exact OB.low (World.ownsRow.kept o2 (grown_row _ w.heap.size _) (.inr (fun e => by have := hlo _ e; omega)) : OB _ _ _ _) (by simp; omega)
end Go.Proofs.YtefpobkkldgogaaDoor
