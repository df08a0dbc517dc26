/- What the world holds of the library's variables; the library's contracts in the model's words. -/
import Derived.Test.YtefpobkkldgogaaDoorTaC
import Derived.Test.YtefpobkkldgogaaDoorTaS
import Derived.Test.YtefpobkkldgogaaDoorShelf
import Derived.Lib.SmallJoins
namespace Go.Proofs.YtefpobkkldgogaaDoor
open Go.RowKit

/-- the variables of the library that are read -/
structure GW (w : World) : Prop where
  ml : ∃ m : Int, w.cell? ⟨0, 0, none⟩ = some (.int .i64 m)
  es : ∃ te pe, w.cell? ⟨4, 0, none⟩ = some (.iface te pe)
  er : ∃ te pe, w.cell? ⟨5, 0, none⟩ = some (.iface te pe)
  tab : Lib.TabIs Tryd.prog w "internal/strconv.uint64pow10" .u64 Lib.pow10Tab
theorem tab_below {w w' : World} (h : Lib.TabIs Tryd.prog w "internal/strconv.uint64pow10" .u64 Lib.pow10Tab) (hb : Below w.heap.size w w') : Lib.TabIs Tryd.prog w' "internal/strconv.uint64pow10" .u64 Lib.pow10Tab := by
  unfold Lib.TabIs World.var? at h ⊢
  have hg : Tryd.prog.globalNamed "internal/strconv.uint64pow10" = some 1 := by kernel_rfl
  rw [hg] at h ⊢
  simp only [Option.bind_some] at h ⊢
  have hlt : 1 < w.heap.size := by
    by_cases hl : 1 < w.heap.size
    · exact hl
    · rw [Array.getElem?_eq_none (by omega)] at h
      simp at h
  rw [hb.block _ hlt]
  exact h
theorem GW.below {w w' : World} (h : GW w) (hb : Below w.heap.size w w') : GW w' := by
  obtain ⟨⟨m, h1⟩, ⟨a, b, h2⟩, ⟨c, d, h3⟩, h4⟩ := h
  exact ⟨⟨m, (hb.cell (World.block_lt_of_cell? _ _ h1)).trans h1⟩, ⟨a, b, (hb.cell (World.block_lt_of_cell? _ _ h2)).trans h2⟩, ⟨c, d, (hb.cell (World.block_lt_of_cell? _ _ h3)).trans h3⟩, tab_below h4 hb⟩

theorem mk_strOf (xs : List UInt8) : (⟨xs.toArray⟩ : ByteArray) = strOf xs := rfl
theorem drewN_below (w : World) (n : Nat) : Below w.heap.size w (w.drewN n) := ⟨rfl, rfl, rfl, Nat.le_refl _, fun _ _ => rfl⟩
theorem grow_below (w : World) (os : Array Obj) : Below w.heap.size w (Sort.grow w os) := by
  refine ⟨rfl, rfl, rfl, by simp [Sort.grow], fun b hb => ?_⟩
  simp [Sort.grow, Array.getElem?_append, hb]
theorem Cut_calls' (s : List UInt8) (b : UInt8) (w : World) (hw : GW w) (hs : s.length ≤ 4000000000) :
    Calls Tryd.prog 21 #[.string (strOf s), .string (strOf [b])] w fun e w' => e = .returned (.tuple #[.string (strOf (Lib.cut s [b]).1), .string (strOf (Lib.cut s [b]).2.1), .bool (Lib.cut s [b]).2.2]) ∧ Below w.heap.size w w' := by
  obtain ⟨m, hm⟩ := hw.ml
  refine (Tryd.strings_Cut (strOf s) (strOf [b]) m w (by rw [strOf_size]; omega) hm).mono ?_
  rintro e w' ⟨rfl, n, rfl⟩
  exact ⟨rfl, drewN_below _ _⟩
theorem Split_calls' (s : List UInt8) (b : UInt8) (w : World) (hw : GW w) (hs : s.length ≤ 4000000000) :
    Calls Tryd.prog 23 #[.string (strOf s), .string (strOf [b])] w fun e w' => e = .returned (.slice (some ⟨w.heap.size, 0, none⟩) (spl b s).length (spl b s).length) ∧ w' = w.alloc (.cells (sv (spl b s)).toArray 9) := by
  obtain ⟨m, hm⟩ := hw.ml
  have hd := Lib.splitB_data (strOf [b]) 0 (Lib.countB (strOf s) (strOf [b])) (strOf s)
  have hk : (Lib.splitB (strOf [b]) 0 (Lib.countB (strOf s) (strOf [b])) (strOf s)).map (·.data.toList) = spl b s := hd.trans (split_is b s.length s (Nat.le_refl _))
  have hv : (Lib.splitB (strOf [b]) 0 (Lib.countB (strOf s) (strOf [b])) (strOf s)).map Value.string = sv (spl b s) := by
    rw [← hk, sv, List.map_map]
    refine List.map_congr_left fun x _ => ?_
    simp [strOf]
  have hl : Lib.countB (strOf s) (strOf [b]) + 1 = (spl b s).length := by
    exact (split_len b s.length s (Nat.le_refl _)).symm
  refine (Tryd.strings_Split (strOf s) (strOf [b]) m w (by rw [strOf_size]; omega) hm (by simp [strOf_size])).mono ?_
  rintro e w' ⟨rfl, rfl⟩
  rw [hl, hv]
  exact ⟨rfl, rfl⟩
theorem FormatInt_calls' (n : Int) (h0 : -9223372036854775808 ≤ n) (h1 : n ≤ 9223372036854775807) (w : World) (hw : GW w) :
    Calls Tryd.prog 61 #[.int .i64 n, .int .i64 10] w fun e w' => e = .returned (.string (strOf (Lib.itoa n))) ∧ Below w.heap.size w w' := by
  refine (Tryd.strconv_FormatInt_10 n h0 h1 w hw.tab).mono ?_
  rintro e w' ⟨rfl, k, os, rfl⟩
  exact ⟨rfl, (drewN_below w k).trans (grow_below (w.drewN k) os)⟩
/-- the number that is read, and whether it was one -/
def ParsedB (B : Nat) (s : List UInt8) (w : World) (e : Ending) (w' : World) : Prop :=
  Below w.heap.size w w' ∧ ((∃ v, Lib.parseIntB B s = .ok v ∧ e = .returned (.tuple #[.int .i64 v, .nilIface])) ∨ ((∀ v, Lib.parseIntB B s ≠ .ok v) ∧ ∃ n t p, -9223372036854775808 ≤ n ∧ n ≤ 9223372036854775807 ∧ e = .returned (.tuple #[.int .i64 n, .iface t (.pointer (some p))])))
theorem sat_range (B : Nat) (hB : B = 64 ∨ B = 32) (s : List UInt8) : -9223372036854775808 ≤ Lib.intSat B s ∧ Lib.intSat B s ≤ 9223372036854775807 := by
  unfold Lib.intSat
  rcases hB with rfl | rfl <;> split <;> decide
theorem ParseInt64_calls' (s : List UInt8) (w : World) (hw : GW w) (hs : s.length ≤ 4000000000) : Calls Tryd.prog 60 #[.string (strOf s), .int .i64 10, .int .i64 64] w (ParsedB 64 s w) := by
  obtain ⟨a, b, h2⟩ := hw.es
  obtain ⟨c, d, h3⟩ := hw.er
  cases hp : Lib.parseIntB 64 s
  case ok v =>
    refine (Tryd.strconv_ParseInt_10_at64_ok (strOf s) (by rw [strOf_size]; omega) v hp w).mono ?_
    rintro e w' ⟨rfl, hw'⟩
    refine ⟨?_, .inl ⟨v, hp, rfl⟩⟩
    rcases hw' with rfl | ⟨t, rfl⟩
    · exact Below.refl _ _
    · exact Joins.below_bytesWorld _ _ _ _ (Nat.le_refl _)
  case range =>
    refine (Tryd.strconv_ParseInt_10_at64_range (strOf s) (by rw [strOf_size]; omega) hp _ w h3 (.inr ⟨_, _, rfl⟩)).mono ?_
    rintro e w' ⟨N, rfl, _, _, hb⟩
    exact ⟨hb, .inr ⟨fun v => (by rw [hp]; intro h; cases h), _, _, _, (sat_range 64 (.inl rfl) s).1, (sat_range 64 (.inl rfl) s).2, rfl⟩⟩
  · refine (Tryd.strconv_ParseInt_10_at64_syntax (strOf s) (by rw [strOf_size]; omega) hp _ w h2 (.inr ⟨_, _, rfl⟩)).mono ?_
    rintro e w' ⟨N, rfl, _, _, hb⟩
    exact ⟨hb, .inr ⟨fun v => (by rw [hp]; intro h; cases h), _, _, _, by decide, by decide, rfl⟩⟩
theorem ParseInt32_calls' (s : List UInt8) (w : World) (hw : GW w) (hs : s.length ≤ 4000000000) : Calls Tryd.prog 60 #[.string (strOf s), .int .i64 10, .int .i64 32] w (ParsedB 32 s w) := by
  obtain ⟨a, b, h2⟩ := hw.es
  obtain ⟨c, d, h3⟩ := hw.er
  cases hp : Lib.parseIntB 32 s
  case ok v =>
    refine (Tryd.strconv_ParseInt_10_at32_ok (strOf s) (by rw [strOf_size]; omega) v hp w).mono ?_
    rintro e w' ⟨rfl, hw'⟩
    refine ⟨?_, .inl ⟨v, hp, rfl⟩⟩
    rcases hw' with rfl | ⟨t, rfl⟩
    · exact Below.refl _ _
    · exact Joins.below_bytesWorld _ _ _ _ (Nat.le_refl _)
  case range =>
    refine (Tryd.strconv_ParseInt_10_at32_range (strOf s) (by rw [strOf_size]; omega) hp _ w h3 (.inr ⟨_, _, rfl⟩)).mono ?_
    rintro e w' ⟨N, rfl, _, _, hb⟩
    exact ⟨hb, .inr ⟨fun v => (by rw [hp]; intro h; cases h), _, _, _, (sat_range 32 (.inr rfl) s).1, (sat_range 32 (.inr rfl) s).2, rfl⟩⟩
  · refine (Tryd.strconv_ParseInt_10_at32_syntax (strOf s) (by rw [strOf_size]; omega) hp _ w h2 (.inr ⟨_, _, rfl⟩)).mono ?_
    rintro e w' ⟨N, rfl, _, _, hb⟩
    exact ⟨hb, .inr ⟨fun v => (by rw [hp]; intro h; cases h), _, _, _, by decide, by decide, rfl⟩⟩
end Go.Proofs.YtefpobkkldgogaaDoor
