/- The document's example of a tape. -/
import Derived.Test.YtefpobkkldgogaaDoorTaX
namespace Go.Proofs.YtefpobkkldgogaaDoor
open Go.RowKit

def awk : List UInt8 := [72, 32, 102, 102, 49, 97, 10, 75, 32, 49, 57, 32, 48, 32, 48, 10, 79, 32, 45, 10]
theorem awk_key : keyB [49, 57] [48] [48] = some ⟨75, [], 19, 0, 0⟩ := by
  unfold keyB
  rw [num64, num32, num64]
  rfl
theorem awk_parse : parseB awk = .inr [⟨72, [255, 26], 0, 0, 0⟩, ⟨75, [], 19, 0, 0⟩, ⟨79, [], 0, 0, 0⟩] := by
  unfold parseB
  rw [show spl 10 awk = [[72, 32, 102, 102, 49, 97], [75, 32, 49, 57, 32, 48, 32, 48], [79, 32, 45], []] from by decide]
  have l1 : lineB [72, 32, 102, 102, 49, 97] = some ⟨72, [255, 26], 0, 0, 0⟩ := by
    rw [line_hex (h := [72]) (x := [102, 102, 49, 97]) (by decide) (.inl rfl)]
    rfl
  have l2 : lineB [75, 32, 49, 57, 32, 48, 32, 48] = some ⟨75, [], 19, 0, 0⟩ := by
    rw [line_key (a := [49, 57]) (b := [48]) (c := [48]) (by decide)]
    exact awk_key
  have l3 : lineB [79, 32, 45] = some ⟨79, [], 0, 0, 0⟩ := by
    rw [line_hex (h := [79]) (x := [45]) (by decide) (.inr rfl)]
    rfl
  simp [parseL, l1, l2, l3]
theorem three {α β : Type} {f : α → β} {ps : List α} {x y z : β} (h : ps.map f = [x, y, z]) : ∃ a b c, ps = [a, b, c] ∧ f a = x ∧ f b = y ∧ f c = z := by
  cases ps with
  | nil => simp at h
  | cons a ps =>
    cases ps with
    | nil => simp at h
    | cons b ps =>
      cases ps with
      | nil => simp at h
      | cons c ps =>
        cases ps with
        | nil => simp at h; exact ⟨a, b, c, rfl, h.1, h.2.1, h.2.2⟩
        | cons d ps => simp at h
set_option maxRecDepth 100000 in
set_option maxHeartbeats 2000000 in
theorem awake_calls (w : World) (hw : GW w) : Calls Tryd.prog 5 #[] w fun e w' => e = .returned (.bool true) ∧ Below w.heap.size w w' := by
  have HP := Lib.hid (Parse_calls awk w hw (by decide))
  rw [awk_parse] at HP
  go_enter Tryd.func5, Tryd.ntmps5
  go_wp2_with fail
  refine HP.out.mono ?_
  rintro e w1 ⟨hb, v, ps, he, hst, hps⟩
  obtain ⟨⟨s1, u1⟩, ⟨s2, u2⟩, ⟨s3, u3⟩, rfl, h1, h2, h3⟩ := three (x := (⟨72, [255, 26], 0, 0, 0⟩ : Stp)) (y := ⟨75, [], 19, 0, 0⟩) (z := ⟨79, [], 0, 0, 0⟩) hps
  simp only at h1 h2 h3
  subst h1 h2 h3
  obtain ⟨g, cap, rfl, hg, hlt⟩ := hst.row.form (by simp)
  have hcell := hst.row.cells (g := g) rfl
  have c0 : w1.cell? ⟨g, 0, none⟩ = some (.int .u8 72) := by have := hcell 0 (.int .u8 72) rfl; rwa [addr_plain'] at this
  have c1 : w1.cell? ⟨g, 1, none⟩ = some u1 := by have := hcell 1 u1 rfl; rwa [addr_plain'] at this
  have c7 : w1.cell? ⟨g, 7, none⟩ = some (.int .i64 19) := by have := hcell 7 (.int .i64 19) rfl; rwa [addr_plain'] at this
  have c10 : w1.cell? ⟨g, 10, none⟩ = some (.int .u8 79) := by have := hcell 10 (.int .u8 79) rfl; rwa [addr_plain'] at this
  have hu1 : OB w.heap.size w1 u1 [255, 26] := hst.own _ (List.mem_cons_self ..)
  obtain ⟨A, c, hu, _, hr, _, _⟩ := hu1.reads
  have he' : e = .returned (.tuple #[.slice (some ⟨g, 0, none⟩) 3 cap, .int .i64 3, .int .i64 0]) := by rw [he]; rfl
  have hu' : u1 = .slice A 2 c := hu
  subst he'
  rw [hu'] at c1
  clear hu1 hu hu' he
  have HR := Lib.hid hr
  have HB := Lib.hid hb
  clear hst hps hr hb hcell
  have HR2 : Hid (RB (w1.alloc (.cells #[.int .u8 255, .int .u8 26] 5)) (some ⟨w1.heap.size, 0, none⟩) [255, 26]) := Lib.hid (by
    have := Reads.new_row w1 5 #[.int .u8 255, .int .u8 26] 2 1 rfl
    exact this.more (by simp))
  go_wp2_with fail
  refine (Same_calls A _ _ c _ _ [255, 26] [255, 26] _ rfl rfl (HR.out.alloc (Nat.le_refl _) _ |>.more (by simp)) HR2.out).mono ?_
  rintro e w2 ⟨rfl, rfl⟩
  rw [show (([255, 26] : List UInt8) == [255, 26]) = true from rfl]
  go_wp2_with fail
  go_ret
  exact ⟨rfl, HB.out.alloc HB.out.size _⟩
end Go.Proofs.YtefpobkkldgogaaDoor
