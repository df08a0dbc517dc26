/- All lines: the document's, the program's. -/
import Derived.Test.YtefpobkkldgogaaDoorTuH
import Derived.Test.YtefpobkkldgogaaDoorTaW
namespace Go.Proofs.YtefpobkkldgogaaDoor
open Go.RowKit Go.Lib

/-- what the steps ahead of place k say: their text, if each has one -/
theorem textT_take {l : List Stp} {k : Nat} {s : Stp} (hs : l[k]? = some s) : textT (l.take (k + 1)) = match textT (l.take k), lineT s with
    | some a, some b => some (a ++ (b ++ [10]))
    | _, _ => none := by
  induction l generalizing k with
  | nil => simp at hs
  | cons x r ih =>
    cases k with
    | zero =>
      simp at hs
      subst hs
      simp only [List.take_succ_cons, List.take_zero, textT]
      cases lineT x <;> simp
    | succ k =>
      simp at hs
      have h := ih hs
      rw [List.take_succ_cons, List.take_succ_cons]
      simp only [textT]
      rw [h]
      cases lineT x <;> cases textT (r.take k) <;> cases lineT s <;> simp
theorem textT_far {l : List Stp} {k : Nat} (h : textT (l.take k) = none) : textT l = none := by
  induction l generalizing k with
  | nil => simp [textT] at h
  | cons x r ih =>
    cases k with
    | zero => simp [textT] at h
    | succ k =>
      rw [List.take_succ_cons] at h
      simp only [textT] at h ⊢
      cases hx : lineT x with
      | none => rfl
      | some a =>
        rw [hx] at h
        cases hr : textT (r.take k) with
        | none => rw [ih hr]
        | some b => rw [hr] at h; cases h
theorem lineT_len {s : Stp} {t : List UInt8} (h : lineT s = some t) (hl : s.bytes.length ≤ 1000) (hr : inR s) : t.length ≤ 2010 := by
  unfold lineT at h
  split at h
  · injection h with h
    subst h
    have := hexOf_len s.bytes
    simp
    omega
  · split at h
    · injection h with h
      subst h
      have l1 := itoa_len hr.1
      have l2 := itoa_len (v := s.k2) ⟨by have := hr.2.1.1; omega, by have := hr.2.1.2; omega⟩
      have l3 := itoa_len hr.2.2
      simp
      omega
    · cases h
theorem textT_len {l : List Stp} {t : List UInt8} (h : textT l = some t) (hl : ∀ s ∈ l, s.bytes.length ≤ 1000) (hr : ∀ s ∈ l, inR s) : t.length ≤ 2011 * l.length := by
  induction l generalizing t with
  | nil => simp only [textT, Option.some.injEq] at h; subst h; simp
  | cons x r ih =>
    simp only [textT] at h
    cases hx : lineT x with
    | none => rw [hx] at h; simp at h
    | some a =>
      cases hb : textT r with
      | none => rw [hx, hb] at h; simp at h
      | some b =>
        rw [hx, hb] at h
        simp only [Option.some.injEq] at h
        subst h
        have h1 := lineT_len hx (hl x (by simp)) (hr x (by simp))
        have h2 := ih hb (fun s hs => hl s (by simp [hs])) (fun s hs => hr s (by simp [hs]))
        simp
        omega

def okL (l : List Stp) : Prop := (∀ s ∈ l, s.bytes.length ≤ 1000) ∧ ∀ s ∈ l, inR s
set_option maxRecDepth 100000 in
set_option maxHeartbeats 2000000 in
theorem RText_calls (A : Option Addr) (n c : Nat) (ps : List (Stp × Value)) (w : World) (h : StR w A n ps) (hn : n ≤ 100) (hok : okL (ps.map (·.1))) :
    Calls Tryd.prog 16 #[.slice A n c] w (LineTRet (textT (ps.map (·.1))) w) := by
  have H := Lib.hid h
  have HOK := Lib.hid hok
  obtain ⟨l, hl⟩ : ∃ l, ps.map (·.1) = l := ⟨_, rfl⟩
  rw [hl] at HOK ⊢
  have HL := Lib.hid hl
  have HN : Hid (n = l.length) := Lib.hid (by rw [← hl, List.length_map]; exact h.len)
  clear h hok hl
  go_enter Tryd.func16, Tryd.ntmps16
  go_wp2_with fail
  go_loopw [4, 11] (fun x i wr => ∃ k : Nat, ∃ t, k ≤ n ∧ i = .int .i64 k ∧ x = .string (strOf t) ∧ textT (l.take k) = some t ∧ Below w.heap.size w wr) (fun _ i _ => n - (RowKit.intOf i).toNat)
  case atStart => exact ⟨0, [], Nat.zero_le _, rfl, rfl, rfl, Below.refl _ _⟩
  case round =>
    obtain ⟨k, t, hk, rfl, rfl, ht, hb⟩ := hrel
    have HT := Lib.hid ht
    have HB := Lib.hid hb
    clear ht hb
    by_cases hlt : k < n
    · obtain ⟨ad, st, u, rfl, hadb, hp, hel, a0, a1, a2, a3, a4⟩ := (H.out.below HB.out).cells hlt
      have hls : l[k]? = some st := by rw [← HL.out, List.getElem?_map, hp]; rfl
      have hmem := List.mem_of_getElem? hls
      have HLL := Lib.hid (HOK.out.1 st hmem)
      have HR := Lib.hid (HOK.out.2 st hmem)
      have HST := Lib.hid (textT_take hls)
      have htl : t.length ≤ 2011 * 100 := by
        have := textT_len HT.out (fun s hs => HOK.out.1 s (List.mem_of_mem_take hs)) (fun s hs => HOK.out.2 s (List.mem_of_mem_take hs))
        have h2 : (l.take k).length ≤ 100 := by have := HN.out; simp; omega
        omega
      have hal : Below wr.heap.size wr (wr.alloc (.cells (stc st u) 42)) := (Below.refl _ wr).alloc (Nat.le_refl _) _
      have HLN := Lib.hid (RLine_calls st u _ ((hel.below hal).more hal.size) HLL.out HR.out)
      obtain ⟨ua, uc, rfl, _, _⟩ := hel
      clear hls hmem hp hal
      simp only [stc] at HLN
      go_wp2_with fail
      refine HLN.out.mono ?_
      rintro e w1 ⟨rfl, hb1⟩
      have HB1 := Lib.hid ((HB.out.alloc HB.out.size (.cells #[.int .u8 (st.kind.toNat : Int), .slice ua st.bytes.length uc, .int .i64 st.k1, .int .i32 st.k2, .int .i64 st.k3] 42)).trans (hb1.mono (by have := HB.out.size; simp; omega)))
      clear hb1
      cases hx : lineT st with
      | none =>
        have HNO := Lib.hid (textT_far (l := l) (k := k + 1) (by rw [HST.out, HT.out, hx]))
        clear hx
        go_wp2_with fail
        go_ret2
        exact ⟨by rw [HNO.out]; rfl, HB1.out⟩
      | some a =>
        have HNX := Lib.hid (show textT (l.take (k + 1)) = some (t ++ (a ++ [10])) by rw [HST.out, HT.out, hx])
        have hal := lineT_len hx HLL.out HR.out
        have q1 : ∀ W, (Op.stringOp .add (strOf a) (⟨#[10]⟩ : ByteArray)).run Tryd.prog W = .ok (.string (strOf (a ++ [10]))) W := fun W => run_add a [10] (by simp; omega) W
        have q2 := fun W => run_add t (a ++ [10]) (by simp; omega) W
        clear hx hal
        go_wp2_with fail
        go_roundw
        case rel => exact ⟨k + 1, t ++ (a ++ [10]), by omega, by go_num, rfl, HNX.out, HB1.out⟩
        case measure => simp [RowKit.intOf]; omega
    · obtain rfl : k = n := by omega
      have HTT : Hid (textT l = some t) := Lib.hid (by have := HT.out; rwa [List.take_of_length_le (by have := HN.out; omega)] at this)
      go_wp2_with fail
      go_ret2
      exact ⟨by rw [HTT.out]; rfl, HB.out⟩
end Go.Proofs.YtefpobkkldgogaaDoor
