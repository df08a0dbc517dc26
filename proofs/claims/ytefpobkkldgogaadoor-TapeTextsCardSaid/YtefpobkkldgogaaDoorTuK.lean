/- All lines: the program's. -/
import Derived.Test.YtefpobkkldgogaaDoorTuI
namespace Go.Proofs.YtefpobkkldgogaaDoor
open Go.RowKit Go.Lib

theorem Bld.below {B b : Nat} {bs : List UInt8} {w w' : World} (h : BldI B b bs w) (hb : Below w.heap.size w w') : BldI B b bs w' := by
  have key : ∀ p, Lib.BuilderAt 74 5 B b p (bv bs) w → Lib.BuilderAt 74 5 B b p (bv bs) w' := fun p ⟨h1, v, h2, h3, h4⟩ =>
    ⟨h1, v, (hb.block b (Blk.lt h2)).trans h2, World.ownsRow.kept h3 (only_of_below hb none) (none_or v), h4⟩
  rcases h with h | h
  · exact .inl (key _ h)
  · exact .inr (key _ h)
set_option maxRecDepth 100000 in
set_option maxHeartbeats 2000000 in
theorem Text_calls (A : Option Addr) (n c : Nat) (ps : List (Stp × Value)) (w : World) (hw : GW w) (h : StR w A n ps) (hn : n ≤ 100) (hok : okL (ps.map (·.1))) :
    Calls Tryd.prog 14 #[.slice A n c] w (LineTRet (textT (ps.map (·.1))) w) := by
  have H := Lib.hid h
  have HW := Lib.hid hw
  have HOK := Lib.hid hok
  obtain ⟨l, hl⟩ : ∃ l, ps.map (·.1) = l := ⟨_, rfl⟩
  rw [hl] at HOK ⊢
  have HL := Lib.hid hl
  have HN : Hid (n = l.length) := Lib.hid (by rw [← hl, List.length_map]; exact h.len)
  have HB0 := Lib.hid (Bld.new w w.heap.size (Nat.le_refl _))
  clear h hok hl hw
  go_enter Tryd.func14, Tryd.ntmps14
  go_wp2_with fail
  go_loopw [11] (fun i wr => ∃ k : Nat, ∃ t, k ≤ n ∧ i = .int .i64 k ∧ textT (l.take k) = some t ∧ BldI w.heap.size w.heap.size t wr ∧ Below w.heap.size w wr) (fun i _ => n - (RowKit.intOf i).toNat)
  case atStart => exact ⟨0, [], Nat.zero_le _, rfl, rfl, HB0.out, (Below.refl _ w).alloc (Nat.le_refl _) _⟩
  case round =>
    obtain ⟨k, t, hk, rfl, ht, hbl, hb⟩ := hrel
    have HT := Lib.hid ht
    have HB := Lib.hid hb
    have HBL := Lib.hid hbl
    clear ht hb hbl
    by_cases hlt : k < n
    · obtain ⟨ad, st, u, rfl, hadb, hp, hel, a0, a1, a2, a3, a4⟩ := (H.out.below HB.out).cells hlt
      have hls : l[k]? = some st := by rw [← HL.out, List.getElem?_map, hp]; rfl
      have hmem := List.mem_of_getElem? hls
      have HLL := Lib.hid (HOK.out.1 st hmem)
      have HR := Lib.hid (HOK.out.2 st hmem)
      have HST := Lib.hid (textT_take hls)
      have htl : t.length ≤ 2011 * 100 := by
        have := textT_len HT.out (fun s hs => HOK.out.1 s (List.mem_of_mem_take hs)) (fun s hs => HOK.out.2 s (List.mem_of_mem_take hs))
        have h2 : (l.take k).length ≤ 100 := by have := HN.out; simp; omega
        omega
      have hal : Below wr.heap.size wr (wr.alloc (.cells (stc st u) 37)) := (Below.refl _ wr).alloc (Nat.le_refl _) _
      have HLN := Lib.hid (Line_calls st u _ ((HW.out.below HB.out).below hal) ((hel.below hal).more hal.size) HLL.out HR.out)
      have hbl1 := Bld.below HBL.out hal
      obtain ⟨ua, uc, rfl, _, _⟩ := hel
      have HBL1 := Lib.hid hbl1
      clear hls hmem hp hal hbl1
      simp only [stc] at HLN HBL1
      go_wp2_with fail
      refine HLN.out.mono ?_
      rintro e w1 ⟨rfl, hb1⟩
      have HB1 := Lib.hid ((HB.out.alloc HB.out.size (.cells #[.int .u8 (st.kind.toNat : Int), .slice ua st.bytes.length uc, .int .i64 st.k1, .int .i32 st.k2, .int .i64 st.k3] 37)).trans (hb1.mono (by have := HB.out.size; simp; omega)))
      have HBL2 := Lib.hid (Bld.below HBL1.out hb1)
      clear hb1
      cases hx : lineT st with
      | none =>
        have HNO := Lib.hid (textT_far (l := l) (k := k + 1) (by rw [HST.out, HT.out, hx]))
        clear hx
        go_wp2_with fail
        go_ret2
        exact ⟨by rw [HNO.out]; rfl, HB1.out⟩
      | some a =>
        have HNX := Lib.hid (show textT (l.take (k + 1)) = some (t ++ (a ++ [10])) by rw [HST.out, HT.out, hx])
        have hal := lineT_len hx HLL.out HR.out
        have q1 : ∀ W, (Op.stringOp .add (strOf a) (⟨#[10]⟩ : ByteArray)).run Tryd.prog W = .ok (.string (strOf (a ++ [10]))) W := fun W => run_add a [10] (by simp; omega) W
        have HWS := Lib.hid (WriteString_calls w.heap.size w.heap.size t (a ++ [10]) w1 HBL2.out (by simp; omega) HB1.out.size)
        clear hx hal
        go_wp2_with fail
        refine HWS.out.mono ?_
        rintro e w2 ⟨rfl, hbl3, hb2⟩
        have HBL3 := Lib.hid hbl3
        have HB2 := Lib.hid (HB1.out.trans hb2)
        clear hbl3 hb2
        go_wp2_with fail
        go_roundw
        case rel => exact ⟨k + 1, t ++ (a ++ [10]), by omega, by go_num, HNX.out, HBL3.out, HB2.out⟩
        case measure => simp [RowKit.intOf]; omega
    · obtain rfl : k = n := by omega
      have HTT : Hid (textT l = some t) := Lib.hid (by have := HT.out; rwa [List.take_of_length_le (by have := HN.out; omega)] at this)
      have HS := Lib.hid (Tryd.Builder_String_any w.heap.size w.heap.size t wr HBL.out HB.out.size)
      go_wp2_with fail
      refine HS.out.mono ?_
      rintro e w1 ⟨rfl, hb1⟩
      have HB1 := Lib.hid (HB.out.trans hb1)
      clear hb1
      go_wp2_with fail
      go_ret2
      exact ⟨by rw [HTT.out]; rfl, HB1.out⟩
end Go.Proofs.YtefpobkkldgogaaDoor
