/- The document's line. -/
import Derived.Test.YtefpobkkldgogaaDoorTaN
import Derived.Test.YtefpobkkldgogaaDoorTaB
namespace Go.Proofs.YtefpobkkldgogaaDoor
open Go.RowKit

/-- a step's cells -/
def stc (st : Stp) (v : Value) : Array Value := #[.int .u8 (st.kind.toNat : Int), v, .int .i64 st.k1, .int .i32 st.k2, .int .i64 st.k3]
def noStp : Stp := ⟨0, [], 0, 0, 0⟩
def LineRet (r : Option Stp) (w : World) (e : Ending) (w' : World) : Prop :=
  Below w.heap.size w w' ∧ ∃ st v, e = .returned (.tuple #[.agg (stc st v), .int .i64 (if r.isSome then 0 else 4)]) ∧ OB w.heap.size w' v st.bytes ∧ st = r.getD noStp
theorem line_none {s : List UInt8} {h : List UInt8} {t : List (List UInt8)} (hs : spl 32 s = h :: t) (h1 : (h = [72] ∨ h = [79]) → t.length ≠ 1) (h2 : h = [75] → t.length ≠ 3) : lineB s = none := by
  unfold lineB
  rw [hs]
  match t, h1, h2 with
  | [], _, _ => rfl
  | [x], h1, _ => exact if_neg (fun e => h1 e rfl)
  | [_, _], _, _ => rfl
  | [_, _, _], _, h2 => exact if_neg (fun e => h2 e rfl)
  | _ :: _ :: _ :: _ :: _, _, _ => rfl
theorem line_hex {s x h : List UInt8} (hs : spl 32 s = [h, x]) (h1 : h = [72] ∨ h = [79]) : lineB s = (hexB x).map fun p => ⟨h.headD 0, p, 0, 0, 0⟩ := by
  unfold lineB
  rw [hs]
  exact if_pos h1
theorem line_key {s a b c : List UInt8} (hs : spl 32 s = [[75], a, b, c]) : lineB s = keyB a b c := by
  unfold lineB
  rw [hs]
  exact if_pos rfl
theorem spl_mem {b : UInt8} : ∀ (s : List UInt8), (∀ p ∈ spl b s, b ∉ p ∧ p.length ≤ s.length) := by
  intro s
  induction s with
  | nil => intro p hp; simp [spl] at hp; subst hp; simp
  | cons c r ih =>
    intro p hp
    unfold spl at hp
    split at hp
    · rcases List.mem_cons.1 hp with rfl | hp
      · simp
      · exact ⟨(ih p hp).1, by simp; have := (ih p hp).2; omega⟩
    · rename_i hc
      split at hp
      · rename_i h t he
        rcases List.mem_cons.1 hp with rfl | hp
        · have := ih h (by rw [he]; simp)
          refine ⟨?_, by simp; exact this.2⟩
          rw [List.mem_cons, not_or]
          exact ⟨fun e => hc e.symm, this.1⟩
        · have := ih p (by rw [he]; simp [hp])
          exact ⟨this.1, by simp; omega⟩
      · simp at hp; subst hp; simp; exact fun e => hc e.symm
theorem cat_bytes (x : List UInt8) : (⟨#[98, 121, 116, 101, 115, 32]⟩ : ByteArray) ++ strOf x = strOf (bytesW ++ 32 :: x) := by
  apply Go.WideShapes.bytes_inj
  simp [strOf, bytesW]

def zst : Array Value := #[.int .u8 0, .slice none 0 0, .int .i64 0, .int .i32 0, .int .i64 0]
set_option maxRecDepth 100000 in
set_option maxHeartbeats 2000000 in
theorem RReadLine_calls (s : List UInt8) (w : World) (hs : s.length ≤ 900000) : Calls Tryd.prog 12 #[.string (strOf s)] w (LineRet (lineB s) w) := by
  have HSP := Lib.hid (fun W => RSplit_at s 32 W (by omega))
  have hmem := spl_mem (b := 32) s
  obtain ⟨h, t, hspl⟩ : ∃ h t, spl 32 s = h :: t := by
    cases hx : spl 32 s with
    | nil => exact absurd hx (spl_ne _ _)
    | cons h t => exact ⟨h, t, rfl⟩
  rw [hspl] at HSP hmem
  have HSPL := Lib.hid hspl
  have HM := Lib.hid hmem
  clear hspl hmem
  go_enter Tryd.func12, Tryd.ntmps12
  go_wp2_with fail
  have hb0 : Below w.heap.size w (w.alloc (.cells #[.int .u8 0, .slice none 0 0, .int .i64 0, .int .i32 0, .int .i64 0] 42)) := (Below.refl _ w).alloc (Nat.le_refl _) _
  have x0 := Blk.new w 42 #[.int .u8 0, .slice none 0 0, .int .i64 0, .int .i32 0, .int .i64 0]
  refine (HSP.out _).mono ?_
  rintro e w1 ⟨g, c, n, rfl, hg0, hst, hb⟩
  have c0 := hst.at_ 0 h rfl
  have hg := hst.lt
  have hn1 : 1 ≤ n := by rw [hst.len]; simp
  have x1 := x0.below hb x0.lt
  have X1 := Lib.hid x1
  have HB1 := Lib.hid (hb0.trans (hb.mono hb0.size))
  have HST := Lib.hid hst
  clear hg0 hst hb hb0 x0 x1
  by_cases h1 : h = [72] ∨ h = [79]
  · by_cases h2 : t.length = 1
    · obtain ⟨x, rfl⟩ : ∃ x, t = [x] := List.length_eq_one_iff.1 h2
      have hn2 : ((n : Int) == 2) = true := by have := HST.out.len; simp at this ⊢; omega
      have hn2' : (1 : Int) < (n : Int) := by have := HST.out.len; simp at this; omega
      have t3 : (h == [75]) = false := by rcases h1 with rfl | rfl <;> rfl
      have hor : (h == [72]) = true ∨ ((h == [72]) = false ∧ (h == [79]) = true) := by rcases h1 with rfl | rfl <;> first | exact .inl rfl | exact .inr ⟨rfl, rfl⟩
      have HL := Lib.hid (line_hex HSPL.out h1)
      have hx := HM.out x (by simp)
      have HRD := Lib.hid (fun W => RRead_calls x W (by omega) hx.1)
      have c1 := HST.out.at_ 1 x rfl
      have hadd : ∀ W, (Op.stringOp .add (⟨#[98, 121, 116, 101, 115, 32]⟩ : ByteArray) (strOf x)).run Tryd.prog W = .ok (.string (strOf (bytesW ++ 32 :: x))) W := fun W => by
        exact (run_string_add_sum (P := Tryd.prog) (w := W) _ _ (by have := hx.2; rw [show (⟨#[98, 121, 116, 101, 115, 32]⟩ : ByteArray).size = 6 from rfl, strOf_size]; omega)).trans (by rw [cat_bytes])
      have hh1 : h.length = 1 := by rcases h1 with rfl | rfl <;> rfl
      obtain ⟨hc0, rfl⟩ : ∃ hc0, h = [hc0] := List.length_eq_one_iff.1 hh1
      clear h1 h2 hx hh1
      rcases hor with t1 | ⟨t1, t2⟩
      all_goals
        go_wp2_with fail
        refine (HRD.out _).mono ?_
        rintro e w2 ⟨hb2, v, ys, rfl, hob, hval⟩
        obtain ⟨va, vc, rfl, _, _, _, _⟩ := hob.reads
        obtain ⟨m, hm⟩ : ∃ m, ys.length = m := ⟨_, rfl⟩
        rw [hm] at hob ⊢
        have HML := Lib.hid hm
        have x2 := (X1.out.alloc (.cells #[.int .u8 0, .slice none 0 0, .int .i64 0, .int .i32 0, .int .i64 0] 42)).below hb2 (by have := X1.out.lt; simp; omega)
        have y2 := (Blk.new w1 42 #[.int .u8 0, .slice none 0 0, .int .i64 0, .int .i32 0, .int .i64 0]).below hb2 (by simp)
        have hb02 := (HB1.out.alloc HB1.out.size (.cells #[.int .u8 0, .slice none 0 0, .int .i64 0, .int .i32 0, .int .i64 0] 42)).trans (hb2.mono (by have := HB1.out.size; simp; omega))
        have d0 : w2.cell? ⟨g, 0, none⟩ = some (.string (strOf [hc0])) := (hb2.cell (p := ⟨g, 0, none⟩) (by simp; omega)).trans ((World.cell?_alloc_lt w1 _ ⟨g, 0, none⟩ hg).trans c0)
        have hg2 : g < w2.heap.size := by have := hb2.size; simp at this; omega
        have X2 := Lib.hid x2
        have Y2 := Lib.hid y2
        have HB2 := Lib.hid hb02
        have HV := Lib.hid hval
        have HOB := Lib.hid hob
        clear hm x2 y2 hb02 hval hob hb2 c0 c1 hg
        cases hB : hexB x with
        | none =>
          have HN := Lib.hid hB
          clear hB
          go_wp2_with (first
            | (refine wpl_load rfl 42 _ rfl w1.heap.size rfl _ _ (Y2.out.alloc _) _ Tryd.underlying42 rfl 5 (by kernel_rfl) rfl ?_)
            | (refine wpl_store rfl 42 _ _ rfl w.heap.size rfl _ rfl _ _ (X2.out.alloc _) 5 (by kernel_rfl) rfl rfl ?h1 ?_; case h1 => (simp [Value.oneCell'])))
          refine bodyPost_ret (results_row_tmp rfl _ _ w.heap.size _ _ _ _ rfl ((X2.out.alloc _).row _) Tryd.underlying42 rfl (by kernel_rfl)) rfl ?_
          have hl0 : lineB s = none := by rw [HL.out, HN.out]; rfl
          exact ⟨below_row (HB2.out.alloc HB2.out.size _) (Nat.le_refl _) _, noStp, .slice none 0 0, by rw [hl0]; rfl, World.ownsRow_nil _ _ _ _, by rw [hl0]; rfl⟩
        | some p =>
          have HN := Lib.hid hB
          clear hB
          have hlt2 := X2.out.lt
          have z0 := X2.out.cell 0
          have z1 := X2.out.cell 1
          have z2 := X2.out.cell 2
          have z3 := X2.out.cell 3
          have z4 := X2.out.cell 4
          have f0 := X2.out.frozen 0
          have f1 := X2.out.frozen 1
          have f2 := X2.out.frozen 2
          have f3 := X2.out.frozen 3
          have f4 := X2.out.frozen 4
          go_wp2_with fail
          go_region
          go_wp2_with fail
          have hlo : ∀ k, (Value.slice va m vc).ownBlock = some k → w.heap.size < k := fun k hk => by have h1 := (HOB.out.lt k hk).1; have h2 := X1.out.lt; simp at h1; omega
          have hl0 : lineB s = some ⟨hc0, p, 0, 0, 0⟩ := by rw [HL.out, HN.out]; rfl
          have hyp : ys = p := HV.out p HN.out
          refine bodyPost_ret (results_row_tmp rfl _ _ w.heap.size _ _ _ _ rfl (((X2.out.set5 (.int .u8 hc0.toNat) (.slice va m vc) (.int .i64 0) (.int .i32 0) (.int .i64 0)).alloc _).drew) Tryd.underlying42 rfl (by kernel_rfl)) rfl ?_
          have hbz := (below_set5 HB2.out (Nat.le_refl _) (.int .u8 hc0.toNat) (.slice va m vc) (.int .i64 0) (.int .i32 0) (.int .i64 0))
          have ho := own_set5 (g := w.heap.size) HOB.out (fun e => Nat.lt_irrefl _ (hlo _ e)) (.int .u8 hc0.toNat) (.slice va m vc) (.int .i64 0) (.int .i32 0) (.int .i64 0)
          refine ⟨(hbz.alloc hbz.size _).drew, ⟨hc0, p, 0, 0, 0⟩, .slice va m vc, by rw [hl0]; rfl, ?_, by rw [hl0]; rfl⟩
          have hsz1 := HB1.out.size
          rw [← hyp, HML.out.symm] at *
          exact OB.low (ho.alloc _) (by simp; omega)
    · have HNO := Lib.hid (line_none HSPL.out (fun _ => h2) (fun e => by rcases h1 with rfl | rfl <;> cases e))
      have hn2 : ((n : Int) == 2) = false := by have := HST.out.len; simp at this ⊢; omega
      have t3 : (h == [75]) = false := by rcases h1 with rfl | rfl <;> rfl
      have hor : (h == [72]) = true ∨ ((h == [72]) = false ∧ (h == [79]) = true) := by rcases h1 with rfl | rfl <;> first | exact .inl rfl | exact .inr ⟨rfl, rfl⟩
      clear h1 h2
      rcases hor with t1 | ⟨t1, t2⟩
      all_goals
        go_wp2_with (refine wpl_store rfl 42 _ _ rfl w.heap.size rfl _ rfl _ _ (X1.out.alloc _) 5 (by kernel_rfl) rfl rfl ?h1 ?_; case h1 => (simp [Value.oneCell']))
        refine bodyPost_ret (results_row_tmp rfl _ _ w.heap.size _ _ _ _ rfl ((X1.out.alloc _).row _) Tryd.underlying42 rfl (by kernel_rfl)) rfl ?_
        exact ⟨below_row (HB1.out.alloc HB1.out.size _) (Nat.le_refl _) _, noStp, .slice none 0 0, by rw [HNO.out]; rfl, World.ownsRow_nil _ _ _ _, by rw [HNO.out]; rfl⟩
  · by_cases h2 : h = [75] ∧ t.length = 3
    · obtain ⟨rfl, h4⟩ := h2
      obtain ⟨a, b, cc, rfl⟩ : ∃ a b cc, t = [a, b, cc] := by
        match t, h4 with
        | [a, b, cc], _ => exact ⟨a, b, cc, rfl⟩
      have hn4 : ((n : Int) == 4) = true := by have := HST.out.len; simp at this ⊢; omega
      have hn4' : (3 : Int) < (n : Int) := by have := HST.out.len; simp at this; omega
      have c1 := HST.out.at_ 1 a rfl
      have c2 := HST.out.at_ 2 b rfl
      have c3 := HST.out.at_ 3 cc rfl
      have ha := HM.out a (by simp)
      have hb := HM.out b (by simp)
      have hcc := HM.out cc (by simp)
      have HA := Lib.hid (fun W => RNumber_calls a W (-9223372036854775808) 9223372036854775807 (by omega))
      have HB := Lib.hid (fun W => RNumber_calls b W (-2147483648) 2147483647 (by omega))
      have HC := Lib.hid (fun W => RNumber_calls cc W (-9223372036854775808) 9223372036854775807 (by omega))
      rw [← num64] at HA HC
      rw [← num32] at HB
      have HL := Lib.hid (line_key HSPL.out)
      clear h1 h4 ha hb hcc
      go_wp2_with fail
      refine (HA.out _).mono ?_
      rintro e w2 ⟨rfl, n1, rfl, hl1, hu1, hv1⟩
      have HV1 := Lib.hid hv1
      clear hv1
      go_wp2_with fail
      refine (HB.out _).mono ?_
      rintro e w2 ⟨rfl, n2, rfl, hl2, hu2, hv2⟩
      have HV2 := Lib.hid hv2
      clear hv2
      go_wp2_with fail
      refine (HC.out _).mono ?_
      rintro e w2 ⟨rfl, n3, rfl, hl3, hu3, hv3⟩
      have HV3 := Lib.hid hv3
      clear hv3
      have hki := key_isSome a b cc
      obtain ⟨ka, hka⟩ : ∃ ka, (numB 64 a).isSome = ka := ⟨_, rfl⟩
      obtain ⟨kb, hkb⟩ : ∃ kb, (numB 32 b).isSome = kb := ⟨_, rfl⟩
      obtain ⟨kc, hkc⟩ : ∃ kc, (numB 64 cc).isSome = kc := ⟨_, rfl⟩
      rw [hka, hkb, hkc] at hki ⊢
      have HKI := Lib.hid hki
      have hr2 : -2147483648 ≤ n2 ∧ n2 ≤ 2147483647 ∨ numB 32 b = none := by
        cases h : numB 32 b with
        | none => exact .inr rfl
        | some v =>
          have := (numB_iff (by omega) (by omega) b v).1 h
          rw [HV2.out v h]
          exact .inl (by omega)
      have HKV := Lib.hid (key_val HV1.out HV2.out HV3.out hr2)
      have hlt1 := X1.out.lt
      clear hki hka hkb hkc hr2
      cases ka <;> cases kb <;> cases kc
      case true.true.true =>
        go_wp2_with (refine wpl_store rfl 42 _ _ rfl w.heap.size rfl _ rfl _ _ (X1.out.alloc _) 5 (by kernel_rfl) rfl rfl ?h1 ?_; case h1 => (simp [Value.oneCell']))
        refine bodyPost_ret (results_row_tmp rfl _ _ w.heap.size _ _ _ _ rfl ((X1.out.alloc _).row _) Tryd.underlying42 rfl (by kernel_rfl)) rfl ?_
        obtain ⟨st, hst⟩ := Option.isSome_iff_exists.1 HKI.out
        have hl0 : lineB s = some st := HL.out.trans hst
        have hst2 := HKV.out st hst
        subst hst2
        exact ⟨below_row (HB1.out.alloc HB1.out.size _) (Nat.le_refl _) _, ⟨75, [], n1, wrap32 n2, n3⟩, .slice none 0 0, by rw [hl0]; rfl, World.ownsRow_nil _ _ _ _, by rw [hl0]; rfl⟩
      all_goals
        have hk0 : keyB a b cc = none := Option.not_isSome_iff_eq_none.1 (by rw [HKI.out]; decide)
        have HNO := Lib.hid (HL.out.trans hk0)
        clear hk0
        go_wp2_with (refine wpl_store rfl 42 _ _ rfl w.heap.size rfl _ rfl _ _ (X1.out.alloc _) 5 (by kernel_rfl) rfl rfl ?h1 ?_; case h1 => (simp [Value.oneCell']))
        refine bodyPost_ret (results_row_tmp rfl _ _ w.heap.size _ _ _ _ rfl ((X1.out.alloc _).row _) Tryd.underlying42 rfl (by kernel_rfl)) rfl ?_
        exact ⟨below_row (HB1.out.alloc HB1.out.size _) (Nat.le_refl _) _, noStp, .slice none 0 0, by rw [HNO.out]; rfl, World.ownsRow_nil _ _ _ _, by rw [HNO.out]; rfl⟩
    · have t1 : (h == [72]) = false := by simp; exact fun e => h1 (.inl e)
      have t2 : (h == [79]) = false := by simp; exact fun e => h1 (.inr e)
      have HNO := Lib.hid (line_none HSPL.out (fun e => absurd e h1) (fun e e2 => h2 ⟨e, e2⟩))
      by_cases h3 : h = [75]
      · have t3 : (h == [75]) = true := by simp [h3]
        have hn4 : ((n : Int) == 4) = false := by have := HST.out.len; have h4 : ¬ t.length = 3 := fun e => h2 ⟨h3, e⟩; simp at this ⊢; omega
        clear h1 h2 h3
        go_wp2_with (refine wpl_store rfl 42 _ _ rfl w.heap.size rfl _ rfl _ _ (X1.out.alloc _) 5 (by kernel_rfl) rfl rfl ?h1 ?_; case h1 => (simp [Value.oneCell']))
        refine bodyPost_ret (results_row_tmp rfl _ _ w.heap.size _ _ _ _ rfl ((X1.out.alloc _).row _) Tryd.underlying42 rfl (by kernel_rfl)) rfl ?_
        exact ⟨below_row (HB1.out.alloc HB1.out.size _) (Nat.le_refl _) _, noStp, .slice none 0 0, by rw [HNO.out]; rfl, World.ownsRow_nil _ _ _ _, by rw [HNO.out]; rfl⟩
      · have t3 : (h == [75]) = false := by simp [h3]
        clear h1 h2 h3
        go_wp2_with (refine wpl_store rfl 42 _ _ rfl w.heap.size rfl _ rfl _ _ (X1.out.alloc _) 5 (by kernel_rfl) rfl rfl ?h1 ?_; case h1 => (simp [Value.oneCell']))
        refine bodyPost_ret (results_row_tmp rfl _ _ w.heap.size _ _ _ _ rfl ((X1.out.alloc _).row _) Tryd.underlying42 rfl (by kernel_rfl)) rfl ?_
        exact ⟨below_row (HB1.out.alloc HB1.out.size _) (Nat.le_refl _) _, noStp, .slice none 0 0, by rw [HNO.out]; rfl, World.ownsRow_nil _ _ _ _, by rw [HNO.out]; rfl⟩
end Go.Proofs.YtefpobkkldgogaaDoor
