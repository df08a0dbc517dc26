/- TapeTexts: the walk. -/
import Derived.Test.YtefpobkkldgogaaDoorTuK
import Derived.Test.YtefpobkkldgogaaDoorTuL
import Derived.Test.YtefpobkkldgogaaDoorTaZ
namespace Go.Proofs.YtefpobkkldgogaaDoor
open Go.RowKit

theorem okStp_norm (s : Stp) : okStp (normS s) s := by
  unfold normS okStp
  by_cases h : s.kind = 75
  · rw [if_pos h]
    exact ⟨h.symm, fun _ => ⟨rfl, rfl, rfl⟩, fun h2 => by
      rcases h2 with h2 | h2
      · exact absurd (show (75 : UInt8) = 72 from h2) (by decide)
      · exact absurd (show (75 : UInt8) = 79 from h2) (by decide)⟩
  · rw [if_neg h]
    exact ⟨rfl, fun h2 => absurd h2 h, fun _ => rfl⟩
theorem okStp_of_norm {ps qs : List (Stp × Value)} (h : ps.map (·.1) = (qs.map (·.1)).map normS) : ∀ (k : Nat) x u y v, ps[k]? = some (x, u) → qs[k]? = some (y, v) → okStp x y := by
  intro k x u y v hp hq
  have h1 : (ps.map (·.1))[k]? = some x := by rw [List.getElem?_map, hp]; rfl
  have h2 : ((qs.map (·.1)).map normS)[k]? = some (normS y) := by rw [List.getElem?_map, List.getElem?_map, hq]; rfl
  rw [h, h2] at h1
  injection h1 with h1
  subst h1
  exact okStp_norm _
/-- the cells of the first step of a row of the call's own -/
theorem StB.first {B base t : Nat} {w : World} {v : Value} {st : Stp} {u : Value} (h : StB B base t w v [(st, u)]) : ∃ g c, v = .slice (some ⟨g, 0, none⟩) 1 c ∧ g < w.heap.size ∧ w.cell? ⟨g, 0, none⟩ = some (.int .u8 (st.kind.toNat : Int)) ∧ w.cell? ⟨g, 1, none⟩ = some u ∧ w.cell? ⟨g, 2, none⟩ = some (.int .i64 st.k1) ∧ w.cell? ⟨g, 3, none⟩ = some (.int .i32 st.k2) ∧ w.cell? ⟨g, 4, none⟩ = some (.int .i64 st.k3) := by
  obtain ⟨g, c, rfl, _, hlt⟩ := h.row.form (by simp)
  have hc := h.row.cells (g := g) rfl
  have hg : ∀ j x, (stc st u)[j]? = some x → w.cell? ⟨g, j, none⟩ = some x := fun j x hx => by
    have := hc j x (by rw [stl_one]; simpa using hx)
    rwa [addr_plain'] at this
  exact ⟨g, c, rfl, hlt, hg 0 _ rfl, hg 1 _ rfl, hg 2 _ rfl, hg 3 _ rfl, hg 4 _ rfl⟩
theorem few_ok {l : List Stp} (hr : ∀ s ∈ l, inR s) : (∀ s ∈ (l.take 15).map fewS, s.bytes.length ≤ 400) ∧ (∀ s ∈ (l.take 15).map fewS, inR s) ∧ ((l.take 15).map fewS).length ≤ 15 := by
  refine ⟨fun s hs => ?_, fun s hs => ?_, by simp; omega⟩
  · obtain ⟨x, _, rfl⟩ := List.mem_map.1 hs
    simp [fewS]; omega
  · obtain ⟨x, hx, rfl⟩ := List.mem_map.1 hs
    exact hr x (List.mem_of_mem_take hx)
set_option maxRecDepth 100000 in
set_option maxHeartbeats 4000000 in
theorem TapeTexts_calls (A : Option Addr) (n0 c0 : Nat) (ps : List (Stp × Value)) (w : World) (hw : GW w) (h : StR w A n0 ps) (hn : n0 ≤ 9223372036854775807) (hb : ∀ p ∈ ps, p.1.bytes.length ≤ 9223372036854775807) (hr : ∀ s ∈ ps.map (·.1), inR s) :
    Calls Tryd.prog 4 #[.slice A n0 c0] w fun e w' => e = .returned (.bool true) ∧ Below w.heap.size w w' := by
  have HW := Lib.hid hw
  have HAW := Lib.hid (awake_calls w hw)
  have H := Lib.hid h
  have HBL := Lib.hid hb
  obtain ⟨L, hL⟩ : ∃ L, ((ps.map (·.1)).take 15).map fewS = L := ⟨_, rfl⟩
  have hok := few_ok hr
  rw [hL] at hok
  have HLL := Lib.hid hL
  have HOK := Lib.hid hok
  clear hw h hb hr hL hok
  go_enter Tryd.func4, Tryd.ntmps4
  go_wp2_with fail
  refine HAW.out.mono ?_
  rintro e w1 ⟨rfl, hb1⟩
  have HB1 := Lib.hid hb1
  have HF := Lib.hid (Few_calls A n0 c0 ps w1 (H.out.below hb1) hn HBL.out)
  rw [HLL.out] at HF
  clear hb1 HAW H HBL HLL
  go_wp2_with fail
  refine HF.out.mono ?_
  rintro e w2 ⟨v2, qs, rfl, hst2, hqs, hb2⟩
  obtain ⟨va, vc, rfl, _, _⟩ := hst2.slice
  obtain ⟨n, hn'⟩ : ∃ n, qs.length = n := ⟨_, rfl⟩
  rw [hn'] at hst2 ⊢
  have hnL : n = L.length := by rw [← hn', ← hqs, List.length_map]
  have hn15 : n ≤ 15 := by have := HOK.out.2.2; omega
  have HQS := Lib.hid hqs
  have HB2 := Lib.hid (HB1.out.trans (hb2.mono HB1.out.size))
  have HR2 := Lib.hid hst2.toR
  have HOB : Hid (∀ p ∈ qs, p.1.bytes.length ≤ 1000) := Lib.hid (fun p hp => by have := HOK.out.1 p.1 (by rw [← hqs]; exact List.mem_map.2 ⟨p, hp, rfl⟩); omega)
  have HOKL : Hid (okL (qs.map (·.1))) := Lib.hid (by rw [hqs]; exact ⟨fun s hs => by have := HOK.out.1 s hs; omega, HOK.out.2.1⟩)
  have HNL := Lib.hid hnL
  clear hb2 hst2 hqs hn' HF HB1 hn hnL
  -- own, Text, Text
  have HOWN := Lib.hid (fun W (hR : StR W va n qs) => own_calls va n vc qs W hR (by omega) HOB.out)
  rw [HQS.out] at HOWN
  go_wp2_with fail
  refine (HOWN.out _ HR2.out).mono ?_
  rintro e w3 ⟨v3, rs, rfl, hst3, hrs, hb3⟩
  obtain ⟨ra, rc, rfl, _, _⟩ := hst3.slice
  have hrn : rs.length = n := by rw [HNL.out, ← hrs, List.length_map]
  rw [hrn] at hst3 ⊢
  have HB3 := Lib.hid (HB2.out.trans (hb3.mono HB2.out.size))
  have HR3 := Lib.hid (HR2.out.below hb3)
  have HTX := Lib.hid (Text_calls ra n rc rs w3 (HW.out.below HB3.out) hst3.toR (by omega) (by rw [hrs]; exact HQS.out ▸ HOKL.out))
  rw [hrs] at HTX
  clear hb3 hst3 hrs hrn HR2 HB2
  go_wp2_with fail
  refine HTX.out.mono ?_
  rintro e w4 ⟨rfl, hb4⟩
  have HB4 := Lib.hid (HB3.out.trans (hb4.mono HB3.out.size))
  have HR4 := Lib.hid (HR3.out.below hb4)
  have HRT := Lib.hid (fun W (hR : StR W va n qs) => RText_calls va n vc qs W hR (by omega) HOKL.out)
  rw [HQS.out] at HRT
  obtain ⟨T, hT⟩ : ∃ T, (textT L).getD [] = T := ⟨_, rfl⟩
  obtain ⟨er, her⟩ : ∃ er : Int, (if (textT L).isSome then (0 : Int) else 1) = er := ⟨_, rfl⟩
  rw [hT, her]
  have HT := Lib.hid hT
  have HER := Lib.hid her
  clear hb4 hT her HB3 HR3 HTX
  go_wp2_with fail
  refine (HRT.out _ HR4.out).mono ?_
  rintro e w5 ⟨he, hb5⟩
  rw [HT.out, HER.out] at he
  subst he
  have HB5 := Lib.hid (HB4.out.trans (hb5.mono HB4.out.size))
  have HR5 := Lib.hid (HR4.out.below hb5)
  clear hb5 HB4 HR4 HRT
  go_wp2_with fail
  refine (HOWN.out _ HR5.out).mono ?_
  rintro e w6 ⟨v6, ts, rfl, hst6, hts, hb6⟩
  obtain ⟨ta, tc, rfl, _, _⟩ := hst6.slice
  have htn : ts.length = n := by rw [HNL.out, ← hts, List.length_map]
  rw [htn] at hst6 ⊢
  have HB6 := Lib.hid (HB5.out.trans (hb6.mono HB5.out.size))
  have HR6 := Lib.hid (HR5.out.below hb6)
  have HT6 := Lib.hid hst6.toR
  have HTS := Lib.hid hts
  clear hb6 hst6 hts htn HR5 HB5
  go_wp2_with fail
  go_loopw [42] (fun i wr => ∃ k : Nat, k ≤ n ∧ i = .int .i64 k ∧ Below w6.heap.size w6 wr) (fun i _ => n - (RowKit.intOf i).toNat)
  case atStart => exact ⟨0, Nat.zero_le _, rfl, Below.refl _ _⟩
  case round =>
    obtain ⟨k, hk, rfl, hb⟩ := hrel
    have HB := Lib.hid hb
    clear hb
    by_cases hlt : k < n
    · obtain ⟨ad, st, u, rfl, hadb, hp, hel, a0, a1, a2, a3, a4⟩ := (HT6.out.below HB.out).cells hlt
      have hmem : st ∈ L := by rw [← HTS.out]; exact List.mem_map.2 ⟨_, List.mem_of_getElem? hp, rfl⟩
      have HIR := Lib.hid (HOK.out.2.1 st hmem)
      have HSL := Lib.hid (HOK.out.1 st hmem)
      have hadb' : (ad.add (k * 5)).block < wr.heap.size := by rw [block_of_add]; exact hadb
      have HBW := Lib.hid (HB6.out.trans (HB.out.mono HB6.out.size))
      obtain ⟨ua, uc, rfl, _, _⟩ := id hel
      obtain ⟨W0, hW0⟩ : ∃ W0, wr.alloc (.cells #[.int .u8 (st.kind.toNat : Int), .slice ua st.bytes.length uc, .int .i64 st.k1, .int .i32 st.k2, .int .i64 st.k3] 37) = W0 := ⟨_, rfl⟩
      have hal : Below wr.heap.size wr W0 := by rw [← hW0]; exact (Below.refl _ wr).alloc (Nat.le_refl _) _
      have hx := Blk.new wr 37 #[.int .u8 (st.kind.toNat : Int), .slice ua st.bytes.length uc, .int .i64 st.k1, .int .i32 st.k2, .int .i64 st.k3]
      rw [hW0] at hx
      have HEL := Lib.hid ((hel.below hal).more hal.size)
      have HW0 := Lib.hid hW0
      have HX := Lib.hid hx
      have HAL := Lib.hid hal
      have HLN := Lib.hid (Line_calls st (.slice ua st.bytes.length uc) W0 ((HW.out.below HBW.out).below hal) HEL.out (by have := HSL.out; omega) HIR.out)
      simp only [stc] at HLN
      clear hp hmem hel hW0 hx hal
      go_wp2_with fail
      rw [HW0.out]
      refine HLN.out.mono ?_
      rintro e w7 ⟨rfl, hb7⟩
      have x7 := HX.out.below hb7 HX.out.lt
      have HEL7 := Lib.hid ((HEL.out.below hb7).more hb7.size)
      have HB7 := Lib.hid (HAL.out.trans (hb7.mono HAL.out.size))
      have X7 := Lib.hid x7
      obtain ⟨t1, ht1⟩ : ∃ t1, (lineT st).getD [] = t1 := ⟨_, rfl⟩
      obtain ⟨e1, he1⟩ : ∃ e1 : Int, (if (lineT st).isSome then (0 : Int) else 1) = e1 := ⟨_, rfl⟩
      rw [ht1, he1]
      have HT1 := Lib.hid ht1
      have HE1 := Lib.hid he1
      clear hb7 x7 ht1 he1
      have HBK : Hid (Calls Tryd.prog 10 #[.slice (some ⟨w7.heap.size, 0, none⟩) 1 1] (w7.alloc (.cells #[.int .u8 (st.kind.toNat : Int), .slice ua st.bytes.length uc, .int .i64 st.k1, .int .i32 st.k2, .int .i64 st.k3] 37)) fun e w8 => ∃ g c, e = .returned (.slice (some ⟨g, 0, none⟩) 1 c) ∧ Hid (StB (w7.heap.size + 1) (w7.heap.size + 1) 42 w8 (.slice (some ⟨g, 0, none⟩) 1 c) [(st, .slice ua st.bytes.length uc)] ∧ Below w7.heap.size w7 w8)) := Lib.hid (by
        have hal : Below w7.heap.size w7 (w7.alloc (.cells #[.int .u8 (st.kind.toNat : Int), .slice ua st.bytes.length uc, .int .i64 st.k1, .int .i32 st.k2, .int .i64 st.k3] 37)) := (Below.refl _ w7).alloc (Nat.le_refl _) _
        refine (back_calls (some ⟨w7.heap.size, 0, none⟩) 1 1 [(st, .slice ua st.bytes.length uc)] _ (str_one st (Blk.new w7 _ _) ((HEL7.out.below hal).more hal.size)) (by omega)).mono ?_
        rintro e w8 ⟨v8, rfl, hsb, hb8⟩
        obtain ⟨g, c, rfl, _⟩ := hsb.first
        rw [show (w7.alloc (.cells (stc st (.slice ua st.bytes.length uc)) 37)).heap.size = w7.heap.size + 1 by simp] at hsb
        exact ⟨g, c, rfl, Lib.hid ⟨hsb, hal.trans (hb8.mono hal.size)⟩⟩)
      go_wp2_with (refine wpl_load rfl 37 _ rfl wr.heap.size rfl _ _ X7.out _ Tryd.underlying37 rfl 5 (by kernel_rfl) rfl ?_)
      refine HBK.out.mono ?_
      rintro e w8 ⟨g, c, rfl, H8⟩
      obtain ⟨g', c', he', hg8, b0, b1, b2, b3, b4⟩ := H8.out.1.first
      injection he' with hg' _ hc'
      injection hg' with hg'
      injection hg' with hg' _ _
      subst hg' hc'
      have HLR := Lib.hid (RLine_calls st (.slice ua st.bytes.length uc) w8 ((HEL7.out.below H8.out.2).more H8.out.2.size) (by have := HSL.out; omega) HIR.out)
      simp only [stc] at HLR
      go_wp2_with fail
      refine HLR.out.mono ?_
      rintro e w9 ⟨he9, hb9⟩
      rw [HT1.out, HE1.out] at he9
      subst he9
      have HB9 := Lib.hid (HB.out.trans ((HB7.out.trans ((H8.out.2.trans (hb9.mono H8.out.2.size)).mono HB7.out.size)).mono HB.out.size))
      clear hb9
      go_wp2_with fail
      go_roundw
      case rel => exact ⟨k + 1, by omega, by go_num, HB9.out⟩
      case measure => simp [RowKit.intOf]; omega
    · obtain rfl : k = n := by omega
      have HBW := Lib.hid (HB6.out.trans (HB.out.mono HB6.out.size))
      have HRW := Lib.hid (HR6.out.below HB.out)
      cases hx : textT L with
      | none =>
        have her : er = 1 := by rw [← HER.out, hx]; rfl
        subst her
        clear hx
        go_wp2_with fail
        go_ret
        exact ⟨rfl, HBW.out⟩
      | some t =>
        have her : er = 0 := by rw [← HER.out, hx]; rfl
        have hTt : T = t := by rw [← HT.out, hx]; rfl
        subst her hTt
        have htl := textT_len hx (fun s hs => by have := HOK.out.1 s hs; omega) HOK.out.2.1
        have HPT := Lib.hid (parseB_text HOK.out.2.1 hx)
        have HP := Lib.hid (Parse_calls T wr (HW.out.below HBW.out) (by have := HOK.out.2.2; omega))
        rw [HPT.out] at HP
        clear hx htl
        go_wp2_with fail
        refine HP.out.mono ?_
        rintro e w7 ⟨hb7, v7, us, he7, hst7, hus⟩
        obtain ⟨ma, mc, rfl, _, _⟩ := hst7.slice
        have hus' : us.map (·.1) = L.map normS := hus
        have hun : us.length = k := by
          have := congrArg List.length hus'
          simp only [List.length_map] at this
          rw [this, HNL.out]
        rw [hun] at hst7 he7
        have he7' : e = .returned (.tuple #[.slice ma k mc, .int .i64 (k : Int), .int .i64 0]) := by
          rw [he7]
          show Ending.returned (.tuple #[.slice ma k mc, .int .i64 ((L.map normS).length : Int), .int .i64 0]) = _
          rw [List.length_map, HNL.out]
        subst he7'
        have HB7 := Lib.hid (HBW.out.trans (hb7.mono HBW.out.size))
        have HM7 := Lib.hid hst7.toR
        have HR7 := Lib.hid (HRW.out.below hb7)
        have HUS := Lib.hid hus'
        clear hb7 hst7 hus hus' hun he7
        go_wp2_with fail
        refine (back_calls ma k mc us w7 HM7.out (by omega)).mono ?_
        rintro e w8 ⟨v8, rfl, hsb, hb8⟩
        obtain ⟨ba, bc, rfl, _, _⟩ := hsb.slice
        have hun : us.length = k := HM7.out.len.symm
        rw [hun] at hsb ⊢
        have HB8 := Lib.hid (HB7.out.trans (hb8.mono HB7.out.size))
        have HS8 := Lib.hid (hsb.toR hb8.size)
        have HM8 := Lib.hid (HM7.out.below hb8)
        have HR8 := Lib.hid (HR7.out.below hb8)
        have HOK1 := Lib.hid (okStp_of_norm (ps := us) (qs := qs) (by rw [HUS.out, HQS.out]))
        clear hb8 hsb hun HM7 HR7
        go_wp2_with fail
        refine (RSame_calls ba va k bc vc us qs w8 HS8.out HR8.out (by omega) HOK1.out).mono ?_
        rintro e w9 ⟨rfl, hb9⟩
        have HB9 := Lib.hid (HB8.out.trans (hb9.mono HB8.out.size))
        have HM9 := Lib.hid (HM8.out.below hb9)
        have HR9 := Lib.hid (HR8.out.below hb9)
        clear hb9 HS8 HM8 HR8
        go_wp2_with fail
        refine (HOWN.out _ HR9.out).mono ?_
        rintro e w10 ⟨v10, xs, rfl, hst10, hxs, hb10⟩
        obtain ⟨xa, xc, rfl, _, _⟩ := hst10.slice
        have hxn : xs.length = k := by rw [HNL.out, ← hxs, List.length_map]
        rw [hxn] at hst10 ⊢
        have HB10 := Lib.hid (HB9.out.trans (hb10.mono HB9.out.size))
        have HM10 := Lib.hid (HM9.out.below hb10)
        have HX10 := Lib.hid hst10.toR
        have HOK2 := Lib.hid (okStp_of_norm (ps := us) (qs := xs) (by rw [HUS.out, hxs]))
        clear hb10 hst10 hxs hxn
        go_wp2_with fail
        refine (TSame_calls ma xa k mc xc us xs w10 HM10.out HX10.out (by omega) HOK2.out).mono ?_
        rintro e w11 ⟨rfl, hb11⟩
        have HB11 := Lib.hid (HB10.out.trans (hb11.mono HB10.out.size))
        clear hb11
        go_wp2_with fail
        go_ret
        exact ⟨rfl, HB11.out⟩
end Go.Proofs.YtefpobkkldgogaaDoor
