/- The document's New. -/
import Derived.Test.YtfjlgpbplliccaaN
namespace Go.Proofs.Ytfjlgpbplliccaa
open Go.RowKit

theorem risesAt_le {l : List UInt8} {k : Nat} {m : Int} {x : UInt8} (hx : l.getD k 0 = x) (h : (k = 0 ∧ m = -1) ∨ (0 < k ∧ m = (l.getD (k - 1) 0).toNat)) (h4 : (x.toNat : Int) ≤ m) : risesAt l k = false := by
  unfold risesAt
  rw [hx]
  rcases h with ⟨h0, h1⟩ | ⟨h0, h1⟩
  · omega
  · have : ¬ k = 0 := by omega
    simp only [this, beq_iff_eq, Bool.false_or, Bool.and_eq_false_iff, decide_eq_false_iff_not, beq_eq_false_iff_ne]
    simp only [show (k == 0) = false from by simpa using this, Bool.false_or, decide_eq_false_iff_not]
    exact .inr (by omega)
theorem risesAt_gt {l : List UInt8} {k : Nat} {m : Int} {x : UInt8} (hx : l.getD k 0 = x) (h : (k = 0 ∧ m = -1) ∨ (0 < k ∧ m = (l.getD (k - 1) 0).toNat)) (h4 : ¬ (x.toNat : Int) ≤ m) (h5 : ¬ (4 : Int) < x.toNat) : risesAt l k = true := by
  unfold risesAt
  rw [hx]
  rcases h with ⟨h0, h1⟩ | ⟨h0, h1⟩
  · subst h0; simp; omega
  · simp only [Bool.and_eq_true, Bool.or_eq_true, decide_eq_true_eq]
    exact ⟨by omega, .inr (by omega)⟩
theorem newErr_arg {c : Cfg} (h1 : nameOk c.typ = true) (h2 : c.dev.isEmpty = true ∨ nameOk c.dev = true) (h3 : risesB c.fns = false) : newErr c = 1 := by
  rcases h2 with h2 | h2 <;> simp [newErr, h1, h2, h3]
theorem newErr_ok {c : Cfg} (h1 : nameOk c.typ = true) (h2 : c.dev.isEmpty = true ∨ nameOk c.dev = true) (h3 : risesB c.fns = true) : newErr c = 0 := by
  rcases h2 with h2 | h2 <;> simp [newErr, h1, h2, h3]

set_option maxRecDepth 100000 in
set_option maxHeartbeats 1000000 in
/-- New of the document: the config stays shared. -/
theorem RNew_calls (base : Nat) (w : World) (hbase : base ≤ w.heap.size) (F : Value) (c : Cfg) (hF : OB base w F c.fns) (hs : c.small) :
    Calls Try.prog 7 #[.agg #[.string (strOf c.typ), .string (strOf c.dev), F]] w fun e w' => Below w.heap.size w w' ∧
      ((newErr c ≠ 0 ∧ e = .returned (.tuple #[.pointer none, .int .i64 (newErr c : Int)])) ∨
       (newErr c = 0 ∧ ∃ g, e = .returned (.tuple #[.pointer (some ⟨g, 0, none⟩), .int .i64 0]) ∧ w.heap.size ≤ g ∧ EndAt base 40 w' g F (.slice none 0 0) c ⟨0, [], []⟩)) := by
  obtain ⟨AF, cF, hv, hcF, hr, _, _⟩ := hF.reads
  subst hv
  obtain ⟨hs1, hs2, hs3⟩ := hs
  have HT := Lib.hid (fun W => RName_calls c.typ W (by omega))
  have HD := Lib.hid (fun W => RName_calls c.dev W (by omega))
  have hb1 : Below w.heap.size w (w.alloc (.cells #[.string (strOf c.typ), .string (strOf c.dev), .slice AF c.fns.length cF] 24)) := (Below.refl _ w).alloc (Nat.le_refl _) _
  have HX := Lib.hid (Blk.new w 24 #[.string (strOf c.typ), .string (strOf c.dev), .slice AF c.fns.length cF])
  have HB := Lib.hid hb1
  have HF := Lib.hid hF
  clear hb1
  clear hF
  cases ht : nameOk c.typ
  · rw [ht] at HT
    have hm : newErr c = 4 := by simp [newErr, ht]
    rw [hm]
    clear hm ht
    go_enter Try.func7, Try.ntmps7
    go_wp2_with fail
    refine (HT.out _).mono ?_
    rintro e w1 ⟨rfl, rfl⟩
    go_wp2_with fail
    go_ret2
    exact ⟨HB.out, .inl ⟨by decide, rfl⟩⟩
  · rw [ht] at HT
    have hdv : (c.dev = [] ∧ (c.dev.isEmpty = true)) ∨ (c.dev.isEmpty = false ∧ nameOk c.dev = false) ∨ (c.dev.isEmpty = false ∧ nameOk c.dev = true) := by
      cases hd : c.dev with
      | nil => exact .inl ⟨rfl, rfl⟩
      | cons a t =>
        cases hn : nameOk (a :: t)
        · exact .inr (.inl ⟨rfl, rfl⟩)
        · exact .inr (.inr ⟨rfl, rfl⟩)
    rcases hdv with ⟨hd, hde⟩ | ⟨hd, hdn⟩ | ⟨hd, hdn⟩
    · have hdl : c.dev.length = 0 := by rw [hd]; rfl
      have ht1 := Lib.hid ht
      have ht2 := Lib.hid (show c.dev.isEmpty = true ∨ nameOk c.dev = true from .inl hde)
      clear hd ht hde
      go_enter Try.func7, Try.ntmps7
      go_wp2_with fail
      refine (HT.out _).mono ?_
      rintro e w1 ⟨rfl, rfl⟩
      go_wp2_with fail
      go_loop [26, 4] (fun i l => ∃ k : Nat, ∃ m : Int, k ≤ c.fns.length ∧ i = .int .i64 k ∧ l = .int .i64 m ∧ -1 ≤ m ∧ m ≤ 255 ∧ Hid ((k = 0 ∧ m = -1) ∨ (0 < k ∧ m = (c.fns.getD (k - 1) 0).toNat)) ∧ Hid (∀ j, j < k → risesAt c.fns j = true)) (fun i _ => c.fns.length - (intOf i).toNat)
      case atStart => exact ⟨0, -1, Nat.zero_le _, rfl, rfl, by decide, by decide, Lib.hid (.inl ⟨rfl, rfl⟩), Lib.hid (fun j hj => absurd hj (by omega))⟩
      case round =>
        obtain ⟨k, m, hk, rfl, rfl, hm1, hm2, HM, HA⟩ := hrel
        by_cases hlt : k < c.fns.length
        · obtain ⟨ad, v, rfl, _, hx, hc⟩ := hr.at_ hlt
          rw [bv_get c.fns k hlt] at hx
          injection hx with hx
          subst hx
          have gk := getD_of_lt hlt
          have hc' := (World.cell?_alloc_lt w (.cells #[.string (strOf c.typ), .string (strOf c.dev), .slice (some ad) c.fns.length cF] 24) (ad.add k) (by unfold Addr.add; split <;> simpa using ‹ad.block < w.heap.size›)).trans hc
          have hx255 : (c.fns[k].toNat : Int) ≤ 255 := by have := c.fns[k].toNat_lt; omega
          clear hc
          by_cases h4 : (c.fns[k].toNat : Int) ≤ m
          · have hb : risesAt c.fns k = false := risesAt_le gk HM.out h4
            have HE := Lib.hid (newErr_arg ht1.out ht2.out (risesB_bad k hlt hb))
            clear hb gk HM HA
            go_wp2
            go_ret2
            exact ⟨HB.out, .inl ⟨by rw [HE.out]; decide, by rw [HE.out]; rfl⟩⟩
          · by_cases h5 : (4 : Int) < (c.fns[k].toNat : Int)
            · have hb : risesAt c.fns k = false := by unfold risesAt; rw [gk]; simp; omega
              have HE := Lib.hid (newErr_arg ht1.out ht2.out (risesB_bad k hlt hb))
              clear hb gk HM HA
              go_wp2
              go_ret2
              exact ⟨HB.out, .inl ⟨by rw [HE.out]; decide, by rw [HE.out]; rfl⟩⟩
            · have hb : risesAt c.fns k = true := risesAt_gt gk HM.out h4 h5
              have HN := Lib.hid (all_lt_succ HA.out hb)
              have GK := Lib.hid gk
              clear hb gk HM HA
              go_wp2
              go_round
              case rel => exact ⟨k + 1, (c.fns[k].toNat : Int), by omega, by go_num, rfl, by omega, by omega, Lib.hid (.inr ⟨by omega, by rw [show k + 1 - 1 = k from rfl, GK.out]⟩), HN⟩
              case measure => simp [intOf]; omega
        · have HE := Lib.hid (newErr_ok ht1.out ht2.out (risesB_all (l := c.fns) (fun j hj => HA.out j (by omega))))
          clear HA HM
          have q0 := HX.out.cell 0
          have q1 := HX.out.cell 1
          have q2 := HX.out.cell 2
          go_wp2_with fail
          go_ret2
          have hb3 : Below _ (w.alloc (.cells #[.string (strOf c.typ), .string (strOf c.dev), .slice AF c.fns.length cF] 24)) ((w.alloc (.cells #[.string (strOf c.typ), .string (strOf c.dev), .slice AF c.fns.length cF] 24)).alloc (.cells #[.string (strOf c.typ), .string (strOf c.dev), .slice AF c.fns.length cF, .int .i64 0, .string ⟨#[]⟩, .slice none 0 0] 40)) := (Below.refl _ _).alloc (Nat.le_refl _) _
          have hsz : (w.alloc (.cells #[.string (strOf c.typ), .string (strOf c.dev), .slice AF c.fns.length cF] 24)).heap.size = w.heap.size + 1 := Array.size_push ..
          have hbk := Blk.new (w.alloc (.cells #[.string (strOf c.typ), .string (strOf c.dev), .slice AF c.fns.length cF] 24)) 40 #[.string (strOf c.typ), .string (strOf c.dev), .slice AF c.fns.length cF, .int .i64 0, .string ⟨#[]⟩, .slice none 0 0]
          rw [hsz] at hbk
          refine ⟨HB.out.trans (hb3.mono HB.out.size), .inr ⟨HE.out, w.heap.size + 1, rfl, by omega, ?_⟩⟩
          exact ⟨by omega, hbk, (((HF.out.below HB.out)).below hb3).low (Nat.le_refl _), World.ownsRow_nil _ _ _ _, ⟨hs1, hs2, hs3⟩, by simp [St.small]⟩
    · have hdl : 0 < c.dev.length := by
        cases hc : c.dev with
        | nil => rw [hc] at hd; simp at hd
        | cons a t => simp
      rw [hdn] at HD
      have hm : newErr c = 4 := by simp [newErr, ht, hd, hdn]
      rw [hm]
      clear hm ht hdn hd
      go_enter Try.func7, Try.ntmps7
      go_wp2_with fail
      refine (HT.out _).mono ?_
      rintro e w1 ⟨rfl, rfl⟩
      go_wp2_with fail
      refine (HD.out _).mono ?_
      rintro e w1 ⟨rfl, rfl⟩
      go_wp2_with fail
      go_ret2
      exact ⟨HB.out, .inl ⟨by decide, rfl⟩⟩
    · have hdl : 0 < c.dev.length := by
        cases hc : c.dev with
        | nil => rw [hc] at hd; simp at hd
        | cons a t => simp
      rw [hdn] at HD
      have ht1 := Lib.hid ht
      have ht2 := Lib.hid (show c.dev.isEmpty = true ∨ nameOk c.dev = true from .inr hdn)
      clear hd ht hdn
      go_enter Try.func7, Try.ntmps7
      go_wp2_with fail
      refine (HT.out _).mono ?_
      rintro e w1 ⟨rfl, rfl⟩
      go_wp2_with fail
      refine (HD.out _).mono ?_
      rintro e w1 ⟨rfl, rfl⟩
      go_wp2_with fail
      go_loop [26, 4] (fun i l => ∃ k : Nat, ∃ m : Int, k ≤ c.fns.length ∧ i = .int .i64 k ∧ l = .int .i64 m ∧ -1 ≤ m ∧ m ≤ 255 ∧ Hid ((k = 0 ∧ m = -1) ∨ (0 < k ∧ m = (c.fns.getD (k - 1) 0).toNat)) ∧ Hid (∀ j, j < k → risesAt c.fns j = true)) (fun i _ => c.fns.length - (intOf i).toNat)
      case atStart => exact ⟨0, -1, Nat.zero_le _, rfl, rfl, by decide, by decide, Lib.hid (.inl ⟨rfl, rfl⟩), Lib.hid (fun j hj => absurd hj (by omega))⟩
      case round =>
        obtain ⟨k, m, hk, rfl, rfl, hm1, hm2, HM, HA⟩ := hrel
        by_cases hlt : k < c.fns.length
        · obtain ⟨ad, v, rfl, _, hx, hc⟩ := hr.at_ hlt
          rw [bv_get c.fns k hlt] at hx
          injection hx with hx
          subst hx
          have gk := getD_of_lt hlt
          have hc' := (World.cell?_alloc_lt w (.cells #[.string (strOf c.typ), .string (strOf c.dev), .slice (some ad) c.fns.length cF] 24) (ad.add k) (by unfold Addr.add; split <;> simpa using ‹ad.block < w.heap.size›)).trans hc
          have hx255 : (c.fns[k].toNat : Int) ≤ 255 := by have := c.fns[k].toNat_lt; omega
          clear hc
          by_cases h4 : (c.fns[k].toNat : Int) ≤ m
          · have hb : risesAt c.fns k = false := risesAt_le gk HM.out h4
            have HE := Lib.hid (newErr_arg ht1.out ht2.out (risesB_bad k hlt hb))
            clear hb gk HM HA
            go_wp2
            go_ret2
            exact ⟨HB.out, .inl ⟨by rw [HE.out]; decide, by rw [HE.out]; rfl⟩⟩
          · by_cases h5 : (4 : Int) < (c.fns[k].toNat : Int)
            · have hb : risesAt c.fns k = false := by unfold risesAt; rw [gk]; simp; omega
              have HE := Lib.hid (newErr_arg ht1.out ht2.out (risesB_bad k hlt hb))
              clear hb gk HM HA
              go_wp2
              go_ret2
              exact ⟨HB.out, .inl ⟨by rw [HE.out]; decide, by rw [HE.out]; rfl⟩⟩
            · have hb : risesAt c.fns k = true := risesAt_gt gk HM.out h4 h5
              have HN := Lib.hid (all_lt_succ HA.out hb)
              have GK := Lib.hid gk
              clear hb gk HM HA
              go_wp2
              go_round
              case rel => exact ⟨k + 1, (c.fns[k].toNat : Int), by omega, by go_num, rfl, by omega, by omega, Lib.hid (.inr ⟨by omega, by rw [show k + 1 - 1 = k from rfl, GK.out]⟩), HN⟩
              case measure => simp [intOf]; omega
        · have HE := Lib.hid (newErr_ok ht1.out ht2.out (risesB_all (l := c.fns) (fun j hj => HA.out j (by omega))))
          clear HA HM
          have q0 := HX.out.cell 0
          have q1 := HX.out.cell 1
          have q2 := HX.out.cell 2
          go_wp2_with fail
          go_ret2
          have hb3 : Below _ (w.alloc (.cells #[.string (strOf c.typ), .string (strOf c.dev), .slice AF c.fns.length cF] 24)) ((w.alloc (.cells #[.string (strOf c.typ), .string (strOf c.dev), .slice AF c.fns.length cF] 24)).alloc (.cells #[.string (strOf c.typ), .string (strOf c.dev), .slice AF c.fns.length cF, .int .i64 0, .string ⟨#[]⟩, .slice none 0 0] 40)) := (Below.refl _ _).alloc (Nat.le_refl _) _
          have hsz : (w.alloc (.cells #[.string (strOf c.typ), .string (strOf c.dev), .slice AF c.fns.length cF] 24)).heap.size = w.heap.size + 1 := Array.size_push ..
          have hbk := Blk.new (w.alloc (.cells #[.string (strOf c.typ), .string (strOf c.dev), .slice AF c.fns.length cF] 24)) 40 #[.string (strOf c.typ), .string (strOf c.dev), .slice AF c.fns.length cF, .int .i64 0, .string ⟨#[]⟩, .slice none 0 0]
          rw [hsz] at hbk
          refine ⟨HB.out.trans (hb3.mono HB.out.size), .inr ⟨HE.out, w.heap.size + 1, rfl, by omega, ?_⟩⟩
          exact ⟨by omega, hbk, (((HF.out.below HB.out)).below hb3).low (Nat.le_refl _), World.ownsRow_nil _ _ _ _, ⟨hs1, hs2, hs3⟩, by simp [St.small]⟩
end Go.Proofs.Ytfjlgpbplliccaa
