/- The document's parts of a text, letters as bytes. -/
import Derived.Test.YtefpobkkldgogaaDoorTaK
import Derived.Test.YtefpobkkldgogaaDoorTaS
namespace Go.Proofs.YtefpobkkldgogaaDoor
open Go.RowKit

/-- strings that the call owns -/
abbrev OS (base : Nat) (w : World) (v : Value) (ls : List (List UInt8)) : Prop := w.ownsRow base 9 1 v ls.length (sv ls)
@[simp] theorem sv_length (ls : List (List UInt8)) : (sv ls).length = ls.length := by simp [sv]
@[simp] theorem sv_append (a b : List (List UInt8)) : sv (a ++ b) = sv a ++ sv b := by simp [sv]
theorem str_info : (Tryd.prog.info? 9).map (fun i => (i.zero, i.size, i.bytes)) = some (some (.string ⟨#[]⟩), 1, 16) := by kernel_rfl

/-- what holds of the parts so far, ahead of place k, the part under way from f on -/
def SplAt (s : List UInt8) (b : UInt8) (k f : Nat) (done : List (List UInt8)) : Prop :=
  (k ≤ s.length ∧ f ≤ k ∧ spl b s = done ++ spl b (s.drop f) ∧ b ∉ (s.drop f).take (k - f)) ∨ (k = s.length + 1 ∧ done = spl b s)
theorem SplAt.hit {s : List UInt8} {b : UInt8} {k f : Nat} {done : List (List UInt8)} (hk : k < s.length) (hf : f ≤ k) (h1 : spl b s = done ++ spl b (s.drop f)) (h2 : b ∉ (s.drop f).take (k - f)) (hx : s[k] = b) :
    SplAt s b (k + 1) (k + 1) (done ++ [(s.take k).drop f]) := by
  refine .inl ⟨hk, Nat.le_refl _, ?_, by simp⟩
  rw [h1, List.append_assoc]
  congr 1
  have he : s.drop f = (s.take k).drop f ++ b :: s.drop (k + 1) := by
    have h3 : s.drop f = (s.drop f).take (k - f) ++ (s.drop f).drop (k - f) := (List.take_append_drop _ _).symm
    rw [List.drop_drop, show f + (k - f) = k by omega, List.drop_eq_getElem_cons hk, hx] at h3
    rw [List.drop_take]
    exact h3
  rw [List.drop_take] at he ⊢
  conv => lhs; rw [he]
  rw [spl_hit h2]
  rfl
theorem SplAt.miss {s : List UInt8} {b : UInt8} {k f : Nat} {done : List (List UInt8)} (hk : k < s.length) (hf : f ≤ k) (h1 : spl b s = done ++ spl b (s.drop f)) (h2 : b ∉ (s.drop f).take (k - f)) (hx : ¬ s[k] = b) :
    SplAt s b (k + 1) f done := by
  refine .inl ⟨hk, by omega, h1, ?_⟩
  rw [show k + 1 - f = (k - f) + 1 by omega, List.take_succ_eq_append_getElem (by simp; omega)]
  rw [List.mem_append, not_or]
  refine ⟨h2, ?_⟩
  simp only [List.mem_singleton, List.getElem_drop, show f + (k - f) = k by omega]
  exact fun e => hx e.symm
theorem SplAt.last {s : List UInt8} {b : UInt8} {k f : Nat} {done : List (List UInt8)} (hk : k = s.length) (hf : f ≤ k) (h1 : spl b s = done ++ spl b (s.drop f)) (h2 : b ∉ (s.drop f).take (k - f)) :
    SplAt s b (k + 1) (k + 1) (done ++ [(s.take k).drop f]) := by
  subst hk
  refine .inr ⟨rfl, ?_⟩
  rw [List.take_of_length_le (by simp)] at h2
  rw [h1, spl_miss h2, List.take_length]

theorem OS.step {base : Nat} {w : World} {v : Value} {n : Nat} {done : List (List UInt8)} {x : ByteArray} {y : List UInt8} (h : w.ownsRow base 9 1 v (n + 1) (sv done ++ [.string x])) (hx : x = strOf y) (hn : n = done.length := by rfl) : OS base w v (done ++ [y]) := by
  subst hx hn
  simpa [OS, sv] using h
theorem OS.below_step {w wr w8 : World} {v : Value} {done : List (List UInt8)} {o : Obj} {r : Option Nat} (h : OS w.heap.size wr v done) (hb : Below w.heap.size w wr) (hg : (wr.alloc o).grownBy w8 r) (hr : r = v.ownBlock := by rfl) : Below w.heap.size w w8 := by
  subst hr
  exact (hb.alloc hb.size o).grown hg (hb.alloc hb.size o).size (fun k hk => (h.lt k hk).1)
set_option maxRecDepth 100000 in
set_option maxHeartbeats 1000000 in
theorem RSplit_calls (s : List UInt8) (b : UInt8) (w : World) (hs : s.length ≤ 1000000) :
    Calls Tryd.prog 22 #[.string (strOf s), .int .u8 b.toNat] w fun e w' => ∃ v, e = .returned v ∧ OS w.heap.size w' v (spl b s) ∧ Below w.heap.size w w' := by
  obtain ⟨i0, hi, hz0, hz1, hz2⟩ := info_parts str_info
  go_enter Tryd.func22, Tryd.ntmps22
  go_wp2_with fail
  go_loopw [5, 6, 7] (fun v f i wr => ∃ k g : Nat, ∃ done : List (List UInt8), i = .int .i64 k ∧ f = .int .i64 g ∧ SplAt s b k g done ∧ done.length ≤ k ∧ OS w.heap.size wr v done ∧ Below w.heap.size w wr) (fun _ _ i _ => s.length + 1 - (intOf i).toNat)
  case atStart => exact ⟨0, 0, [], rfl, rfl, .inl ⟨by omega, Nat.le_refl _, by simp, by simp⟩, Nat.le_refl _, World.ownsRow_nil _ _ _ _, Below.refl _ _⟩
  case round =>
    obtain ⟨k, g, done, rfl, rfl, hat, hdl, hown, hb⟩ := hrel
    have HOWN := Lib.hid hown
    have HB := Lib.hid hb
    clear hown hb
    rcases hat with ⟨hk, hg, h1, h2⟩ | ⟨hk, hd⟩
    · have H1 := Lib.hid h1
      have H2 := Lib.hid h2
      clear h1 h2
      have hex := strOf_extract s g k
      have HEX := Lib.hid hex
      clear hex
      by_cases hlt : k < s.length
      · by_cases hx : s[k] = b
        · have HX := Lib.hid hx
          have t1 : ((k : Int) == (s.length : Int)) = false := by simp; omega
          have t2 : ((s[k].toNat : Int) == (b.toNat : Int)) = true := by rw [hx]; simp
          clear hx
          go_wp2_with (at_builtin; refine wpList_append_own _ rfl _ _ 59 rfl w.heap.size 9 i0 (.string ⟨#[]⟩) 1 16 Tryd.underlying59 hi hz0 hz1 hz2 rfl (by decide) _ _ _ rfl (HOWN.out.alloc _) ⟨wr.heap.size, 0, none⟩ 1 1 [.string ((strOf s).extract g k)] rfl rfl (cell_one_new _ _ _) (by simp [Value.oneCell']) (by simp only [maxLen]; omega) (by omega) (by have := HB.out.size; simp; omega) ?_; intro v' w8 hown' hgrow _; have HO := Lib.hid hown'; have HG := Lib.hid hgrow; clear hown' hgrow)
          go_roundw
          case rel => exact ⟨k + 1, k + 1, done ++ [(s.take k).drop g], by go_num, by go_num, SplAt.hit hlt hg H1.out H2.out HX.out, by simp; omega, OS.step HO.out HEX.out, OS.below_step HOWN.out HB.out HG.out⟩
          case measure => simp [intOf]; omega
        · have HX := Lib.hid hx
          have t1 : ((k : Int) == (s.length : Int)) = false := by simp; omega
          have t2 : ((s[k].toNat : Int) == (b.toNat : Int)) = false := by
            simp only [beq_eq_false_iff_ne, ne_eq]
            exact fun e => hx (UInt8.toNat_inj.1 (by omega))
          clear hx
          go_wp2_with fail
          go_roundw
          case rel => exact ⟨k + 1, g, done, by go_num, rfl, SplAt.miss hlt hg H1.out H2.out HX.out, by omega, HOWN.out, HB.out⟩
          case measure => simp [intOf]; omega
      · have hke : k = s.length := by omega
        have t1 : ((k : Int) == (s.length : Int)) = true := by simp; omega
        have HK := Lib.hid hke
        clear hke
        go_wp2_with (at_builtin; refine wpList_append_own _ rfl _ _ 59 rfl w.heap.size 9 i0 (.string ⟨#[]⟩) 1 16 Tryd.underlying59 hi hz0 hz1 hz2 rfl (by decide) _ _ _ rfl (HOWN.out.alloc _) ⟨wr.heap.size, 0, none⟩ 1 1 [.string ((strOf s).extract g k)] rfl rfl (cell_one_new _ _ _) (by simp [Value.oneCell']) (by simp only [maxLen]; omega) (by omega) (by have := HB.out.size; simp; omega) ?_; intro v' w8 hown' hgrow _; have HO := Lib.hid hown'; have HG := Lib.hid hgrow; clear hown' hgrow)
        go_roundw
        case rel => exact ⟨k + 1, k + 1, done ++ [(s.take k).drop g], by go_num, by go_num, SplAt.last HK.out hg H1.out H2.out, by simp; omega, OS.step HO.out HEX.out, OS.below_step HOWN.out HB.out HG.out⟩
        case measure => simp [intOf]; omega
    · subst hd
      have hk' : ¬ k ≤ s.length := by omega
      clear hk
      go_wp2_with fail
      go_ret
      exact ⟨_, rfl, HOWN.out, HB.out⟩
end Go.Proofs.YtefpobkkldgogaaDoor
