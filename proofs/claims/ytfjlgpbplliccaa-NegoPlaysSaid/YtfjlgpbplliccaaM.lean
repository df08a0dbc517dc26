/- What the two ends compute, in plain Lean: no program in sight. -/
namespace Go.Proofs.Ytfjlgpbplliccaa

def nameCh (c : UInt8) : Bool := decide (33 ≤ c.toNat) && decide (c.toNat ≤ 126)
def nameOk (s : List UInt8) : Bool := s.all nameCh && decide (1 ≤ s.length) && decide (s.length ≤ 40)
def inB (l : List UInt8) (b : UInt8) : Bool := l.contains b
/-- is each of a list none of those before it? -/
def onceB (l : List UInt8) : Bool := (List.range l.length).all fun i => !inB (l.take i) (l.getD i 0)
def risesB (l : List UInt8) : Bool := (List.range l.length).all fun i => decide ((l.getD i 0).toNat ≤ 4) && (i == 0 || decide ((l.getD (i - 1) 0).toNat < (l.getD i 0).toNat))
def ownB (fns l : List UInt8) : Bool := l.all (inB fns)
def commonB (fns l : List UInt8) : List UInt8 := l.filter (inB fns)
def sortedB (l : List UInt8) : List UInt8 := [0, 1, 2, 3, 4].filter (inB l)
def idxB (l : List UInt8) (b : UInt8) : Int := match l.findIdx? (· == b) with | some i => (i : Int) | none => -1
def gotB (p : List UInt8) : List UInt8 × Bool :=
  match p.findIdx? (· == 1) with
  | some i => (p.drop (i + 1), nameOk (p.take i) && nameOk (p.drop (i + 1)))
  | none => ([], false)

structure Cfg where
  typ : List UInt8
  dev : List UInt8
  fns : List UInt8
structure St where
  state : Nat
  device : List UInt8
  agreed : List UInt8

def newErr (c : Cfg) : Nat := if !nameOk c.typ || (!c.dev.isEmpty && !nameOk c.dev) then 4 else if !risesB c.fns then 1 else 0

def asksB (c : Cfg) : List UInt8 := [2, 7] ++ c.typ ++ (if c.dev.isEmpty then [] else [1] ++ c.dev)

/-- DEVICE-TYPE and what stands behind it. -/
def hdB (c : Cfg) (s : St) (q : List UInt8) : St × List UInt8 × Nat :=
  if q.length == 3 && q.getD 0 0 == 6 && q.getD 1 0 == 5 then (if s.state != 1 then (s, [], 6) else ({ s with state := 4 }, [], 0))
  else match q with
  | [] => (s, [], 4)
  | k :: r => if k == 4 then (if !(gotB r).2 then (s, [], 4) else if s.state != 1 then (s, [], 6) else (⟨2, (gotB r).1, []⟩, [3, 7] ++ c.fns, 0)) else (s, [], 4)
/-- FUNCTIONS and what stands behind it. -/
def hfB (c : Cfg) (s : St) (q : List UInt8) : St × List UInt8 × Nat :=
  match q with
  | [] => (s, [], 4)
  | k :: l =>
    if (k != 4 && k != 7) || !onceB l then (s, [], 4)
    else if s.state != 2 && (k == 4 || s.state != 3) then (s, [], 6)
    else if k == 4 then (if ownB c.fns l then ({ s with state := 3, agreed := sortedB l }, [], 0) else ({ s with state := 4 }, [], 0))
    else if ownB c.fns l then ({ s with state := 3, agreed := sortedB l }, [3, 4] ++ l, 0)
    else ({ s with state := 2, agreed := [] }, [3, 7] ++ commonB c.fns l, 0)

/-- a subnegotiation came: the state behind it, what goes, the error. -/
def hearB (c : Cfg) (s : St) (opt : UInt8) (p : List UInt8) : St × List UInt8 × Nat :=
  if opt == 24 then (if p == [1] then (s, [0] ++ c.typ, 0) else (s, [], 4))
  else if opt != 40 then (s, [], 5)
  else if p == [8, 2] then (if s.state == 4 then (s, [], 6) else (⟨1, [], []⟩, asksB c, 0))
  else match p with
  | [] => (s, [], 4)
  | k :: q => if k == 2 then hdB c s q else if k == 3 then hfB c s q else (s, [], 4)
theorem got_len (r : List UInt8) : (gotB r).1.length ≤ r.length := by
  unfold gotB
  split <;> simp

/-! ### lists of few functions -/
theorem inB_iff (l : List UInt8) (b : UInt8) : inB l b = true ↔ b ∈ l := by simp [inB]
theorem getD_lt {l : List UInt8} {k : Nat} (h : k < l.length) : l.getD k 0 = l[k] := by simp [List.getD, h]
theorem once_nodup {l : List UInt8} (h : onceB l = true) : l.Nodup := by
  rw [List.nodup_iff_pairwise_ne, List.pairwise_iff_getElem]
  intro i j hi hj hij e
  have := List.all_eq_true.1 h j (List.mem_range.2 hj)
  rw [getD_lt hj] at this
  have hn : ¬ l[j] ∈ l.take j := fun hm => by
    have := (inB_iff _ _).2 hm
    simp_all
  exact hn (by rw [← e]; exact List.mem_take_iff_getElem.2 ⟨i, by omega, rfl⟩)
theorem rises_le {l : List UInt8} (h : risesB l = true) : ∀ x ∈ l, x.toNat ≤ 4 := fun x hx => by
  obtain ⟨k, hk, rfl⟩ := List.mem_iff_getElem.1 hx
  have := List.all_eq_true.1 h k (List.mem_range.2 hk)
  rw [getD_lt hk] at this
  simp at this
  exact this.1
theorem own_mem {fns l : List UInt8} (h : ownB fns l = true) : ∀ x ∈ l, x ∈ fns := fun x hx => (inB_iff _ _).1 (List.all_eq_true.1 h x hx)
theorem sorted_mem {l : List UInt8} (hl : ∀ x ∈ l, x.toNat ≤ 4) (a : UInt8) : a ∈ l ↔ a ∈ sortedB l := by
  unfold sortedB
  rw [List.mem_filter, inB_iff]
  constructor
  · intro h
    refine ⟨?_, h⟩
    have h4 := hl a h
    have : a = 0 ∨ a = 1 ∨ a = 2 ∨ a = 3 ∨ a = 4 := by
      rcases (show a.toNat = 0 ∨ a.toNat = 1 ∨ a.toNat = 2 ∨ a.toNat = 3 ∨ a.toNat = 4 by omega) with e | e | e | e | e
      · exact .inl (UInt8.toNat_inj.1 e)
      · exact .inr (.inl (UInt8.toNat_inj.1 e))
      · exact .inr (.inr (.inl (UInt8.toNat_inj.1 e)))
      · exact .inr (.inr (.inr (.inl (UInt8.toNat_inj.1 e))))
      · exact .inr (.inr (.inr (.inr (UInt8.toNat_inj.1 e))))
    simpa using this
  · exact fun h => h.2
theorem sorted_pair (l : List UInt8) : (sortedB l).Pairwise fun a b => a.toNat < b.toNat := by
  unfold sortedB
  exact List.Pairwise.filter _ (by decide)
theorem sorted_perm {l : List UInt8} (hn : l.Nodup) (hl : ∀ x ∈ l, x.toNat ≤ 4) : l.Perm (sortedB l) :=
  (List.perm_ext_iff_of_nodup hn (by
    rw [List.nodup_iff_pairwise_ne]
    exact (sorted_pair l).imp (fun h e => by subst e; exact Nat.lt_irrefl _ h))).2 (sorted_mem hl)
theorem sorted_len (l : List UInt8) : (sortedB l).length ≤ 5 := by
  have := List.length_filter_le (inB l) [0, 1, 2, 3, 4]
  exact this
theorem few_len {l : List UInt8} (hn : l.Nodup) (hl : ∀ x ∈ l, x.toNat ≤ 4) : l.length ≤ 5 := by
  rw [(sorted_perm hn hl).length_eq]; exact sorted_len l
theorem sort_is {l bs : List UInt8} (hn : l.Nodup) (hl : ∀ x ∈ l, x.toNat ≤ 4) (hp : bs.Perm l) (hs : bs.Pairwise fun a b => a.toNat ≤ b.toNat) : bs = sortedB l :=
  (hp.trans (sorted_perm hn hl)).eq_of_pairwise (le := fun a b : UInt8 => a.toNat ≤ b.toNat) (fun a b _ _ h1 h2 => UInt8.toNat_inj.1 (by omega)) hs ((sorted_pair l).imp (fun h => Nat.le_of_lt h))
end Go.Proofs.Ytfjlgpbplliccaa
