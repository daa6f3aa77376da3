/- A call's run that leaves what was there as it was: the join of a walk to a row. -/
import Derived.Test.YtgongenkdkiifaaGreatDoorEng11
namespace Go.Eng
variable {U : Type} {ρ : U → Nat → Hp → Prop} {P : Program}

theorem lookH_mem {l : List (Nat × Option (Nat × CH U))} {k : Nat} {q : Nat × CH U} (h : lookH l k = some q) : (k, some q) ∈ l := by
  induction l with
  | nil => simp [lookH] at h
  | cons a l ih =>
    obtain ⟨d, c⟩ := a
    simp only [lookH] at h
    split at h
    · rename_i e; subst e; subst h; simp
    · exact List.mem_cons_of_mem _ (ih h)

/-- a chunk's own part of the heap -/
def ownP (W : World) (q : Option (Nat × CH U)) : Hp := fun b => match q with | none => none | some (n, _) => if b = n then W.heap[n]? else none
theorem ownP_none (W : World) : ownP W (none : Option (Nat × CH U)) = emp := rfl
theorem ownP_some (W : World) (q : Nat × CH U) (b : Nat) : ownP W (some q) b = if b = q.1 then W.heap[q.1]? else none := rfl
open Classical in
/-- the chunks of a list, each an object of the heap; what is left is told apart -/
theorem satH_start {l : List (Nat × Option (Nat × CH U))} {W : World}
    (h1 : ∀ k n c, (k, some (n, c)) ∈ l → ∃ o, W.heap[n]? = some o ∧ c.holds ρ n (one n o))
    (h2 : ∀ j n c k n' c', (j, some (n, c)) ∈ l → (k, some (n', c')) ∈ l → j ≠ k → n ≠ n') :
    satH ρ (fun r => ∀ i, (∀ k n c, (k, some (n, c)) ∈ l → i ≠ n) → r i = W.heap[i]?) (lookH l) (hp W) := by
  refine ⟨fun k => ownP W (lookH l k), fun b => if ∃ k n c, (k, some (n, c)) ∈ l ∧ b = n then none else W.heap[b]?, ?_, ?_, ?_, ?_, ?_, ?_⟩
  · intro k
    show match lookH l k with | none => ownP W (lookH l k) = emp | some (n, c) => c.holds ρ n (ownP W (lookH l k))
    cases hk : lookH l k with
    | none => rfl
    | some q =>
      obtain ⟨n, c⟩ := q
      obtain ⟨o, ho, hc⟩ := h1 k n c (lookH_mem hk)
      show c.holds ρ n fun b => if b = n then W.heap[n]? else none
      rw [ho]
      exact hc
  · intro j k hjk b
    show ownP W (lookH l j) b = none ∨ ownP W (lookH l k) b = none
    cases hj : lookH l j with
    | none => exact .inl rfl
    | some q =>
      cases hk : lookH l k with
      | none => exact .inr rfl
      | some q' =>
        have hne := h2 j q.1 q.2 k q'.1 q'.2 (lookH_mem hj) (lookH_mem hk) hjk
        rw [ownP_some, ownP_some]
        by_cases e : b = q.1
        · right
          rw [if_neg (by rw [e]; exact hne)]
        · left
          rw [if_neg e]
  · intro k b
    show ownP W (lookH l k) b = none ∨ (if ∃ k n c, (k, some (n, c)) ∈ l ∧ b = n then none else W.heap[b]?) = none
    cases hk : lookH l k with
    | none => exact .inl rfl
    | some q =>
      by_cases e : b = q.1
      · right
        rw [if_pos ⟨k, q.1, q.2, lookH_mem hk, e⟩]
      · left
        rw [ownP_some, if_neg e]
  · intro i hi
    show (if ∃ k n c, (k, some (n, c)) ∈ l ∧ i = n then none else W.heap[i]?) = _
    rw [if_neg]
    rintro ⟨k, n, c, hm, e⟩
    exact hi k n c hm e
  · intro k b o h
    have h' : ownP W (lookH l k) b = some o := h
    clear h
    cases hk : lookH l k with
    | none => rw [hk] at h'; cases h'
    | some q =>
      rw [hk, ownP_some] at h'
      split at h'
      · rename_i e; rw [e]; exact h'
      · cases h'
  · intro b o h
    have h : (if ∃ k n c, (k, some (n, c)) ∈ l ∧ b = n then none else W.heap[b]?) = some o := h
    split at h
    · cases h
    · exact h

/-- a function's run out of a list of chunks, each of which it gives back as it was: nothing that was there has turned -/
theorem run_exact {Sg : Specs U} {Iv : Invs U} (hSg : SgOk ρ P Sg) {f : Nat} {fn : Func} (hf : P.funcs[f]? = some fn) {rc : RC} {rvs : List RV} (hc : chkFn P fn rc rvs = true) {W : World} {vs : List SV}
    (hn : vs.length ≤ fn.ntmps) {l : List (Nat × Option (Nat × CH U))} {v : SV}
    (h1 : ∀ k n c, (k, some (n, c)) ∈ l → ∃ o, W.heap[n]? = some o ∧ c.holds ρ n (one n o) ∧ ∀ g, c.holds ρ n g → g n = some o)
    (h2 : ∀ j n c k n' c', (j, some (n, c)) ∈ l → (k, some (n', c')) ∈ l → j ≠ k → n ≠ n')
    {Post : SV → St U → Prop} (hT : fnT Sg Iv rc rvs vs l Post) (hP : ∀ r s, Post r s → r = v ∧ ∀ k n c, (k, some (n, c)) ∈ l → s.h k = some (n, c)) :
    Calls P f (denL vs).toArray W fun e w' => e = .returned v.den ∧ Same W w' ∧ ∀ i, i < W.heap.size → w'.heap[i]? = W.heap[i]? := by
  have hs := satH_start (ρ := ρ) (l := l) (W := W) (fun k n c hm => by obtain ⟨o, a, b, _⟩ := h1 k n c hm; exact ⟨o, a, b⟩) h2
  refine Calls.mono (run_fn hSg hf hc hn hs ⟨rfl, rfl, rfl⟩ hT) ?_
  rintro e w' ⟨r, s', hp, he, hsat, hsame⟩
  obtain ⟨rfl, hk⟩ := hP r s' hp
  refine ⟨he, hsame, ?_⟩
  intro i hi
  obtain ⟨p, q, a1, _, _, a4, a5, a6⟩ := hsat
  by_cases hown : ∃ k n c, (k, some (n, c)) ∈ l ∧ i = n
  · obtain ⟨k, n, c, hm, rfl⟩ := hown
    obtain ⟨o, ho, _, hex⟩ := h1 k i c hm
    have := a1 k
    rw [hk k i c hm] at this
    rw [ho]
    exact a5 k i o (hex _ this)
  · have hr := a4 i (fun k n c hm e => hown ⟨k, n, c, hm, e⟩)
    have ho : ∃ o, W.heap[i]? = some o := ⟨_, Array.getElem?_eq_getElem hi⟩
    obtain ⟨o, ho⟩ := ho
    rw [ho]
    exact a6 i o (hr.trans ho)

theorem one_at (n : Nat) (o : Obj) : one n o n = some o := by simp [one]
/-- a block that is only read is given back as it was -/
theorem ro_exact {cs : List SV} {T : RT} {n : Nat} {o : Obj} {W : World} (ho : W.heap[n]? = some o) (e : o = .cells (cellsL cs).toArray T.1 T.2) :
    ∃ o, W.heap[n]? = some o ∧ CH.holds ρ n (.ro cs T) (one n o) ∧ ∀ g, CH.holds ρ n (.ro cs T) g → g n = some o :=
  ⟨o, ho, by show one n o = one n _; rw [e], fun g hg => by have hg : g = one n (.cells (cellsL cs).toArray T.1 T.2) := hg; rw [hg, e]; exact one_at _ _⟩
theorem row_exact {cs : List SV} {off n : Nat} {o : Obj} {W : World} (ho : W.heap[n]? = some o) (pre post : List Value) (T : TypeId) (fr : Nat × Nat) (hl : pre.length = off) (e : o = .cells (pre ++ cellsL cs ++ post).toArray T fr) :
    ∃ o', W.heap[n]? = some o' ∧ CH.holds ρ n (.sy (.row off cs o)) (one n o') ∧ ∀ g, CH.holds ρ n (.sy (.row off cs o)) g → g n = some o' :=
  ⟨o, ho, ⟨rfl, pre, post, T, fr, hl, e⟩, fun g hg => by obtain ⟨hg, _⟩ := hg; rw [hg]; exact one_at _ _⟩
end Go.Eng
