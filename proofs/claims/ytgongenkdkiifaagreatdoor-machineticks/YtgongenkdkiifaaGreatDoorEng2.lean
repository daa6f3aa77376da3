/- What a state of abstract values says of the model's world; and a region of operations, in whatever order it is drawn. -/
import Derived.Test.YtgongenkdkiifaaGreatDoorEng1
namespace Go.Eng
variable {U : Type}

section order
variable (rs : Nat → R U) (ds : Nat → Option Nat) (dep : Nat → Nat → Bool)

/-- one behind the other -/
def TL (rs : Nat → R U) (ds : Nat → Option Nat) : List Nat → (St U → Prop) → St U → Prop
  | [], K, s => K s
  | i :: L, K, s => (rs i).T (fun _ _ e => TL rs ds L K (s.put (ds i) e)) s

/-- one behind the other; those that may change places do not touch each other -/
def VCL : List Nat → List (Nat × Lg) → (St U → Prop) → St U → Prop
  | [], _, K, s => K s
  | i :: L, log, K, s => (rs i).T (fun a b e => (∀ x ∈ log, dep i x.1 = true ∨ x.2.apart (mkLg a b (ds i) e)) ∧
      VCL L (log ++ [(i, mkLg a b (ds i) e)]) K (s.put (ds i) e)) s

variable {rs ds dep}

theorem VCL_log {K : St U → Prop} (L : List Nat) : ∀ {log log' : List (Nat × Lg)} {s : St U}, (∀ x ∈ log', x ∈ log) → VCL rs ds dep L log K s → VCL rs ds dep L log' K s := by
  induction L with
  | nil => intro log log' s _ h; exact h
  | cons i L ih =>
    intro log log' s hl h
    refine R.T_mono _ ?_ h
    intro a b e x
    refine ⟨fun y hy => x.1 y (hl y hy), ih ?_ x.2⟩
    intro y hy
    rcases List.mem_append.1 hy with hy | hy
    · exact List.mem_append_left _ (hl y hy)
    · exact List.mem_append_right _ hy

theorem T_const {r : R U} {s : St U} {q : Prop} (h : r.T (fun _ _ _ => q) s) : q := by
  obtain ⟨h1, h2⟩ := (R.T_iff _).1 h
  obtain ⟨a, b, e, p⟩ := h1.path
  exact h2 _ _ _ p

theorem T_and {r : R U} {s : St U} {q : Prop} {K : List Nat → List Nat → Eff U → Prop} (hq : q) (h : r.T K s) : r.T (fun a b e => q ∧ K a b e) s :=
  R.T_mono _ (fun _ _ _ x => ⟨hq, x⟩) h

theorem VCL_swap {i j : Nat} {L : List Nat} {log : List (Nat × Lg)} {K : St U → Prop} {s : St U} (hd : dep i j = false)
    (h : VCL rs ds dep (j :: i :: L) log K s) : VCL rs ds dep (i :: j :: L) log K s := by
  have h1 : (rs j).T (fun aj bj ej => (rs i).T (fun ai bi ei => (mkLg aj bj (ds j) ej).apart (mkLg ai bi (ds i) ei) ∧
      ((∀ x ∈ log, dep j x.1 = true ∨ x.2.apart (mkLg aj bj (ds j) ej)) ∧ (∀ x ∈ log, dep i x.1 = true ∨ x.2.apart (mkLg ai bi (ds i) ei)) ∧
        VCL rs ds dep L (log ++ [(j, mkLg aj bj (ds j) ej)] ++ [(i, mkLg ai bi (ds i) ei)]) K ((s.put (ds j) ej).put (ds i) ei))) (s.put (ds j) ej)) s := by
    refine R.T_mono _ ?_ h
    intro aj bj ej x
    refine R.T_mono _ ?_ x.2
    intro ai bi ei y
    refine ⟨?_, x.1, fun z hz => y.1 z (List.mem_append_left _ hz), y.2⟩
    rcases y.1 (j, mkLg aj bj (ds j) ej) (by simp) with e | e
    · simp only at e; rw [hd] at e; exact absurd e (by simp)
    · exact e
  have h2 := swap (K := fun lj li s' => (∀ x ∈ log, dep j x.1 = true ∨ x.2.apart lj) ∧ (∀ x ∈ log, dep i x.1 = true ∨ x.2.apart li) ∧
        VCL rs ds dep L (log ++ [(j, lj)] ++ [(i, li)]) K s') h1
  refine R.T_mono _ ?_ h2
  intro ai bi ei x
  refine ⟨?_, ?_⟩
  · exact T_const (R.T_mono _ (fun _ _ _ y => y.2.2.1) x)
  · refine R.T_mono _ ?_ x
    intro aj bj ej y
    refine ⟨?_, VCL_log _ ?_ y.2.2.2⟩
    · intro z hz
      rcases List.mem_append.1 hz with hz | hz
      · exact y.2.1 z hz
      · simp only [List.mem_singleton] at hz; subst hz; exact .inr y.1.symm
    · intro z hz
      simp only [List.append_assoc, List.mem_append, List.mem_singleton] at hz ⊢
      rcases hz with hz | hz | hz
      · exact .inl hz
      · exact .inr (.inr hz)
      · exact .inr (.inl hz)

theorem VCL_front {i : Nat} {post : List Nat} {K : St U → Prop} (pre : List Nat) : ∀ {log : List (Nat × Lg)} {s : St U}, (∀ j ∈ pre, dep i j = false) →
    VCL rs ds dep (pre ++ i :: post) log K s → VCL rs ds dep (i :: (pre ++ post)) log K s := by
  induction pre with
  | nil => intro log s _ h; exact h
  | cons j pre ih =>
    intro log s hp h
    refine VCL_swap (hp j (by simp)) ?_
    refine R.T_mono _ ?_ h
    intro a b e x
    exact ⟨x.1, ih (fun k hk => hp k (List.mem_cons_of_mem _ hk)) x.2⟩

end order

variable (ρ : U → Nat → Hp → Prop)

/-- the heap g holds the chunks of h, apart from each other, and F of a part apart from all -/
def satH (F : Hp → Prop) (h : Nat → Option (Nat × CH U)) (g : Hp) : Prop :=
  ∃ (p : Nat → Hp) (r : Hp), (∀ k, match h k with | none => p k = emp | some (n, c) => c.holds ρ n (p k)) ∧ (∀ j k, j ≠ k → Dj (p j) (p k)) ∧
    (∀ k, Dj (p k) r) ∧ F r ∧ (∀ k, Sub (p k) g) ∧ Sub r g

/-- what of the world stays as it was -/
structure Same (c w : World) : Prop where
  tape : w.tape = c.tape
  os : w.os = c.os
  output : w.output = c.output

structure Sat (F : Hp → Prop) (N : Nat) (c : World) (D : List Deferred) (s : St U) (a : Act) (w : World) : Prop where
  size : a.tmps.size = N
  defers : a.defers = D
  tmps : ∀ k v, s.t k = some v → a.tmps.getD k undef = v.den
  heap : satH ρ F s.h (hp w)
  same : Same c w

variable {ρ} {F : Hp → Prop} {h : Nat → Option (Nat × CH U)} {g : Hp}

theorem satH.mono (x : satH ρ F h g) {g' : Hp} (hs : Sub g g') : satH ρ F h g' := by
  obtain ⟨p, r, h1, h2, h3, h4, h5, h6⟩ := x
  exact ⟨p, r, h1, h2, h3, h4, fun k => (h5 k).trans hs, h6.trans hs⟩

theorem satH.drop (x : satH ρ F h g) (k : Nat) : satH ρ F (fun j => if j = k then none else h j) g := by
  obtain ⟨p, r, h1, h2, h3, h4, h5, h6⟩ := x
  refine ⟨fun j => if j = k then emp else p j, r, ?_, ?_, ?_, h4, ?_, h6⟩
  · intro j; by_cases e : j = k
    · simp [e]
    · simpa [e] using h1 j
  · intro i j hij
    dsimp only
    split
    · exact Dj.emp_left _
    · split
      · exact Dj.emp_right _
      · exact h2 i j hij
  · intro j; dsimp only; split
    · exact Dj.emp_left _
    · exact h3 j
  · intro j; dsimp only; split
    · intro b o hb; exact absurd hb (by simp [emp])
    · exact h5 j

/-- one chunk apart from all else -/
theorem satH.focus (x : satH ρ F h g) (k : Nat) : ∃ gk gr : Hp, (match h k with | none => gk = emp | some (n, c) => c.holds ρ n gk) ∧ Dj gk gr ∧ Sub gk g ∧ Sub gr g ∧
    (∀ b, gr b = if gk b = none then g b else none) ∧
    ∀ (n' : Nat) (c' : CH U) (gk' g' : Hp), c'.holds ρ n' gk' → Dj gk' gr → Sub gk' g' → Sub gr g' → satH ρ F (fun j => if j = k then some (n', c') else h j) g' := by
  obtain ⟨p, r, h1, h2, h3, h4, h5, h6⟩ := x
  have sub : ∀ q : Hp, Sub q g → Dj (p k) q → Sub q (fun b => if p k b = none then g b else none) := by
    intro q hq hd b o hb
    rcases hd b with e | e
    · simp [e, hq b o hb]
    · rw [e] at hb; exact absurd hb (by simp)
  refine ⟨p k, fun b => if p k b = none then g b else none, h1 k, ?_, h5 k, ?_, fun _ => rfl, ?_⟩
  · intro b; by_cases e : p k b = none
    · exact .inl e
    · exact .inr (by simp [e])
  · intro b o hb
    dsimp only at hb
    split at hb
    · exact hb
    · exact absurd hb (by simp)
  · intro n' c' gk' g' hc hd hs hr
    have far : ∀ q : Hp, Sub q g → Dj (p k) q → Dj gk' q := by
      intro q hq hdq b
      rcases hd b with e | e
      · exact .inl e
      · right
        cases hb : q b with
        | none => rfl
        | some o => have := sub q hq hdq b o hb; rw [e] at this; exact absurd this (by simp)
    refine ⟨fun j => if j = k then gk' else p j, r, ?_, ?_, ?_, h4, ?_, ?_⟩
    · intro j; by_cases e : j = k
      · simpa [e] using hc
      · simpa [e] using h1 j
    · intro i j hij
      dsimp only
      split
      · rename_i ei; subst ei
        rw [if_neg (fun e => hij e.symm)]
        exact far _ (h5 j) (h2 i j hij)
      · rename_i ei
        split
        · rename_i ej; subst ej; exact (far _ (h5 i) (h2 j i (fun e => hij e.symm))).symm
        · exact h2 i j hij
    · intro j; dsimp only; split
      · exact far _ h6 (h3 k)
      · exact h3 j
    · intro j; dsimp only; split
      · exact hs
      · rename_i ej; exact (sub _ (h5 j) (h2 k j (fun e => ej e.symm))).trans hr
    · exact (sub _ h6 (h3 k)).trans hr

theorem satH.cells (x : satH ρ F h g) {k n : Nat} {cs : List SV} {T : TypeId} (hk : h k = some (n, .cells cs T)) : g n = some (.cells (cellsL cs).toArray T) := by
  obtain ⟨gk, gr, h1, _, h2, _⟩ := x.focus k
  rw [hk] at h1
  have h1 : gk = one n (.cells (cellsL cs).toArray T) := h1
  exact h2 n _ (by rw [h1]; exact one_self _ _)

theorem satH.roCells (x : satH ρ F h g) {k n : Nat} {cs : List SV} {T : RT} (hk : h k = some (n, .ro cs T)) : ∃ fr : Nat × Nat, g n = some (.cells (cellsL cs).toArray T.1 fr) := by
  obtain ⟨gk, gr, h1, _, h2, _⟩ := x.focus k
  rw [hk] at h1
  have h1 : gk = one n (.cells (cellsL cs).toArray T.1 T.2) := h1
  exact ⟨T.2, h2 n _ (by rw [h1]; exact one_self _ _)⟩

theorem satH.setCells (x : satH ρ F h g) {k n : Nat} {cs cs' : List SV} {T T' : TypeId} (hk : h k = some (n, .cells cs T)) :
    satH ρ F (fun j => if j = k then some (n, .cells cs' T') else h j) (fun b => if b = n then some (.cells (cellsL cs').toArray T') else g b) := by
  obtain ⟨gk, gr, h1, h2, h3, h4, h5, h6⟩ := x.focus k
  rw [hk] at h1
  have h1 : gk = one n (.cells (cellsL cs).toArray T) := h1
  subst h1
  have hn : gr n = none := by rw [h5]; simp [one_self]
  refine h6 n (.cells cs' T') (one n (.cells (cellsL cs').toArray T')) _ rfl (Dj_one.2 hn) ?_ ?_
  · intro b o hb; obtain ⟨rfl, rfl⟩ := one_some hb; simp
  · intro b o hb
    have hbn : b ≠ n := by intro e; subst e; rw [hn] at hb; exact absurd hb (by simp)
    simp [hbn, h4 b o hb]

theorem satH.new (x : satH ρ F h g) {k n : Nat} {o : Obj} {c : CH U} (hn : g n = none) (hc : c.holds ρ n (one n o)) :
    satH ρ F (fun j => if j = k then some (n, c) else h j) (fun b => if b = n then some o else g b) := by
  obtain ⟨gk, gr, h1, h2, h3, h4, h5, h6⟩ := x.focus k
  have hr : gr n = none := by
    cases e : gr n with
    | none => rfl
    | some o' => have := h4 n o' e; rw [hn] at this; exact absurd this (by simp)
  refine h6 n c (one n o) _ hc (Dj_one.2 hr) ?_ ?_
  · intro b o' hb; obtain ⟨rfl, rfl⟩ := one_some hb; simp
  · intro b o' hb
    have hbn : b ≠ n := by intro e; subst e; rw [hr] at hb; exact absurd hb (by simp)
    simp [hbn, h4 b o' hb]

/-- several changes, none of which is more than a removal -/
theorem satH.putNone (x : satH ρ F h g) (l : List Nat) : satH ρ F (putH h (l.map fun k => (k, none))) g := by
  induction l generalizing h with
  | nil => exact x
  | cons k l ih => exact ih (x.drop k)

section region
variable {P : Program} {ops : Array Oper} {N : Nat} {c : World} {D : List Deferred}

/-- an operation does what its tree says -/
def OpOk (ρ : U → Nat → Hp → Prop) (P : Program) (ops : Array Oper) (N : Nat) (i : Nat) (r : R U) (d : Option Nat) : Prop :=
  ∀ (F : Hp → Prop) (c : World) (D : List Deferred) (s : St U) (a : Act) (w : World) (K : Act → World → Prop) (Q : Exit → Act → World → Prop), Sat ρ F N c D s a w → Safe r s →
    (∀ α β e a' w', Path r s α β e → Sat ρ F N c D (s.put d e) a' w' → K a' w') → wpOp P ops Q i K a w

/-- the edges lead back, and dep is what they lead to -/
def edgesOk (ops : Array Oper) (dep : Nat → Nat → Bool) : Bool :=
  (List.range ops.size).all fun i => match ops[i]? with
    | none => true
    | some o => o.after.all (fun e => !Region.binds .any e || decide (e.on < i)) &&
        (List.range ops.size).all fun j => !dep i j || o.after.any fun e => Region.binds .any e && (e.on == j || dep e.on j)

def unl (n : Nat) (listed : Array Bool) : List Nat := (List.range n).filter fun i => !listed.getD i true

theorem mem_unl {n : Nat} {listed : Array Bool} {i : Nat} : i ∈ unl n listed ↔ i < n ∧ listed.getD i true = false := by
  simp [unl]

theorem unl_set {n : Nat} {listed : Array Bool} {i : Nat} {pre post : List Nat} (hn : listed.size = n) (h : unl n listed = pre ++ i :: post) :
    unl n (listed.setIfInBounds i true) = pre ++ post := by
  have hi : i ∈ unl n listed := by rw [h]; simp
  have hlt := (mem_unl.1 hi).1
  have e1 : unl n (listed.setIfInBounds i true) = (unl n listed).filter (· ≠ i) := by
    unfold unl
    rw [List.filter_filter]
    apply List.filter_congr
    intro j hj
    have hjn : j < n := by simpa using hj
    by_cases e : j = i
    · subst e
      simp [Array.getD, hn, hlt]
    · have : (listed.setIfInBounds i true).getD j true = listed.getD j true := by
        simp [Array.getD, hn, hjn, Ne.symm e]
      simp [this, e]
  have nd : (unl n listed).Nodup := List.nodup_range.filter _
  rw [h] at nd
  rw [e1, h, List.filter_append]
  have nd' := nd
  rw [List.nodup_append] at nd
  have hpre : pre.filter (· ≠ i) = pre := by
    rw [List.filter_eq_self]
    intro x hx
    have := nd.2.2 x hx i (by simp)
    simpa using this
  have hpost : post.filter (· ≠ i) = post := by
    rw [List.filter_eq_self]
    intro x hx
    have := (List.nodup_cons.1 nd.2.1).1
    have hne : x ≠ i := fun e => this (e ▸ hx)
    simpa using hne
  rw [hpre]
  simp only [List.filter_cons, ne_eq, not_true_eq_false, decide_false, Bool.false_eq_true, if_false]
  rw [hpost]

theorem region_any {rs : Nat → R U} {ds : Nat → Option Nat} {dep : Nat → Nat → Bool} {K : St U → Prop} {Q : Exit → Act → World → Prop}
    (hE : edgesOk ops dep = true) (hO : ∀ i < ops.size, OpOk ρ P ops N i (rs i) (ds i))
    (hK : ∀ s a w, K s → Sat ρ F N c D s a w → Q .normal a w) :
    ∀ (fuel : Nat) (listed : Array Bool) (log : List (Nat × Lg)) (s : St U) (a : Act) (w : World), listed.size = ops.size → (unl ops.size listed).length ≤ fuel →
      (∀ x j, x < ops.size → listed.getD x true = true → j < ops.size → dep x j = true → listed.getD j true = true) →
      Sat ρ F N c D s a w → VCL rs ds dep (unl ops.size listed) log K s → wpAny P .any ops Q fuel listed a w := by
  have edge : ∀ i o, i < ops.size → ops[i]? = some o → (∀ e ∈ o.after, Region.binds .any e = true → e.on < i) ∧
      (∀ j, j < ops.size → dep i j = true → ∃ e ∈ o.after, Region.binds .any e = true ∧ (e.on = j ∨ dep e.on j = true)) := by
    intro i o hi ho
    unfold edgesOk at hE
    have h1 := List.all_eq_true.1 hE i (by simpa using hi)
    simp only [ho, Bool.and_eq_true] at h1
    refine ⟨?_, ?_⟩
    · intro e he hb
      have := Array.all_eq_true_iff_forall_mem.1 h1.1 e he
      simpa [hb] using this
    · intro j hj hd
      have := List.all_eq_true.1 h1.2 j (by simpa using hj)
      simp only [hd, Bool.not_true, Bool.false_or] at this
      rw [← Array.any_toList, List.any_eq_true] at this
      obtain ⟨e, he, hx⟩ := this
      refine ⟨e, Array.mem_toList_iff.1 he, ?_⟩
      simpa using hx
  have ready : ∀ (listed : Array Bool) i, i ∈ Region.ready .any ops listed ↔ (i < ops.size ∧ listed.getD i true = false ∧ ∀ o, ops[i]? = some o → ∀ e ∈ o.after, Region.binds .any e = true → listed.getD e.on false = true) := by
    intro listed i
    unfold Region.ready
    simp only [List.mem_filter, List.mem_range, Bool.and_eq_true, Bool.not_eq_true']
    refine and_congr_right fun hi => and_congr_right fun _ => ?_
    have ho : ops[i]? = some ops[i] := by simp [hi]
    rw [ho]
    simp only [Option.map_some, Option.getD_some]
    constructor
    · intro h o e1
      injection e1 with e1
      subst e1
      intro e he hb
      have := Array.all_eq_true_iff_forall_mem.1 h e he
      simpa [hb] using this
    · intro h
      refine Array.all_eq_true_iff_forall_mem.2 ?_
      intro e he
      have := h _ rfl e he
      by_cases hb : Region.binds .any e = true
      · simp [hb, this hb]
      · simp [hb]
  have nil_of : ∀ (listed : Array Bool), listed.size = ops.size → Region.ready .any ops listed = [] → unl ops.size listed = [] := by
    intro listed hsz hr
    cases hl : unl ops.size listed with
    | nil => rfl
    | cons i L =>
      exfalso
      have hi : i ∈ unl ops.size listed := by rw [hl]; simp
      obtain ⟨hlt, hf⟩ := mem_unl.1 hi
      have hmin : ∀ j, j < i → listed.getD j true = true := by
        intro j hj
        by_cases hjf : listed.getD j true = true
        · exact hjf
        · exfalso
          have hjm : j ∈ unl ops.size listed := mem_unl.2 ⟨by omega, by simpa using hjf⟩
          have hp : (unl ops.size listed).Pairwise (· < ·) := List.pairwise_lt_range.filter _
          rw [hl] at hjm hp
          rcases List.mem_cons.1 hjm with e | e
          · omega
          · have := (List.pairwise_cons.1 hp).1 j e; omega
      have hrd : i ∈ Region.ready .any ops listed := by
        refine (ready listed i).2 ⟨hlt, hf, ?_⟩
        intro o ho e he hb
        have hon := (edge i o hlt ho).1 e he hb
        have := hmin e.on hon
        have hlt2 : e.on < listed.size := by omega
        simp [Array.getD, hlt2] at this ⊢
        exact this
      rw [hr] at hrd
      simp at hrd
  intro fuel
  induction fuel with
  | zero =>
    intro listed log s a w hsz hlen hcl hs hv
    have hnil : unl ops.size listed = [] := List.length_eq_zero_iff.1 (by omega)
    refine ⟨?_, ?_⟩
    · cases hr : Region.ready .any ops listed with
      | nil => rfl
      | cons i L =>
        exfalso
        have : i ∈ Region.ready .any ops listed := by rw [hr]; simp
        obtain ⟨h1, h2, _⟩ := (ready listed i).1 this
        have : i ∈ unl ops.size listed := mem_unl.2 ⟨h1, h2⟩
        rw [hnil] at this; simp at this
    · rw [hnil] at hv; exact hK _ _ _ hv hs
  | succ fuel ih =>
    intro listed log s a w hsz hlen hcl hs hv
    refine ⟨?_, ?_⟩
    · intro hr
      rw [nil_of listed hsz hr] at hv
      exact hK _ _ _ hv hs
    · intro i hi
      obtain ⟨hlt, hf, hed⟩ := (ready listed i).1 hi
      have him : i ∈ unl ops.size listed := mem_unl.2 ⟨hlt, hf⟩
      obtain ⟨pre, post, hpp⟩ := List.append_of_mem him
      have ho : ops[i]? = some ops[i] := by simp [hlt]
      have hdl : ∀ j, j < ops.size → dep i j = true → listed.getD j true = true := by
        intro j hj hd
        obtain ⟨e, he, hb, hor⟩ := (edge i _ hlt ho).2 j hj hd
        have hl1 := hed _ ho e he hb
        have hon := (edge i _ hlt ho).1 e he hb
        have hl2 : listed.getD e.on true = true := by
          have hlt2 : e.on < listed.size := by omega
          simp [Array.getD, hlt2] at hl1 ⊢
          exact hl1
        rcases hor with e1 | e1
        · rw [← e1]; exact hl2
        · exact hcl e.on j (by omega) hl2 hj e1
      have hpre : ∀ j ∈ pre, dep i j = false := by
        intro j hj
        have hjm : j ∈ unl ops.size listed := by rw [hpp]; simp [hj]
        obtain ⟨hjn, hjf⟩ := mem_unl.1 hjm
        by_cases hd : dep i j = true
        · have := hdl j hjn hd; rw [hjf] at this; exact absurd this (by simp)
        · simpa using hd
      rw [hpp] at hv
      have hv := VCL_front pre hpre hv
      obtain ⟨hsafe, hpath⟩ := (R.T_iff _).1 hv
      refine hO i hlt F c D s a w _ Q hs hsafe ?_
      intro α β e a' w' hp hs'
      obtain ⟨_, hv'⟩ := hpath _ _ _ hp
      rw [← unl_set hsz hpp] at hv'
      refine ih _ _ _ _ _ (by simp [hsz]) ?_ ?_ hs' hv'
      · rw [unl_set hsz hpp]
        rw [hpp] at hlen
        simp at hlen ⊢
        omega
      · intro x j hx hlx hj hd
        have look : ∀ y, (listed.setIfInBounds i true).getD y true = (if y = i then true else listed.getD y true) := by
          intro y
          by_cases hy : y < ops.size
          · by_cases e1 : y = i
            · subst e1; simp [Array.getD, hsz, hy]
            · simp [Array.getD, hsz, hy, Ne.symm e1, e1]
          · simp [Array.getD, hsz, hy]
        rw [look] at hlx ⊢
        by_cases e1 : j = i
        · simp [e1]
        · rw [if_neg e1]
          by_cases e2 : x = i
          · subst e2; exact hdl j hj hd
          · rw [if_neg e2] at hlx; exact hcl x j hx hlx hj hd

theorem region_draw {rs : Nat → R U} {ds : Nat → Option Nat} {dep : Nat → Nat → Bool} {K : St U → Prop} {Q : Exit → Act → World → Prop} {id : Nat} {s : St U} {a : Act} {w : World}
    (hm : P.follows .mixedOrders = true) (hE : edgesOk ops dep = true) (hO : ∀ i < ops.size, OpOk ρ P ops N i (rs i) (ds i))
    (hK : ∀ s a w, K s → Sat ρ F N c D s a w → Q .normal a w) (hs : Sat ρ F N c D s a w) (hv : VCL rs ds dep (List.range ops.size) [] K s) : (Code.region id ops true).wp P Q a w := by
  have hu : unl ops.size (Array.replicate ops.size false) = List.range ops.size := by
    unfold unl
    rw [List.filter_eq_self]
    intro i hi
    have : i < ops.size := by simpa using hi
    simp [Array.getD, this]
  refine wp_region_any hm (region_any (c := c) (F := F) (D := D) hE hO hK ops.size _ [] s a _ (by simp) ?_ ?_ ?_ (by rw [hu]; exact hv))
  · rw [hu]; simp
  · intro x j hx hl
    simp [Array.getD, hx] at hl
  · exact ⟨hs.size, hs.defers, hs.tmps, hs.heap, ⟨hs.same.tape, hs.same.os, hs.same.output⟩⟩

theorem region_text {rs : Nat → R U} {ds : Nat → Option Nat} {K : St U → Prop} {Q : Exit → Act → World → Prop}
    (hO : ∀ i < ops.size, OpOk ρ P ops N i (rs i) (ds i)) (hK : ∀ s a w, K s → Sat ρ F N c D s a w → Q .normal a w) (L : List Nat) :
    ∀ (s : St U) (a : Act) (w : World), (∀ i ∈ L, i < ops.size) → Sat ρ F N c D s a w → TL rs ds L K s → wpOps P ops Q L a w := by
  induction L with
  | nil => intro s a w _ hs hv; exact hK _ _ _ hv hs
  | cons i L ih =>
    intro s a w hL hs hv
    rw [wpOps_cons]
    obtain ⟨hsafe, hpath⟩ := (R.T_iff _).1 hv
    refine hO i (hL i (by simp)) F c D s a w _ Q hs hsafe ?_
    intro α β e a' w' hp hs'
    exact ih _ _ _ (fun j hj => hL j (List.mem_cons_of_mem _ hj)) hs' (hpath _ _ _ hp)
end region

end Go.Eng
