/- A function's contract out of its code: the callee's own chunks apart from the caller's. -/
import Derived.Test.YtgongenkdkiifaaGreatDoorEng9
namespace Go.Eng
variable {U : Type} {ρ : U → Nat → Hp → Prop} {P : Program}

/-- a result's place -/
inductive RV where
  | tmp (t : Nat)
  | cell (t : Nat) (agg : Bool) (m : Nat)

def RV.tree : RV → R U
  | .tmp t => tMov (.t t)
  | .cell t agg m => tLoad agg m (.t t)
def rvL (s : St U) : List RV → (List SV → Prop) → Prop
  | [], K => K []
  | x :: l, K => (x.tree : R U).T (fun _ _ e => rvL s l fun vs => K (e.1 :: vs)) s
/-- what is handed back -/
def retV : List SV → SV
  | [v] => v
  | vs => .tup vs

def chkRV (P : Program) : ResultVar → RV → Bool
  | .tmp t, .tmp u => t == u
  | .cell a t, .cell b agg m => a == b && infoB P t (fun i => i.size == m) && undB P t (fun d => isAggD d == agg)
  | _, _ => false

def chkFn (P : Program) (fn : Func) (rc : RC) (rvs : List RV) : Bool :=
  (match fn.body with | some c => chkC P fn.ntmps c rc | none => false) && fn.results.size == rvs.length && (fn.results.toList.zip rvs).all (fun (x, y) => chkRV P x y) && !(fn.name == "runtime.NumGoroutine")

theorem tree_nil (x : RV) : ∀ {s : St U} {α β : List Nat} {e : Eff U}, Path (x.tree : R U) s α β e → e.2 = [] := by
  have opt : ∀ {q : Option (List DP × SV)} {s : St U} {α β : List Nat} {e : Eff U}, Path (optR q : R U) s α β e → e.2 = [] := by
    intro q s α β e h
    cases q with
    | none => cases h
    | some q =>
      obtain ⟨p, v⟩ := q
      have h : Path (R.asrts p (.ret (v, [])) : R U) s α β e := h
      revert α β
      induction p with
      | nil => intro α β _ h; cases h; rfl
      | cons x p ih => intro α β _ h; cases h with | need _ h => exact ih h h
  intro s α β e h
  cases x with
  | tmp t =>
    simp only [RV.tree, tMov, Opd.rd] at h
    cases h with
    | rdT h =>
      cases hv : s.t t with
      | none => rw [hv] at h; cases h
      | some v => rw [hv] at h; cases h; rfl
  | cell t agg m =>
    simp only [RV.tree, tLoad, Opd.rd] at h
    cases h with
    | rdT h =>
      cases hv : s.t t with
      | none => rw [hv] at h; cases h
      | some v =>
        rw [hv] at h
        simp only [rdS] at h
        cases v <;> try (cases h; done)
        case ptr k n b o =>
          cases h with
          | rdH h =>
            cases hk : s.h k with
            | none => rw [hk] at h; cases h
            | some q =>
              rw [hk] at h
              obtain ⟨n', ch⟩ := q
              cases ch with
              | obj => cases h
              | sy q =>
                cases q with
                | row => cases h with | same _ h => exact opt h
                | gh => cases h
                | dfr => cases h
                | lp => cases h
              | ro cs T => cases h with | same _ h => exact opt h
              | cells cs T => cases h with | same _ h => exact opt h

def rvSem (tmps : Array Value) : ResultVar → Sem Value
  | .tmp t => pure (tmps.getD t undef)
  | .cell u t => do loadVar t (← asAddr (tmps.getD u undef))
theorem results_rv (fn : Func) (tmps : Array Value) : results fn tmps = (do let vs ← fn.results.mapM (rvSem tmps); pure (if h : vs.size = 1 then vs[0] else .tuple vs)) := by
  unfold results
  congr 1

theorem rv_run {N : Nat} {F : Hp → Prop} {c : World} {D : List Deferred} {s : St U} {a : Act} {w : World} (hs : Sat ρ F N c D s a w) {x : ResultVar} {y : RV} (h : chkRV P x y = true) {K : SV → Prop}
    (hK : (y.tree : R U).T (fun _ _ e => K e.1) s) : ∃ v, K v ∧ (rvSem a.tmps x).run P w = .ok v.den w := by
  obtain ⟨hsafe, hpath⟩ := (R.T_iff _).1 hK
  cases x with
  | tmp t =>
    cases y with
    | cell => simp [chkRV] at h
    | tmp u =>
      simp only [chkRV, beq_iff_eq] at h
      subst h
      simp only [RV.tree, tMov, Opd.rd] at hsafe hpath
      cases hv : s.t t with
      | none => simp [Safe, R.T, hv, rdS] at hsafe
      | some v =>
        refine ⟨v, hpath _ _ _ (.rdT (by rw [hv]; exact .ret)), ?_⟩
        simp only [rvSem, Sem.run_pure, hs.tmps t v hv]
  | cell u t =>
    cases y with
    | tmp => simp [chkRV] at h
    | cell b agg m =>
      simp only [chkRV, Bool.and_eq_true, beq_iff_eq] at h
      obtain ⟨⟨rfl, h1⟩, h2⟩ := h
      obtain ⟨i, h3, h4⟩ := infoB_elim h1
      obtain ⟨d, h5, h6⟩ := undB_elim h2
      have h4 : i.size = m := by simpa using h4
      have h6 : isAggD d = agg := by simpa using h6
      simp only [RV.tree, tLoad, Opd.rd] at hsafe hpath
      cases hv : s.t u with
      | none => simp [Safe, R.T, hv, rdS] at hsafe
      | some v =>
        have hs1 := hsafe
        simp only [Safe, R.T, hv, rdS] at hs1
        cases v <;> try exact hs1.elim
        case ptr k n b off =>
          obtain ⟨v, q, hlie⟩ := loadR_elim (ρ := ρ) (s := s) hs1
          refine ⟨v, hpath _ _ _ (.rdT (by rw [hv]; exact .rdH q)), ?_⟩
          obtain ⟨L, T, fr, hcell, l1, l2⟩ := hlie hs.heap rfl
          obtain ⟨r1, r2⟩ := loadVar_run (P := P) (w := w) (n := n) (off := b + off) (l := L) (T := T) h3 h5 hcell
          simp only [rvSem, hs.tmps u _ hv, SV.den, asAddr, Sem.run_bind, Sem.run_pure, Result.andThen_ok]
          cases agg with
          | true =>
            obtain ⟨g1, g2⟩ := l1 rfl
            rw [r1 h6 (by omega), h4, ← g1]
          | false => rw [r2 h6 _ (l2 rfl)]

theorem rvs_run {N : Nat} {F : Hp → Prop} {c : World} {D : List Deferred} {s : St U} {a : Act} {w : World} (hs : Sat ρ F N c D s a w) (xs : List ResultVar) : ∀ {ys : List RV} {K : List SV → Prop}, xs.length = ys.length → ((xs.zip ys).all fun (x, y) => chkRV P x y) = true →
    rvL s ys K → ∃ vs, K vs ∧ vs.length = xs.length ∧ (xs.mapM (rvSem a.tmps) : Sem (List Value)).run P w = .ok (denL vs) w := by
  induction xs with
  | nil =>
    intro ys K hl _ hK
    cases ys with
    | nil => exact ⟨[], hK, rfl, by simp [denL]⟩
    | cons => simp at hl
  | cons x xs ih =>
    intro ys K hl hz hK
    cases ys with
    | nil => simp at hl
    | cons y ys =>
      simp only [List.zip_cons_cons, List.all_cons, Bool.and_eq_true] at hz
      obtain ⟨v, h1, h2⟩ := rv_run hs hz.1 (K := fun v => rvL s ys fun vs => K (v :: vs)) hK
      obtain ⟨vs, h3, h4, h5⟩ := ih (by simpa using hl) hz.2 h1
      refine ⟨v :: vs, h3, by simp [h4], ?_⟩
      rw [List.mapM_cons]
      rw [Sem.run_bind, h2, Result.andThen_ok, Sem.run_bind, h5]
      simp [denL]

/-- the arguments, in their slots -/
def argS : Nat → List SV → List (Nat × SV)
  | _, [] => []
  | i, v :: vs => (i, v) :: argS (i + 1) vs
theorem lookT_argS {vs : List SV} : ∀ {i k : Nat} {v : SV}, lookT (argS i vs) k = some v → i ≤ k ∧ vs[k - i]? = some v := by
  induction vs with
  | nil => intro i k v h; simp [argS, lookT] at h
  | cons x vs ih =>
    intro i k v h
    simp only [argS, lookT] at h
    split at h
    · rename_i e; subst e; simp at h; subst h; simp
    · rename_i e
      obtain ⟨h1, h2⟩ := ih h
      refine ⟨by omega, ?_⟩
      rw [show k - i = (k - (i + 1)) + 1 by omega]
      simpa using h2

/-- what must be so for a function's code -/
def endK (rvs : List RV) (Post : SV → St U → Prop) : Exit → St U → Prop
  | .normal, s => rvL s rvs fun l => Post (retV l) s
  | .ret, s => rvL s rvs fun l => Post (retV l) s
  | _, _ => False
def fnT (Sg : Specs U) (Iv : Invs U) (rc : RC) (rvs : List RV) (vs : List SV) (h : List (Nat × Option (Nat × CH U))) (Post : SV → St U → Prop) : Prop :=
  rc.T Sg Iv (endK rvs Post) (mkS (argS 0 vs) h)

theorem run_fn {Sg : Specs U} {Iv : Invs U} (hSg : SgOk ρ P Sg) {f : Nat} {fn : Func} (hf : P.funcs[f]? = some fn) {rc : RC} {rvs : List RV} (hc : chkFn P fn rc rvs = true) {F : Hp → Prop} {c w : World} {vs : List SV}
    (hn : vs.length ≤ fn.ntmps) {h : List (Nat × Option (Nat × CH U))} (hsat : satH ρ F (lookH h) (hp w)) (hsame : Same c w) {Post : SV → St U → Prop} (hT : fnT Sg Iv rc rvs vs h Post) :
    Calls P f (denL vs).toArray w fun e w' => ∃ v s', Post v s' ∧ e = .returned v.den ∧ satH ρ F s'.h (hp w') ∧ Same c w' := by
  simp only [chkFn, Bool.and_eq_true, beq_iff_eq] at hc
  obtain ⟨⟨⟨h1, h2⟩, h3⟩, _⟩ := hc
  cases hb : fn.body with
  | none => rw [hb] at h1; simp at h1
  | some cd =>
    rw [hb] at h1
    refine calls_of_wp hf hb ?_
    have hs : Sat ρ F fn.ntmps c [] (mkS (argS 0 vs) h) { tmps := (denL vs).toArray ++ Array.replicate (fn.ntmps - (denL vs).toArray.size) undef, defers := [] } w := by
      refine ⟨?_, rfl, ?_, hsat, hsame⟩
      · simp [denL_eq]; omega
      · intro k v hk
        obtain ⟨_, hk2⟩ := lookT_argS hk
        have hlt : k < vs.length := by
          have := List.getElem?_eq_some_iff.1 hk2
          obtain ⟨q, _⟩ := this
          simpa using q
        have e1 : (denL vs)[k]? = some v.den := by rw [denL_eq, List.getElem?_map]; simp at hk2; rw [hk2]; rfl
        have hlt2 : k < (denL vs).length := by simpa [denL_eq] using hlt
        have e3 : ((denL vs).toArray ++ Array.replicate (fn.ntmps - (denL vs).toArray.size) undef)[k]? = some v.den := by
          rw [Array.getElem?_append_left (by simpa using hlt2)]
          simpa using e1
        rw [Array.getD_eq_getD_getElem?, e3]
        rfl
    refine chkC_ok (Iv := Iv) hSg rc h1 hs hT ?_
    intro e s a w' hk hs'
    have fin : rvL s rvs (fun l => Post (retV l) s) → bodyPost P fn (fun e w' => ∃ v s', Post v s' ∧ e = .returned v.den ∧ satH ρ F s'.h (hp w') ∧ Same c w') .ret a w' := by
      intro hr
      obtain ⟨l, q1, q2, q3⟩ := rvs_run (P := P) hs' fn.results.toList (by simpa using h2) h3 hr
      refine ⟨hs'.defers, (retV l).den, ?_, retV l, s, q1, rfl, hs'.heap, hs'.same⟩
      have e1 : (fn.results.mapM (rvSem a.tmps) : Sem (Array Value)).run P w' = .ok (denL l).toArray w' := by
        generalize fn.results = rs at q3
        obtain ⟨rs⟩ := rs
        rw [List.mapM_toArray]
        simp only [Sem.run_map]
        rw [q3]
        rfl
      rw [results_rv, Sem.run_bind, e1, Result.andThen_ok]
      match l, q2 with
      | [], _ => simp [denL, retV, SV.den]
      | [v], _ => simp [denL, retV]
      | v :: u :: l, _ => simp [denL, retV, SV.den]
    cases e with
    | normal => exact fin hk
    | ret => exact fin hk
    | exit => exact hk.elim
    | goto => exact hk.elim
    | panic => exact hk.elim
    | outgrown => exact hk.elim

theorem callable_of {f : Nat} {fn : Func} (hf : P.funcs[f]? = some fn) {rc : RC} {rvs : List RV} (hc : chkFn P fn rc rvs = true) : Callable P f := by
  simp only [chkFn, Bool.and_eq_true, beq_iff_eq, Bool.not_eq_true'] at hc
  obtain ⟨⟨⟨h1, _⟩, _⟩, h4⟩ := hc
  refine ⟨fn, hf, ?_, h4⟩
  cases hb : fn.body with
  | none => rw [hb] at h1; simp at h1
  | some => rfl

/-! ## the caller's chunks stay apart -/
theorem satH.shut {F : Hp → Prop} {h : Nat → Option (Nat × CH U)} {g : Hp} (x : satH ρ F h g) : satH ρ (fun r => satH ρ F h r) (fun _ => none) g := by
  refine ⟨fun _ => emp, g, fun _ => rfl, fun _ _ _ => Dj.emp_left _, fun _ => Dj.emp_left _, x, ?_, Sub.refl g⟩
  intro k b o hb
  exact absurd hb (by simp [emp])

theorem satH.reopen {F : Hp → Prop} {h h' : Nat → Option (Nat × CH U)} {g : Hp} (x : satH ρ (fun r => satH ρ F h r) h' g) : satH ρ F h g := by
  obtain ⟨p, r, _, _, _, h4, _, h6⟩ := x
  exact h4.mono h6

/-- one chunk is handed over under another key -/
theorem satH.lend {F : Hp → Prop} {h h' : Nat → Option (Nat × CH U)} {g : Hp} (x : satH ρ (fun r => satH ρ F h r) h' g) {k l : Nat} (hl : h' l = none) :
    satH ρ (fun r => satH ρ F (fun j => if j = k then none else h j) r) (fun j => if j = l then h k else h' j) g := by
  obtain ⟨p, r, h1, h2, h3, h4, h5, h6⟩ := x
  obtain ⟨gk, gr, f1, f2, f3, f4, f5, f6⟩ := h4.focus k
  have h4' := h4
  obtain ⟨q, r0, q1, q2, q3, q4, q5, q6⟩ := h4
  have hpl : p l = emp := by have := h1 l; rw [hl] at this; exact this
  refine ⟨fun j => if j = l then q k else p j, (fun b => if q k b = none then r b else none), ?_, ?_, ?_, ?_, ?_, ?_⟩
  · intro j
    by_cases e : j = l
    · subst e; simp only [if_true]; exact q1 k
    · simp only [e, if_false]; exact h1 j
  · intro i j hij
    dsimp only
    have far : ∀ i, Dj (q k) (p i) := by
      intro i b
      rcases h3 i b with e | e
      · exact .inr e
      · left
        cases hb : q k b with
        | none => rfl
        | some o => have := q5 k b o hb; rw [e] at this; exact absurd this (by simp)
    split
    · rename_i e; subst e; rw [if_neg (fun e => hij e.symm)]; exact far j
    · split
      · exact (far i).symm
      · exact h2 i j hij
  · intro j
    dsimp only
    split
    · intro b
      by_cases e : q k b = none
      · exact .inl e
      · exact .inr (by simp [e])
    · intro b
      rcases h3 j b with e | e
      · exact .inl e
      · right; simp [e]
  · show satH ρ F (fun j => if j = k then none else h j) (fun b => if q k b = none then r b else none)
    have sub : ∀ y : Hp, Sub y r → Dj (q k) y → Sub y (fun b => if q k b = none then r b else none) := by
      intro y hy hd b o hb
      rcases hd b with e | e
      · simp [e, hy b o hb]
      · rw [e] at hb; exact absurd hb (by simp)
    refine ⟨fun j => if j = k then emp else q j, r0, ?_, ?_, ?_, q4, ?_, sub _ q6 (q3 k)⟩
    · intro j
      by_cases e : j = k
      · simp [e]
      · simpa [e] using q1 j
    · intro i j hij
      dsimp only
      split
      · exact Dj.emp_left _
      · split
        · exact Dj.emp_right _
        · exact q2 i j hij
    · intro j; dsimp only; split
      · exact Dj.emp_left _
      · exact q3 j
    · intro j; dsimp only; split
      · intro b o hb; exact absurd hb (by simp [emp])
      · rename_i e; exact sub _ (q5 j) (q2 k j (fun e' => e e'.symm))
  · intro j; dsimp only; split
    · exact (q5 k).trans h6
    · exact h5 j
  · intro b o hb
    dsimp only at hb
    split at hb
    · exact h6 b o hb
    · exact absurd hb (by simp)

/-- one chunk comes back, or comes anew -/
theorem satH.back {F : Hp → Prop} {h h' : Nat → Option (Nat × CH U)} {g : Hp} (x : satH ρ (fun r => satH ρ F h r) h' g) (k l : Nat) :
    satH ρ (fun r => satH ρ F (fun j => if j = k then h' l else h j) r) (fun j => if j = l then none else h' j) g := by
  obtain ⟨p, r, h1, h2, h3, h4, h5, h6⟩ := x
  obtain ⟨q, r0, q1, q2, q3, q4, q5, q6⟩ := h4
  have far : ∀ y : Hp, Sub y r → ∀ i, Dj (p i) y := by
    intro y hy i b
    rcases h3 i b with e | e
    · exact .inl e
    · right
      cases hb : y b with
      | none => rfl
      | some o => have := hy b o hb; rw [e] at this; exact absurd this (by simp)
  refine ⟨fun j => if j = l then emp else p j, (fun b => (r b).or (p l b)), ?_, ?_, ?_, ?_, ?_, ?_⟩
  · intro j
    by_cases e : j = l
    · simp [e]
    · simpa [e] using h1 j
  · intro i j hij
    dsimp only
    split
    · exact Dj.emp_left _
    · split
      · exact Dj.emp_right _
      · exact h2 i j hij
  · intro j; dsimp only; split
    · exact Dj.emp_left _
    · rename_i e
      intro b
      rcases h3 j b with e1 | e1
      · exact .inl e1
      · rcases h2 j l e b with e2 | e2
        · exact .inl e2
        · right; simp [e1, e2]
  · show satH ρ F (fun j => if j = k then h' l else h j) (fun b => (r b).or (p l b))
    have sub : ∀ y : Hp, Sub y r → Sub y (fun b => (r b).or (p l b)) := by
      intro y hy b o hb
      simp [hy b o hb]
    refine ⟨fun j => if j = k then p l else q j, r0, ?_, ?_, ?_, q4, ?_, sub _ q6⟩
    · intro j
      by_cases e : j = k
      · subst e; simp only [if_true]; exact h1 l
      · simpa [e] using q1 j
    · intro i j hij
      dsimp only
      split
      · rename_i e; subst e; rw [if_neg (fun e => hij e.symm)]; exact far _ (q5 j) l
      · split
        · exact (far _ (q5 i) l).symm
        · exact q2 i j hij
    · intro j; dsimp only; split
      · exact far _ q6 l
      · exact q3 j
    · intro j; dsimp only; split
      · intro b o hb
        rcases h3 l b with e1 | e1
        · rw [e1] at hb; exact absurd hb (by simp)
        · simp [e1, hb]
      · exact sub _ (q5 j)
  · intro j; dsimp only; split
    · intro b o hb; exact absurd hb (by simp [emp])
    · exact h5 j
  · intro b o hb
    dsimp only at hb
    cases hr : r b with
    | some o' => rw [hr] at hb; simp at hb; subst hb; exact h6 b _ hr
    | none => rw [hr] at hb; simp at hb; exact h5 l b o hb

end Go.Eng
