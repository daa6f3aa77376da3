/- Code, resolved, and what must be so for it; a function's contract out of its code. -/
import Derived.Test.YtgongenkdkiifaaGreatDoorEng8
namespace Go.Eng
variable {U : Type} {ρ : U → Nat → Hp → Prop} {P : Program} {N : Nat}

/-- code, resolved -/
inductive RC where
  | skip
  | ret
  | exit (id : Nat)
  | goto (l : Nat)
  | label (l : Nat)
  | reg (draw : Bool) (dep : List (List Nat)) (l : List RO)
  | seq (a b : RC)
  | cond (c : Opd) (a b : RC)
  | block (id : Nat) (b : RC)
  | loop (i : Nat) (b : RC)
  | scope (i l : Nat) (b : RC)
  | regd (l : List RO) (x : Opd)
  | rngz (x : Opd)

/-! ## regions: the log is looked at at the end -/
def apartB (x y : Lg) : Bool :=
  (x.rt.all fun t => !y.wt.contains t) && (x.rh.all fun t => !y.wh.contains t) && (y.rt.all fun t => !x.wt.contains t) && (y.rh.all fun t => !x.wh.contains t) && (x.wt.all fun t => !y.wt.contains t) && (x.wh.all fun t => !y.wh.contains t)
theorem apartB_ok {x y : Lg} (h : apartB x y = true) : x.apart y := by
  simp only [apartB, Bool.and_eq_true, List.all_eq_true, Bool.not_eq_true', List.contains_eq_mem, decide_eq_false_iff_not] at h
  obtain ⟨⟨⟨⟨⟨h1, h2⟩, h3⟩, h4⟩, h5⟩, h6⟩ := h
  exact ⟨⟨h1, h2⟩, ⟨h3, h4⟩, ⟨h5, h6⟩⟩

def okLog (dep : List (List Nat)) : List (Nat × Lg) → Bool
  | [] => true
  | x :: l => l.all (fun y => (dep.getD y.1 []).contains x.1 || apartB x.2 y.2) && okLog dep l
def depF (dep : List (List Nat)) (i j : Nat) : Bool := (dep.getD i []).contains j

def VCE (rs : Nat → R U) (ds : Nat → Option Nat) (dep : List (List Nat)) : List Nat → List (Nat × Lg) → (St U → Prop) → St U → Prop
  | [], log, K, s => okLog dep log = true ∧ K s
  | i :: L, log, K, s => (rs i).T (fun a b e => VCE rs ds dep L (log ++ [(i, mkLg a b (ds i) e)]) K (s.put (ds i) e)) s

theorem okLog_snoc {dep : List (List Nat)} {l : List (Nat × Lg)} {y : Nat × Lg} (h : okLog dep (l ++ [y]) = true) : okLog dep l = true ∧ ∀ x ∈ l, depF dep y.1 x.1 = true ∨ x.2.apart y.2 := by
  induction l with
  | nil => exact ⟨rfl, by simp⟩
  | cons a l ih =>
    simp only [List.cons_append, okLog, Bool.and_eq_true, List.all_append, List.all_cons, List.all_nil, Bool.and_true, Bool.or_eq_true] at h
    obtain ⟨⟨h1, h2⟩, h3⟩ := h
    obtain ⟨i1, i2⟩ := ih h3
    refine ⟨by simp only [okLog, Bool.and_eq_true]; exact ⟨by simpa using h1, i1⟩, ?_⟩
    intro x hx
    rcases List.mem_cons.1 hx with rfl | hx
    · rcases h2 with h2 | h2
      · exact .inl h2
      · exact .inr (apartB_ok h2)
    · exact i2 x hx

theorem VCE_log {rs : Nat → R U} {ds : Nat → Option Nat} {dep : List (List Nat)} {K : St U → Prop} (L : List Nat) : ∀ {log : List (Nat × Lg)} {s : St U}, VCE rs ds dep L log K s → okLog dep log = true := by
  induction L with
  | nil => intro log s h; exact h.1
  | cons i L ih =>
    intro log s h
    have : (rs i).T (fun _ _ _ => okLog dep log = true) s := R.T_mono _ (fun a b e x => (okLog_snoc (ih x)).1) h
    exact T_const this

theorem VCE_VCL {rs : Nat → R U} {ds : Nat → Option Nat} {dep : List (List Nat)} {K : St U → Prop} (L : List Nat) : ∀ {log : List (Nat × Lg)} {s : St U}, VCE rs ds dep L log K s → VCL rs ds (depF dep) L log K s := by
  induction L with
  | nil => intro log s h; exact h.2
  | cons i L ih =>
    intro log s h
    refine R.T_mono _ ?_ h
    intro a b e x
    exact ⟨(okLog_snoc (VCE_log L x)).2, ih x⟩

def roAt (l : List RO) (i : Nat) : RO := l.getD i ⟨none, none, .mov (.c .und), 0⟩
/-- the same, operation by operation -/
def regE (Sg : Specs U) (dep : List (List Nat)) : Nat → List RO → List (Nat × Lg) → (St U → Prop) → St U → Prop
  | _, [], log, K, s => okLog dep log = true ∧ K s
  | i, x :: l, log, K, s => (x.tree Sg).T (fun a b e => regE Sg dep (i + 1) l (log ++ [(i, mkLg a b x.dst e)]) K (s.put x.dst e)) s
def regL (Sg : Specs U) : List RO → (St U → Prop) → St U → Prop
  | [], K, s => K s
  | x :: l, K, s => (x.tree Sg).T (fun _ _ e => regL Sg l K (s.put x.dst e)) s

theorem regE_VCE {Sg : Specs U} {dep : List (List Nat)} {K : St U → Prop} (l : List RO) : ∀ (i : Nat) (m : List RO) (log : List (Nat × Lg)) (s : St U), m.length = i → regE Sg dep i l log K s →
    VCE (fun i => (roAt (m ++ l) i).tree Sg) (fun i => (roAt (m ++ l) i).dst) dep (List.range' i l.length) log K s := by
  induction l with
  | nil => intro i m log s _ h; exact h
  | cons x l ih =>
    intro i m log s hi h
    rw [List.length_cons, List.range'_succ]
    have hx : roAt (m ++ x :: l) i = x := by simp [roAt, List.getD, ← hi]
    simp only [VCE, hx]
    refine R.T_mono _ ?_ h
    intro a b e y
    have := ih (i + 1) (m ++ [x]) _ _ (by simp [hi]) y
    simpa using this
theorem regL_TL {Sg : Specs U} {K : St U → Prop} (l : List RO) : ∀ (i : Nat) (m : List RO) (s : St U), m.length = i → regL Sg l K s →
    TL (fun i => (roAt (m ++ l) i).tree Sg) (fun i => (roAt (m ++ l) i).dst) (List.range' i l.length) K s := by
  induction l with
  | nil => intro i m s _ h; exact h
  | cons x l ih =>
    intro i m s hi h
    rw [List.length_cons, List.range'_succ]
    have hx : roAt (m ++ x :: l) i = x := by simp [roAt, List.getD, ← hi]
    simp only [TL, hx]
    refine R.T_mono _ ?_ h
    intro a b e y
    have := ih (i + 1) (m ++ [x]) _ (by simp [hi]) y
    simpa using this

def chkReg (P : Program) (N : Nat) (ops : Array Oper) (draw : Bool) (dep : List (List Nat)) (l : List RO) : Bool :=
  ops.size == l.length && (List.range ops.size).all (fun i => match ops[i]? with | some o => chkRO P N ops o (roAt l i) | none => true) &&
  (!draw || (P.follows .mixedOrders && edgesOk ops (depF dep)))

/-- how code goes on -/
def onTest (v : Option SV) (x y : Prop) : Prop := match v with | some (.b t) => cond t x y | _ => False
def Opd.test (c : Opd) (s : St U) (x y : Prop) : Prop := match c with | .t n => onTest (s.t n) x y | .c v => onTest (some v) x y

/-! ## a function -/
def lookT (l : List (Nat × SV)) (k : Nat) : Option SV := match l with | [] => none | (d, v) :: l => if k = d then some v else lookT l k
def lookH (l : List (Nat × Option (Nat × CH U))) (k : Nat) : Option (Nat × CH U) := match l with | [] => none | (d, c) :: l => if k = d then c else lookH l k
def mkS (t : List (Nat × SV)) (h : List (Nat × Option (Nat × CH U))) : St U := ⟨lookT t, lookH h⟩
theorem mkS_t (t : List (Nat × SV)) (h : List (Nat × Option (Nat × CH U))) (k : Nat) : (mkS t h).t k = lookT t k := rfl
theorem mkS_h (t : List (Nat × SV)) (h : List (Nat × Option (Nat × CH U))) (k : Nat) : (mkS t h).h k = lookH h k := rfl
theorem putH_look (h l : List (Nat × Option (Nat × CH U))) : putH (lookH h) l = lookH (l.reverse ++ h) := by
  induction l generalizing h with
  | nil => rfl
  | cons x l ih =>
    obtain ⟨k, c⟩ := x
    simp only [putH]
    have : (fun j => if j = k then c else lookH h j) = lookH ((k, c) :: h) := by funext j; simp [lookH]
    rw [this, ih]
    simp
theorem mkS_put (t : List (Nat × SV)) (h : List (Nat × Option (Nat × CH U))) (d : Nat) (v : SV) (l : List (Nat × Option (Nat × CH U))) : (mkS t h).put (some d) (v, l) = mkS ((d, v) :: t) (l.reverse ++ h) := by
  unfold St.put mkS
  congr 1
  exact putH_look h l
theorem mkS_put' (t : List (Nat × SV)) (h : List (Nat × Option (Nat × CH U))) (v : SV) (l : List (Nat × Option (Nat × CH U))) : (mkS t h).put none (v, l) = mkS t (l.reverse ++ h) := by
  unfold St.put mkS
  congr 1
  exact putH_look h l


/-- what holds at a loop's head, and a number that sinks: the slots and chunks that are kept, and what they are -/
structure LInv (U : Type) where
  α : Type
  slots : List Nat
  keys : List Nat
  inv : α → List (Nat × SV) × List (Nat × Option (Nat × CH U))
  μ : α → Nat
/-- how a loop is gone through: by an invariant, or round by round, so many at most -/
inductive LHow (U : Type) where
  | inv (I : LInv U)
  | rounds (n : Nat)
abbrev Invs (U : Type) := Nat → Option (LHow U)

def restrT (s : St U) : List Nat → List (Nat × Option SV)
  | [] => []
  | k :: l => (k, s.t k) :: restrT s l
def restrH (s : St U) : List Nat → List (Nat × Option (Nat × CH U))
  | [] => []
  | k :: l => (k, s.h k) :: restrH s l
def someT : List (Nat × SV) → List (Nat × Option SV)
  | [] => []
  | (k, v) :: l => (k, some v) :: someT l
def LInv.fits (I : LInv U) (s : St U) (a : I.α) : Prop := restrT s I.slots = someT (I.inv a).1 ∧ restrH s I.keys = (I.inv a).2
def LInv.at (I : LInv U) (a : I.α) : St U := mkS (I.inv a).1 (I.inv a).2

def loopK (I : LInv U) (a : I.α) (K : Exit → St U → Prop) : Exit → St U → Prop
  | .normal, s => ∃ a', I.fits s a' ∧ I.μ a' < I.μ a
  | e, s => K e s
def roundK (t : St U → Prop) (K : Exit → St U → Prop) : Exit → St U → Prop
  | .normal, s => t s
  | e, s => K e s
def roundsT (b : (Exit → St U → Prop) → St U → Prop) (K : Exit → St U → Prop) : Nat → St U → Prop
  | 0, _ => False
  | n + 1, s => b (roundK (roundsT b K n) K) s
def LoopT (b : (Exit → St U → Prop) → St U → Prop) (K : Exit → St U → Prop) (s : St U) : Option (LHow U) → Prop
  | none => False
  | some (.inv I) => (∃ a, I.fits s a) ∧ ∀ a, b (loopK I a K) (I.at a)
  | some (.rounds n) => roundsT b K n s

def noGotoK (K : Exit → St U → Prop) : Exit → St U → Prop
  | .goto _, _ => False
  | e, s => K e s
def jump0 (I : LInv U) (l : Nat) (K : Exit → St U → Prop) : Exit → St U → Prop
  | .goto l', s => l' = l ∧ ∃ a, I.fits s a
  | e, s => K e s
def jump1 (I : LInv U) (l : Nat) (a : I.α) (K : Exit → St U → Prop) : Exit → St U → Prop
  | .goto l', s => l' = l ∧ ∃ a', I.fits s a' ∧ I.μ a' < I.μ a
  | e, s => K e s
def jumpK (l : Nat) (t : St U → Prop) (K : Exit → St U → Prop) : Exit → St U → Prop
  | .goto l', s => l' = l ∧ t s
  | e, s => K e s
def jumpsT (rest : (Exit → St U → Prop) → St U → Prop) (l : Nat) (K : Exit → St U → Prop) : Nat → St U → Prop
  | 0, _ => False
  | n + 1, s => rest (jumpK l (jumpsT rest l K n) K) s
/-- a scope: straight on, or with jumps back to one label -/
def ScopeT (b rest : (Exit → St U → Prop) → St U → Prop) (l : Nat) (K : Exit → St U → Prop) (s : St U) : Option (LHow U) → Prop
  | none => b (noGotoK K) s
  | some (.inv I) => b (jump0 I l K) s ∧ ∀ a, rest (jump1 I l a K) (I.at a)
  | some (.rounds n) => b (jumpK l (jumpsT rest l K n) K) s

/-- how a sequence goes on -/
def seqK (b : (Exit → St U → Prop) → St U → Prop) (K : Exit → St U → Prop) : Exit → St U → Prop
  | .normal, s => b K s
  | e, s => K e s
def blockK (id : Nat) (K : Exit → St U → Prop) : Exit → St U → Prop
  | .exit j, s => if j = id then K .normal s else K (.exit j) s
  | e, s => K e s

/-- does a label stand there? -/
def hasL : RC → Nat → Bool
  | .label l', l => l' == l
  | .seq a b, l => hasL a l || hasL b l
  | _, _ => false

mutual
def RC.T (Sg : Specs U) (Iv : Invs U) : RC → (Exit → St U → Prop) → St U → Prop
  | .skip, K, s => K .normal s
  | .ret, K, s => K .ret s
  | .exit id, K, s => K (.exit id) s
  | .goto l, K, s => K (.goto l) s
  | .label _, K, s => K .normal s
  | .reg draw dep l, K, s => match draw with | true => regE Sg dep 0 l [] (K .normal) s | false => regL Sg l (K .normal) s
  | .seq a b, K, s => a.T Sg Iv (seqK (b.T Sg Iv) K) s
  | .cond c a b, K, s => c.test s (a.T Sg Iv K s) (b.T Sg Iv K s)
  | .block id b, K, s => b.T Sg Iv (blockK id K) s
  | .loop i b, K, s => LoopT (b.T Sg Iv) K s (Iv i)
  | .scope i l b, K, s => ScopeT (b.T Sg Iv) (b.TR Sg Iv l) l K s (Iv i)
  | .regd _ _, _, _ => False
  | .rngz _, _, _ => False
/-- the code from a label on -/
def RC.TR (Sg : Specs U) (Iv : Invs U) : RC → Nat → (Exit → St U → Prop) → St U → Prop
  | .label _, _, K, s => K .normal s
  | .seq a b, l, K, s => match hasL a l with | true => a.TR Sg Iv l (seqK (b.T Sg Iv) K) s | false => b.TR Sg Iv l K s
  | _, _, _, _ => False
end

/-- do both find the label in the same way? -/
def chkL : Code → Nat → RC → Bool
  | .label i, l, .label j => i == l && j == l
  | .seq a b, l, .seq a' b' => match hasL a' l with
    | true => chkL a l a'
    | false => (findLabel a l).isNone && chkL b l b'
  | _, _, _ => false

/-- the labels that stand there -/
def labelsOf : RC → List Nat
  | .label l => [l]
  | .seq a b => labelsOf a ++ labelsOf b
  | _ => []
theorem labelsOf_mem {rc : RC} {l : Nat} (h : hasL rc l = true) : l ∈ labelsOf rc := by
  induction rc with
  | label l' => simp [hasL] at h; simp [labelsOf, h]
  | seq a b iha ihb =>
    simp only [hasL, Bool.or_eq_true] at h
    simp only [labelsOf, List.mem_append]
    exact h.elim (fun h => .inl (iha h)) fun h => .inr (ihb h)
  | _ => simp [hasL] at h
/-- operations one behind the other, then a call put off -/
def chkDefer (P : Program) (N : Nat) (ops : Array Oper) (l : List RO) (x : Opd) : Bool :=
  ops.size == l.length + 1 && (List.range l.length).all (fun i => match ops[i]? with | some o => chkRO P N ops o (roAt l i) | none => false) &&
  (match ops[l.length]? with
   | some o => (match o.op with | .defer c => (match c.callee with | .value y => chkOpd y x | _ => false) && c.args.isEmpty | _ => false) && o.guard.isNone && o.dst.isNone
   | none => false)
def chkC (P : Program) (N : Nat) : Code → RC → Bool
  | .skip, .skip => true
  | .ret, .ret => true
  | .exit i, .exit j => i == j
  | .goto i, .goto j => i == j
  | .label i, .label j => i == j
  | .region _ ops draw, .reg draw' dep l => draw == draw' && chkReg P N ops draw dep l
  | .seq a b, .seq a' b' => chkC P N a a' && chkC P N b b'
  | .cond c a b, .cond c' a' b' => chkOpd c c' && chkC P N a a' && chkC P N b b'
  | .block i b, .block j b' => i == j && chkC P N b b'
  | .loop b, .loop _ b' => chkC P N b b'
  | .scope b, .scope _ l b' => (labelsOf b').all (fun l => chkL b l b') && (chkC P N b b' && chkL b l b')
  | .region _ ops draw, .regd l x => !draw && chkDefer P N ops l x
  | .rangeFunc g _ _ _, .rngz x => chkOpd g x
  | _, _ => false

section sound
variable {Sg : Specs U} {Iv : Invs U} {F : Hp → Prop} {c : World} {D : List Deferred}

theorem reg_ok (hSg : SgOk ρ P Sg) {id : Nat} {ops : Array Oper} {draw : Bool} {dep : List (List Nat)} {l : List RO} (h : chkReg P N ops draw dep l = true) {K : St U → Prop} {Q : Exit → Act → World → Prop} {s : St U} {a : Act} {w : World}
    (hs : Sat ρ F N c D s a w) (hv : if draw then regE Sg dep 0 l [] K s else regL Sg l K s) (hK : ∀ s a w, K s → Sat ρ F N c D s a w → Q .normal a w) : (Code.region id ops draw).wp P Q a w := by
  simp only [chkReg, Bool.and_eq_true, beq_iff_eq, Bool.or_eq_true, Bool.not_eq_true'] at h
  obtain ⟨⟨h1, h2⟩, h3⟩ := h
  have hO : ∀ i < ops.size, OpOk ρ P ops N i ((roAt l i).tree Sg) (roAt l i).dst := by
    intro i hi
    have := List.all_eq_true.1 h2 i (by simpa using hi)
    have ho : ops[i]? = some ops[i] := by simp [hi]
    rw [ho] at this
    exact chkRO_ok hSg ho this
  cases draw with
  | true =>
    simp only [Bool.true_eq_false, false_or] at h3
    simp only [if_true] at hv
    have := regE_VCE l 0 [] [] s rfl hv
    rw [← List.range_eq_range', ← h1] at this
    exact region_draw h3.1 h3.2 hO hK hs (VCE_VCL _ this)
  | false =>
    simp only [Bool.false_eq_true, if_false] at hv
    have := regL_TL l 0 [] s rfl hv
    rw [← List.range_eq_range', ← h1] at this
    exact wp_region (region_text hO hK _ s a w (by simp) hs this)

theorem test_ok {x : Operand} {y : Opd} (h : chkOpd x y = true) {s : St U} {a : Act} {w : World} (hs : Sat ρ F N c D s a w) {p q : Prop} (ht : y.test s p q) : ∃ t, a.eval x = .bool t ∧ (t = true → p) ∧ (t = false → q) := by
  have key : ∀ v : Option SV, onTest v p q → ∃ t, v = some (.b t) ∧ (t = true → p) ∧ (t = false → q) := by
    intro v hv
    unfold onTest at hv
    split at hv
    · rename_i t
      exact ⟨t, rfl, by rintro rfl; exact hv, by rintro rfl; exact hv⟩
    · exact hv.elim
  rcases chkOpd_den h with ⟨n, rfl, rfl⟩ | ⟨v, rfl, hv⟩
  · obtain ⟨t, h1, h2⟩ := key _ ht
    exact ⟨t, hs.tmps n _ h1, h2⟩
  · obtain ⟨t, h1, h2⟩ := key _ ht
    injection h1 with h1
    subst h1
    exact ⟨t, hv a, h2⟩

theorem satH.weak {h h' : Nat → Option (Nat × CH U)} {g : Hp} (x : satH ρ F h g) (hw : ∀ k, h' k = none ∨ h' k = h k) : satH ρ F h' g := by
  obtain ⟨p, r, h1, h2, h3, h4, h5, h6⟩ := x
  refine ⟨fun k => if (h' k).isSome then p k else emp, r, ?_, ?_, ?_, h4, ?_, h6⟩
  · intro k
    rcases hw k with e | e
    · simp [e]
    · have := h1 k
      cases hk : h k with
      | none => simp [e, hk]
      | some q => rw [hk] at this; simp [e, hk]; exact this
  · intro i j hij
    dsimp only
    split
    · split
      · exact h2 i j hij
      · exact Dj.emp_right _
    · exact Dj.emp_left _
  · intro k; dsimp only; split
    · exact h3 k
    · exact Dj.emp_left _
  · intro k; dsimp only; split
    · exact h5 k
    · intro b o hb; exact absurd hb (by simp [emp])

theorem restrT_look {s : St U} {slots : List Nat} : ∀ {l : List (Nat × SV)}, restrT s slots = someT l → ∀ k v, lookT l k = some v → s.t k = some v := by
  induction slots with
  | nil =>
    intro l h k v hk
    cases l with
    | nil => simp [lookT] at hk
    | cons x l => obtain ⟨a, b⟩ := x; simp [restrT, someT] at h
  | cons x slots ih =>
    intro l h k v hk
    cases l with
    | nil => simp [restrT, someT] at h
    | cons y l =>
      obtain ⟨a, b⟩ := y
      simp only [restrT, someT, List.cons.injEq, Prod.mk.injEq] at h
      obtain ⟨⟨rfl, h1⟩, h2⟩ := h
      simp only [lookT] at hk
      split at hk
      · rename_i e; subst e; rw [← hk]; exact h1
      · exact ih h2 k v hk
theorem restrH_look {s : St U} {keys : List Nat} : ∀ {l : List (Nat × Option (Nat × CH U))}, restrH s keys = l → ∀ k, lookH l k = none ∨ lookH l k = s.h k := by
  induction keys with
  | nil => intro l h k; simp only [restrH] at h; subst h; exact .inl rfl
  | cons x keys ih =>
    intro l h k
    simp only [restrH] at h
    subst h
    simp only [lookH]
    split
    · rename_i e; subst e; exact .inr rfl
    · exact ih rfl k
theorem Sat.fits {N : Nat} {s : St U} {a : Act} {w : World} (hs : Sat ρ F N c D s a w) {I : LInv U} {x : I.α} (h : I.fits s x) : Sat ρ F N c D (I.at x) a w :=
  ⟨hs.size, hs.defers, fun k v hk => hs.tmps k v (restrT_look h.1 k v hk), hs.heap.weak (restrH_look h.2), hs.same⟩

theorem chkL_find {cd : Code} {l : Nat} {rc : RC} (h : chkL cd l rc = true) : ∃ rest, findLabel cd l = some rest := by
  induction cd generalizing rc with
  | label i =>
    cases rc <;> simp only [chkL, Bool.false_eq_true, Bool.and_eq_true, beq_iff_eq] at h
    obtain ⟨rfl, _⟩ := h
    simp [findLabel]
  | seq a b iha ihb =>
    cases rc <;> simp only [chkL, Bool.false_eq_true] at h
    split at h
    · obtain ⟨r, hr⟩ := iha h
      simp [findLabel, hr]
    · simp only [Bool.and_eq_true, Option.isNone_iff_eq_none] at h
      obtain ⟨r, hr⟩ := ihb h.2
      simp [findLabel, h.1, hr]
  | _ => cases rc <;> simp [chkL] at h

/-- a piece of code does what its literal says -/
def CodeOk (ρ : U → Nat → Hp → Prop) (P : Program) (N : Nat) (F : Hp → Prop) (c : World) (D : List Deferred) (cd : Code) (t : (Exit → St U → Prop) → St U → Prop) : Prop :=
  ∀ {K : Exit → St U → Prop} {Q : Exit → Act → World → Prop} {s : St U} {a : Act} {w : World},
    Sat ρ F N c D s a w → t K s → (∀ e s a w, K e s → Sat ρ F N c D s a w → Q e a w) → cd.wp P Q a w

theorem seq_ok {x y : Code} {tx ty : (Exit → St U → Prop) → St U → Prop} (hx : CodeOk ρ P N F c D x tx) (hy : CodeOk ρ P N F c D y ty) : CodeOk ρ P N F c D (.seq x y) (fun K s => tx (seqK ty K) s) := by
  intro K Q s a w hs hv hK
  refine wp_seq (hx hs hv ?_)
  intro e s a w k q
  cases e with
  | normal => exact hy q k hK
  | exit => exact hK _ _ _ _ k q
  | goto => exact hK _ _ _ _ k q
  | ret => exact hK _ _ _ _ k q
  | panic => exact hK _ _ _ _ k q
  | outgrown => exact hK _ _ _ _ k q

theorem loop_ok {body : Code} {t : (Exit → St U → Prop) → St U → Prop} (hb : CodeOk ρ P N F c D body t) (I : LInv U) : CodeOk ρ P N F c D (.loop body) (fun K s => (∃ a, I.fits s a) ∧ ∀ a, t (loopK I a K) (I.at a)) := by
  intro K Q s a w hs hv hK
  obtain ⟨⟨x0, h0⟩, hI⟩ := hv
  have key : ∀ n (x : I.α) a w, I.μ x = n → Sat ρ F N c D (I.at x) a w → ∀ (b' : Frame) (k : List Item) (cs : List Frame),
      ∃ e a' w', Q e a' w' ∧ Arrives P (lone (b'.at a (.code body :: .inLoop body :: k)) cs w) b' k cs e a' w' := by
    intro n
    induction n using Nat.strongRecOn with
    | _ n ihn =>
      intro x a w hx hs b' k cs
      obtain ⟨e, a₁, w₁, hq, harr⟩ := hb hs (hI x) (Q := fun e a w => match e with | .normal => ∃ x' : I.α, I.μ x' < n ∧ Sat ρ F N c D (I.at x') a w | e => Q e a w) (by
        intro e s a w kk q
        cases e with
        | normal => obtain ⟨x', h1, h2⟩ := kk; exact ⟨x', by omega, q.fits h1⟩
        | exit => exact hK _ _ _ _ kk q
        | goto => exact hK _ _ _ _ kk q
        | ret => exact hK _ _ _ _ kk q
        | panic => exact hK _ _ _ _ kk q
        | outgrown => exact hK _ _ _ _ kk q) b' (.inLoop body :: k) cs
      cases e with
      | normal =>
        obtain ⟨x', hlt, hs'⟩ := hq
        obtain ⟨e₂, a₂, w₂, hq₂, harr₂⟩ := ihn _ hlt x' a₁ w₁ rfl hs' b' k cs
        exact ⟨e₂, a₂, w₂, hq₂, .of_steps (Steps.trans harr (.one step_inLoop)) harr₂⟩
      | exit id => exact ⟨_, a₁, w₁, hq, .pass (x := .inLoop body) rfl (fun _ _ => .inl (by simp)) harr⟩
      | goto l => exact ⟨_, a₁, w₁, hq, .pass (x := .inLoop body) rfl (fun _ _ => .inl (by simp)) harr⟩
      | ret => exact ⟨_, a₁, w₁, hq, .pass (x := .inLoop body) rfl (fun _ _ => .inl (by simp)) harr⟩
      | panic ch => exact ⟨_, a₁, w₁, hq, .pass (x := .inLoop body) rfl (fun _ _ => .inl (by simp)) harr⟩
      | outgrown => exact ⟨_, a₁, w₁, hq, .pass (x := .inLoop body) rfl (fun _ _ => .inl (by simp)) harr⟩
  intro b' k cs
  obtain ⟨e, a', w', hq, harr⟩ := key _ x0 a w rfl (hs.fits h0) b' k cs
  exact ⟨e, a', w', hq, .of_steps (.one step_loop) harr⟩

theorem rounds_ok {body : Code} {t : (Exit → St U → Prop) → St U → Prop} (hb : CodeOk ρ P N F c D body t) (n : Nat) : CodeOk ρ P N F c D (.loop body) (fun K s => roundsT t K n s) := by
  intro K Q s a w hs hv hK
  have key : ∀ n (s : St U) a w, Sat ρ F N c D s a w → roundsT t K n s → ∀ (b' : Frame) (k : List Item) (cs : List Frame),
      ∃ e a' w', Q e a' w' ∧ Arrives P (lone (b'.at a (.code body :: .inLoop body :: k)) cs w) b' k cs e a' w' := by
    intro n
    induction n with
    | zero => intro s a w _ h; exact h.elim
    | succ n ihn =>
      intro s a w hs hv b' k cs
      obtain ⟨e, a₁, w₁, hq, harr⟩ := hb hs hv (Q := fun e a w => match e with | .normal => ∃ s', roundsT t K n s' ∧ Sat ρ F N c D s' a w | e => Q e a w) (by
        intro e s a w kk q
        cases e with
        | normal => exact ⟨s, kk, q⟩
        | exit => exact hK _ _ _ _ kk q
        | goto => exact hK _ _ _ _ kk q
        | ret => exact hK _ _ _ _ kk q
        | panic => exact hK _ _ _ _ kk q
        | outgrown => exact hK _ _ _ _ kk q) b' (.inLoop body :: k) cs
      cases e with
      | normal =>
        obtain ⟨s', h1, hs'⟩ := hq
        obtain ⟨e₂, a₂, w₂, hq₂, harr₂⟩ := ihn s' a₁ w₁ hs' h1 b' k cs
        exact ⟨e₂, a₂, w₂, hq₂, .of_steps (Steps.trans harr (.one step_inLoop)) harr₂⟩
      | exit id => exact ⟨_, a₁, w₁, hq, .pass (x := .inLoop body) rfl (fun _ _ => .inl (by simp)) harr⟩
      | goto l => exact ⟨_, a₁, w₁, hq, .pass (x := .inLoop body) rfl (fun _ _ => .inl (by simp)) harr⟩
      | ret => exact ⟨_, a₁, w₁, hq, .pass (x := .inLoop body) rfl (fun _ _ => .inl (by simp)) harr⟩
      | panic ch => exact ⟨_, a₁, w₁, hq, .pass (x := .inLoop body) rfl (fun _ _ => .inl (by simp)) harr⟩
      | outgrown => exact ⟨_, a₁, w₁, hq, .pass (x := .inLoop body) rfl (fun _ _ => .inl (by simp)) harr⟩
  intro b' k cs
  obtain ⟨e, a', w', hq, harr⟩ := key n s a w hs hv b' k cs
  exact ⟨e, a', w', hq, .of_steps (.one step_loop) harr⟩

theorem jumps_ok {body rest : Code} {l : Nat} (hf : findLabel body l = some rest) {t tr : (Exit → St U → Prop) → St U → Prop} (hb : CodeOk ρ P N F c D body t) (hr : CodeOk ρ P N F c D rest tr) (n : Nat) :
    CodeOk ρ P N F c D (.scope body) (fun K s => t (jumpK l (jumpsT tr l K n) K) s) := by
  intro K Q s a w hs hv hK
  intro b k cs
  have hg : gotoIn l (.inScope body :: k) = some (.code rest :: .inScope body :: k) := by simp [gotoIn, hf]
  have key : ∀ n (s : St U) a w, Sat ρ F N c D s a w → jumpsT tr l K n s → ∃ e a' w', Q e a' w' ∧ Arrives P (lone (b.at a (.code rest :: .inScope body :: k)) cs w) b k cs e a' w' := by
    intro n
    induction n with
    | zero => intro s a w _ h; exact h.elim
    | succ n ihn =>
      intro s a w hs hv
      obtain ⟨e, a₁, w₁, hq, harr⟩ := hr hs hv (Q := fun e a w => match e with | .goto l' => l' = l ∧ ∃ s', jumpsT tr l K n s' ∧ Sat ρ F N c D s' a w | e => Q e a w) (by
        intro e s a w kk q
        cases e with
        | goto l' => exact ⟨kk.1, s, kk.2, q⟩
        | normal => exact hK _ _ _ _ kk q
        | exit => exact hK _ _ _ _ kk q
        | ret => exact hK _ _ _ _ kk q
        | panic => exact hK _ _ _ _ kk q
        | outgrown => exact hK _ _ _ _ kk q) b (.inScope body :: k) cs
      cases e with
      | normal => exact ⟨.normal, a₁, w₁, hq, Steps.trans harr (.one step_inScope)⟩
      | exit id => exact ⟨.exit id, a₁, w₁, hq, fun k' hk => harr k' (by simp [exitTo, hk])⟩
      | goto l' =>
        obtain ⟨rfl, s', h1, hs'⟩ := hq
        obtain ⟨e₂, a₂, w₂, hq₂, harr₂⟩ := ihn s' a₁ w₁ hs' h1
        exact ⟨e₂, a₂, w₂, hq₂, .of_steps (harr _ hg) harr₂⟩
      | ret => exact ⟨_, a₁, w₁, hq, harr⟩
      | panic ch => exact ⟨_, a₁, w₁, hq, harr⟩
      | outgrown => exact ⟨_, a₁, w₁, hq, harr⟩
  obtain ⟨e, a₁, w₁, hq, harr⟩ := hb hs hv (Q := fun e a w => match e with | .goto l' => l' = l ∧ ∃ s', jumpsT tr l K n s' ∧ Sat ρ F N c D s' a w | e => Q e a w) (by
    intro e s a w kk q
    cases e with
    | goto l' => exact ⟨kk.1, s, kk.2, q⟩
    | normal => exact hK _ _ _ _ kk q
    | exit => exact hK _ _ _ _ kk q
    | ret => exact hK _ _ _ _ kk q
    | panic => exact hK _ _ _ _ kk q
    | outgrown => exact hK _ _ _ _ kk q) b (.inScope body :: k) cs
  cases e with
  | normal => exact ⟨.normal, a₁, w₁, hq, .head step_scope (Steps.trans harr (.one step_inScope))⟩
  | exit id => exact ⟨.exit id, a₁, w₁, hq, fun k' hk => .head step_scope (harr k' (by simp [exitTo, hk]))⟩
  | goto l' =>
    obtain ⟨rfl, s', h1, hs'⟩ := hq
    obtain ⟨e₂, a₂, w₂, hq₂, harr₂⟩ := key n s' a₁ w₁ hs' h1
    exact ⟨e₂, a₂, w₂, hq₂, .of_steps (.head step_scope (harr _ hg)) harr₂⟩
  | ret => exact ⟨_, a₁, w₁, hq, .of_steps (.one step_scope) harr⟩
  | panic ch => exact ⟨_, a₁, w₁, hq, .of_steps (.one step_scope) harr⟩
  | outgrown => exact ⟨_, a₁, w₁, hq, .of_steps (.one step_scope) harr⟩

theorem scope_ok {body rest : Code} {l : Nat} (hf : findLabel body l = some rest) {t tr : (Exit → St U → Prop) → St U → Prop} (hb : CodeOk ρ P N F c D body t) (hr : CodeOk ρ P N F c D rest tr) (I : LInv U) :
    CodeOk ρ P N F c D (.scope body) (fun K s => t (jump0 I l K) s ∧ ∀ a, tr (jump1 I l a K) (I.at a)) := by
  intro K Q s a w hs hv hK
  obtain ⟨h0, h1⟩ := hv
  intro b k cs
  have hg : gotoIn l (.inScope body :: k) = some (.code rest :: .inScope body :: k) := by simp [gotoIn, hf]
  have key : ∀ n (x : I.α) a w, I.μ x = n → Sat ρ F N c D (I.at x) a w → ∃ e a' w', Q e a' w' ∧ Arrives P (lone (b.at a (.code rest :: .inScope body :: k)) cs w) b k cs e a' w' := by
    intro n
    induction n using Nat.strongRecOn with
    | _ n ihn =>
      intro x a w hx hs
      obtain ⟨e, a₁, w₁, hq, harr⟩ := hr hs (h1 x) (Q := fun e a w => match e with | .goto l' => l' = l ∧ ∃ x' : I.α, I.μ x' < n ∧ Sat ρ F N c D (I.at x') a w | e => Q e a w) (by
        intro e s a w kk q
        cases e with
        | goto l' => obtain ⟨e1, x', h1, h2⟩ := kk; exact ⟨e1, x', by omega, q.fits h1⟩
        | normal => exact hK _ _ _ _ kk q
        | exit => exact hK _ _ _ _ kk q
        | ret => exact hK _ _ _ _ kk q
        | panic => exact hK _ _ _ _ kk q
        | outgrown => exact hK _ _ _ _ kk q) b (.inScope body :: k) cs
      cases e with
      | normal => exact ⟨.normal, a₁, w₁, hq, Steps.trans harr (.one step_inScope)⟩
      | exit id => exact ⟨.exit id, a₁, w₁, hq, fun k' hk => harr k' (by simp [exitTo, hk])⟩
      | goto l' =>
        obtain ⟨rfl, x', hlt, hs'⟩ := hq
        obtain ⟨e₂, a₂, w₂, hq₂, harr₂⟩ := ihn _ hlt x' a₁ w₁ rfl hs'
        exact ⟨e₂, a₂, w₂, hq₂, .of_steps (harr _ hg) harr₂⟩
      | ret => exact ⟨_, a₁, w₁, hq, harr⟩
      | panic ch => exact ⟨_, a₁, w₁, hq, harr⟩
      | outgrown => exact ⟨_, a₁, w₁, hq, harr⟩
  obtain ⟨e, a₁, w₁, hq, harr⟩ := hb hs h0 (Q := fun e a w => match e with | .goto l' => l' = l ∧ ∃ x' : I.α, Sat ρ F N c D (I.at x') a w | e => Q e a w) (by
    intro e s a w kk q
    cases e with
    | goto l' => obtain ⟨e1, x', h1⟩ := kk; exact ⟨e1, x', q.fits h1⟩
    | normal => exact hK _ _ _ _ kk q
    | exit => exact hK _ _ _ _ kk q
    | ret => exact hK _ _ _ _ kk q
    | panic => exact hK _ _ _ _ kk q
    | outgrown => exact hK _ _ _ _ kk q) b (.inScope body :: k) cs
  cases e with
  | normal => exact ⟨.normal, a₁, w₁, hq, .head step_scope (Steps.trans harr (.one step_inScope))⟩
  | exit id => exact ⟨.exit id, a₁, w₁, hq, fun k' hk => .head step_scope (harr k' (by simp [exitTo, hk]))⟩
  | goto l' =>
    obtain ⟨rfl, x', hs'⟩ := hq
    obtain ⟨e₂, a₂, w₂, hq₂, harr₂⟩ := key _ x' a₁ w₁ rfl hs'
    exact ⟨e₂, a₂, w₂, hq₂, .of_steps (.head step_scope (harr _ hg)) harr₂⟩
  | ret => exact ⟨_, a₁, w₁, hq, .of_steps (.one step_scope) harr⟩
  | panic ch => exact ⟨_, a₁, w₁, hq, .of_steps (.one step_scope) harr⟩
  | outgrown => exact ⟨_, a₁, w₁, hq, .of_steps (.one step_scope) harr⟩

theorem chkC_both (hSg : SgOk ρ P Sg) (rc : RC) :
    (∀ {cd : Code}, chkC P N cd rc = true → CodeOk ρ P N F c D cd (rc.T Sg Iv)) ∧
    (∀ {cd : Code} {l : Nat}, chkC P N cd rc = true → chkL cd l rc = true → ∀ {rest}, findLabel cd l = some rest → CodeOk ρ P N F c D rest (rc.TR Sg Iv l)) := by
  induction rc with
  | skip =>
    refine ⟨?_, ?_⟩
    · intro cd h K Q s a w hs hv hK; cases cd <;> simp only [chkC, Bool.false_eq_true] at h; exact wp_skip (hK _ _ _ _ (by simpa only [RC.T] using hv) hs)
    · intro cd l _ h; cases cd <;> simp [chkL] at h
  | ret =>
    refine ⟨?_, ?_⟩
    · intro cd h K Q s a w hs hv hK; cases cd <;> simp only [chkC, Bool.false_eq_true] at h; exact wp_ret (hK _ _ _ _ (by simpa only [RC.T] using hv) hs)
    · intro cd l _ h; cases cd <;> simp [chkL] at h
  | exit id =>
    refine ⟨?_, ?_⟩
    · intro cd h K Q s a w hs hv hK; cases cd <;> simp only [chkC, Bool.false_eq_true, beq_iff_eq] at h; subst h; exact wp_exit (hK _ _ _ _ (by simpa only [RC.T] using hv) hs)
    · intro cd l _ h; cases cd <;> simp [chkL] at h
  | goto id =>
    refine ⟨?_, ?_⟩
    · intro cd h K Q s a w hs hv hK; cases cd <;> simp only [chkC, Bool.false_eq_true, beq_iff_eq] at h; subst h; exact wp_goto (hK _ _ _ _ (by simpa only [RC.T] using hv) hs)
    · intro cd l _ h; cases cd <;> simp [chkL] at h
  | label id =>
    refine ⟨?_, ?_⟩
    · intro cd h K Q s a w hs hv hK; cases cd <;> simp only [chkC, Bool.false_eq_true, beq_iff_eq] at h; exact wp_label (hK _ _ _ _ (by simpa only [RC.T] using hv) hs)
    · intro cd l h1 h rest hf K Q s a w hs hv hK
      cases cd <;> simp only [chkL, Bool.false_eq_true, Bool.and_eq_true, beq_iff_eq] at h
      obtain ⟨rfl, _⟩ := h
      simp only [findLabel, if_true, Option.some.injEq, beq_self_eq_true] at hf
      subst hf
      exact wp_skip (hK _ _ _ _ (by simpa only [RC.TR] using hv) hs)
  | reg draw dep l =>
    refine ⟨?_, ?_⟩
    · intro cd h K Q s a w hs hv hK
      cases cd <;> simp only [chkC, Bool.false_eq_true, Bool.and_eq_true, beq_iff_eq] at h
      obtain ⟨rfl, h2⟩ := h
      refine reg_ok hSg h2 hs (K := K .normal) ?_ (fun s a w k q => hK _ _ _ _ k q)
      simp only [RC.T] at hv
      rename_i draw
      cases draw <;> simpa using hv
    · intro cd l _ h; cases cd <;> simp [chkL] at h
  | seq x y ihx ihy =>
    refine ⟨?_, ?_⟩
    · intro cd h K Q s a w hs hv hK
      cases cd <;> simp only [chkC, Bool.false_eq_true, Bool.and_eq_true] at h
      simp only [RC.T] at hv
      exact seq_ok (ihx.1 h.1) (ihy.1 h.2) hs hv hK
    · intro cd l h1 h rest hf K Q s a w hs hv hK
      cases cd <;> simp only [chkC, Bool.false_eq_true, Bool.and_eq_true] at h1
      simp only [chkL] at h
      simp only [RC.TR] at hv
      cases hl : hasL x l with
      | true =>
        simp only [hl] at h hv
        obtain ⟨r, hr⟩ := chkL_find h
        simp only [findLabel, hr] at hf
        injection hf with hf
        subst hf
        exact seq_ok (ihx.2 h1.1 h hr) (ihy.1 h1.2) hs hv hK
      | false =>
        simp only [hl, Bool.and_eq_true, Option.isNone_iff_eq_none] at h hv
        simp only [findLabel, h.1] at hf
        exact ihy.2 h1.2 h.2 hf hs hv hK
  | cond co x y ihx ihy =>
    refine ⟨?_, ?_⟩
    · intro cd h K Q s a w hs hv hK
      cases cd <;> simp only [chkC, Bool.false_eq_true, Bool.and_eq_true] at h
      simp only [RC.T] at hv
      obtain ⟨t, h1, h2, h3⟩ := test_ok h.1.1 hs hv
      refine wp_cond h1 ?_
      cases t with
      | true => exact ihx.1 h.1.2 hs (h2 rfl) hK
      | false => exact ihy.1 h.2 hs (h3 rfl) hK
    · intro cd l _ h; cases cd <;> simp [chkL] at h
  | block id b ih =>
    refine ⟨?_, ?_⟩
    · intro cd h K Q s a w hs hv hK
      cases cd <;> simp only [chkC, Bool.false_eq_true, Bool.and_eq_true, beq_iff_eq] at h
      obtain ⟨rfl, h2⟩ := h
      simp only [RC.T] at hv
      refine wp_block (ih.1 h2 hs hv ?_)
      intro e s a w k q
      cases e with
      | exit j =>
        simp only [Exit.inBlock]
        simp only [blockK] at k
        split
        · rename_i e1; rw [if_pos e1] at k; exact hK _ _ _ _ k q
        · rename_i e1; rw [if_neg e1] at k; exact hK _ _ _ _ k q
      | normal => exact hK _ _ _ _ k q
      | goto => exact hK _ _ _ _ k q
      | ret => exact hK _ _ _ _ k q
      | panic => exact hK _ _ _ _ k q
      | outgrown => exact hK _ _ _ _ k q
    · intro cd l _ h; cases cd <;> simp [chkL] at h
  | loop i b ih =>
    refine ⟨?_, ?_⟩
    · intro cd h K Q s a w hs hv hK
      cases cd <;> simp only [chkC, Bool.false_eq_true] at h
      simp only [RC.T] at hv
      cases hi : Iv i with
      | none => rw [hi] at hv; exact hv.elim
      | some I =>
        rw [hi] at hv
        cases I with
        | inv I => exact loop_ok (ih.1 h) I hs hv hK
        | rounds n => exact rounds_ok (ih.1 h) n hs hv hK
    · intro cd l _ h; cases cd <;> simp [chkL] at h
  | scope i l b ih =>
    refine ⟨?_, ?_⟩
    · intro cd h K Q s a w hs hv hK
      cases cd <;> simp only [chkC, Bool.false_eq_true, Bool.and_eq_true] at h
      replace h := h.2
      simp only [RC.T] at hv
      cases hi : Iv i with
      | none =>
        rw [hi] at hv
        refine wp_scope_straight (ih.1 h.1 hs hv ?_)
        intro e s a w k q
        cases e with
        | goto => exact k.elim
        | normal => exact hK _ _ _ _ k q
        | exit => exact hK _ _ _ _ k q
        | ret => exact hK _ _ _ _ k q
        | panic => exact hK _ _ _ _ k q
        | outgrown => exact hK _ _ _ _ k q
      | some I =>
        rw [hi] at hv
        obtain ⟨r, hr⟩ := chkL_find h.2
        cases I with
        | inv I => exact scope_ok hr (ih.1 h.1) (ih.2 h.1 h.2 hr) I hs hv hK
        | rounds n => exact jumps_ok hr (ih.1 h.1) (ih.2 h.1 h.2 hr) n hs hv hK
    · intro cd l _ h; cases cd <;> simp [chkL] at h
  | regd l x =>
    refine ⟨?_, ?_⟩
    · intro cd h K Q s a w hs hv hK; simp only [RC.T] at hv
    · intro cd l _ h; cases cd <;> simp [chkL] at h
  | rngz x =>
    refine ⟨?_, ?_⟩
    · intro cd h K Q s a w hs hv hK; simp only [RC.T] at hv
    · intro cd l _ h; cases cd <;> simp [chkL] at h

theorem chkC_ok (hSg : SgOk ρ P Sg) (rc : RC) {cd : Code} (h : chkC P N cd rc = true) : CodeOk ρ P N F c D cd (rc.T Sg Iv) := (chkC_both hSg rc).1 h
end sound

end Go.Eng
