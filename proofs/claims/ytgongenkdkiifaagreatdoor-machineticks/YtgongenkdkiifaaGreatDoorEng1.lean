/- The ground of a small separation logic over the model: abstract values, chunks of memory, trees of reads, and the lemma that lets two operations that do not touch each other change places. No program in sight. -/
import Derived.Orders
import Derived.Defers
import Derived.ScopeJumps
import Derived.LoopTactic
namespace Go.Eng

abbrev Hp := Nat → Option Obj
def hp (w : World) : Hp := fun b => w.heap[b]?
def Dj (g h : Hp) : Prop := ∀ b, g b = none ∨ h b = none
def Sub (g h : Hp) : Prop := ∀ b o, g b = some o → h b = some o
def one (n : Nat) (o : Obj) : Hp := fun b => if b = n then some o else none
def emp : Hp := fun _ => none

theorem Dj.symm {g h : Hp} (x : Dj g h) : Dj h g := fun b => (x b).symm
theorem Dj.emp_left (h : Hp) : Dj emp h := fun _ => .inl rfl
theorem Dj.emp_right (h : Hp) : Dj h emp := fun _ => .inr rfl
theorem Sub.refl (g : Hp) : Sub g g := fun _ _ h => h
theorem Sub.trans {a b c : Hp} (x : Sub a b) (y : Sub b c) : Sub a c := fun n o h => y n o (x n o h)
theorem one_self (n : Nat) (o : Obj) : one n o n = some o := by simp [one]
theorem one_ne {n b : Nat} (o : Obj) (h : b ≠ n) : one n o b = none := by simp [one, h]
theorem one_some {n b : Nat} {o o' : Obj} (h : one n o b = some o') : b = n ∧ o = o' := by
  unfold one at h; split at h
  · rename_i e; exact ⟨e, by simpa using h⟩
  · exact absurd h (by simp)
theorem Dj_one {n : Nat} {o : Obj} {h : Hp} : Dj (one n o) h ↔ h n = none := by
  constructor
  · intro x; rcases x n with e | e
    · rw [one_self] at e; exact absurd e (by simp)
    · exact e
  · intro e b
    by_cases hb : b = n
    · subst hb; exact .inr e
    · exact .inl (one_ne o hb)

/-- abstract values -/
inductive SV where
  | und
  | val (v : Value)
  | i (n : Int)
  | i32 (n : Int)
  | u8 (x : BitVec 8)
  | u16 (x : BitVec 16)
  | u32 (x : BitVec 32)
  | u64 (x : BitVec 64)
  | b (b : Bool)
  | str (s : ByteArray)
  | ptr (k n base o : Nat)
  | nilp
  | slc (k n base o len cap : Nat)
  | nils
  | mp (k n : Nat)
  | fn (f : Nat) (caps : List SV)
  | r8 (n : Nat) (f : Nat → BitVec 8)
  | r32 (n : Nat) (f : Nat → BitVec 32)
  | r64 (n : Nat) (f : Nat → BitVec 64)
  | ri (n : Nat) (f : Nat → Int)
  | rv (n : Nat) (f : Nat → Value)
  | any (n : Nat) (f : Nat → Value)
  | agg (cs : List SV)
  | tup (vs : List SV)

/-- a value of one cell; else a stand-in -/
def oneV (v : Value) : Value := if v.oneCell' then v else .bool false
def flat (l : List Value) : List Value := l.flatMap fun v => v.cells.toList

mutual
def SV.den : SV → Value
  | .und => undef
  | .val v => oneV v
  | .i n => .int .i64 n
  | .i32 n => .int .i32 n
  | .u8 x => .int .u8 x.toNat
  | .u16 x => .int .u16 x.toNat
  | .u32 x => .int .u32 x.toNat
  | .u64 x => .int .u64 x.toNat
  | .b x => .bool x
  | .str s => .string s
  | .ptr _ n base o => .pointer (some ⟨n, base + o, none⟩)
  | .nilp => .pointer none
  | .slc _ n base o len cap => .slice (some ⟨n, base + o, none⟩) len cap
  | .nils => .slice none 0 0
  | .mp _ n => .map (some n)
  | .fn f cs => .func (.func f) #[] (denL cs).toArray
  | .r8 n f => .agg ((List.range n).map fun j => .int .u8 (f j).toNat).toArray
  | .r32 n f => .agg ((List.range n).map fun j => .int .u32 (f j).toNat).toArray
  | .r64 n f => .agg ((List.range n).map fun j => .int .u64 (f j).toNat).toArray
  | .ri n f => .agg ((List.range n).map fun j => .int .i64 (f j)).toArray
  | .rv n f => .agg ((List.range n).map fun j => oneV (f j)).toArray
  | .any n f => .agg ((List.range n).map f).toArray
  | .agg cs => .agg (flat (denL cs)).toArray
  | .tup vs => .tuple (denL vs).toArray
def denL : List SV → List Value
  | [] => []
  | v :: vs => v.den :: denL vs
end

theorem denL_eq (l : List SV) : denL l = l.map SV.den := by
  induction l with
  | nil => simp [denL]
  | cons a l ih => simp [denL, ih]

def SV.cells (v : SV) : List Value := v.den.cells.toList
def cellsL (l : List SV) : List Value := flat (denL l)
theorem cellsL_nil : cellsL [] = [] := by simp [cellsL, denL, flat]
theorem cellsL_cons (v : SV) (l : List SV) : cellsL (v :: l) = v.cells ++ cellsL l := by simp [cellsL, denL, flat, SV.cells]

/-- what else a chunk may be: a number of the proof's own, the block of a loop's deferred calls, a loop's record -/
inductive Sy where
  | gh | dfr | lp
  | row (off : Nat) (cs : List SV) (o : Obj)
/-- a block's type, and how it is frozen -/
abbrev RT := TypeId × Nat × Nat
/-- a chunk of memory: a block of cells, a block that is only read, or an object of a kind that the proof's own family tells -/
inductive CH (U : Type) where
  | cells (cs : List SV) (T : TypeId)
  | ro (cs : List SV) (T : RT)
  | obj (u : U)
  | sy (q : Sy)

/-- what a chunk at block n says of its part of the heap -/
def CH.holds {U : Type} (ρ : U → Nat → Hp → Prop) (n : Nat) : CH U → Hp → Prop
  | .cells cs T, g => g = one n (.cells (cellsL cs).toArray T)
  | .ro cs T, g => g = one n (.cells (cellsL cs).toArray T.1 T.2)
  | .obj u, g => ρ u n g
  | .sy .gh, g => g = emp
  | .sy .dfr, g => g = one n (.deferred (some []))
  | .sy (.row off cs o), g => g = one n o ∧ ∃ (pre post : List Value) (T : TypeId) (fr : Nat × Nat), pre.length = off ∧ o = .cells (pre ++ cellsL cs ++ post).toArray T fr
  | .sy .lp, g => ∃ r : Loop, r.state ≠ .busy ∧ r.pending = none ∧ g = one n (.loop r)

structure St (U : Type) where
  t : Nat → Option SV
  h : Nat → Option (Nat × CH U)

abbrev Eff (U : Type) := SV × List (Nat × Option (Nat × CH U))

def putH {U : Type} (h : Nat → Option (Nat × CH U)) (l : List (Nat × Option (Nat × CH U))) : Nat → Option (Nat × CH U) :=
  match l with
  | [] => h
  | (k, c) :: l => putH (fun j => if j = k then c else h j) l

def putT (t : Nat → Option SV) (d : Option Nat) (v : SV) : Nat → Option SV :=
  match d with
  | none => t
  | some d => fun j => if j = d then some v else t j

def St.put {U : Type} (s : St U) (d : Option Nat) (e : Eff U) : St U := ⟨putT s.t d e.1, putH s.h e.2⟩

/-- all pairs are of two that are the same -/
def allEq : List (Nat × Nat) → Prop
  | [] => True
  | [p] => p.1 = p.2
  | p :: q :: l => p.1 = p.2 ∧ allEq (q :: l)
theorem allEq_iff {l : List (Nat × Nat)} : allEq l ↔ ∀ p ∈ l, p.1 = p.2 := by
  induction l with
  | nil => simp [allEq]
  | cons p l ih =>
    cases l with
    | nil => simp [allEq]
    | cons q l => simp only [allEq, ih]; simp
/-- a tree of reads -/
inductive R (U : Type) : Type 1 where
  | ret (e : Eff U)
  | rdT (t : Nat) (k : Option SV → R U)
  | rdH (key : Nat) (k : Option (Nat × CH U) → R U)
  | all (α : Type) (x : α) (k : α → R U)
  | br (b : Bool) (x y : R U)
  | need (p : Prop) [d : Decidable p] (k : p → R U)
  | same (l : List (Nat × Nat)) (k : R U)
  | fail

variable {U : Type}

/-- what must be so for all its ends: they get what was read, and what came of it -/
def R.T : R U → (List Nat → List Nat → Eff U → Prop) → St U → Prop
  | .ret e, K, _ => K [] [] e
  | .rdT t k, K, s => (k (s.t t)).T (fun a b e => K (t :: a) b e) s
  | .rdH key k, K, s => (k (s.h key)).T (fun a b e => K a (key :: b) e) s
  | .all _ _ k, K, s => ∀ y, (k y).T K s
  | .br b x y, K, s => cond b (x.T K s) (y.T K s)
  | @R.need _ p _ k, K, s => ∃ h : p, (k h).T K s
  | .same l k, K, s => allEq l ∧ k.T K s
  | .fail, _, _ => False

inductive Path : R U → St U → List Nat → List Nat → Eff U → Prop where
  | ret {e s} : Path (.ret e) s [] [] e
  | rdT {t k s a b e} : Path (k (s.t t)) s a b e → Path (.rdT t k) s (t :: a) b e
  | rdH {key k s a b e} : Path (k (s.h key)) s a b e → Path (.rdH key k) s a (key :: b) e
  | all {α x k s a b e} (y : α) : Path (k y) s a b e → Path (.all α x k) s a b e
  | brT {c x y s a b e} : c = true → Path x s a b e → Path (.br c x y) s a b e
  | brF {c x y s a b e} : c = false → Path y s a b e → Path (.br c x y) s a b e
  | need {p} [d : Decidable p] {k s a b e} (h : p) : Path (k h) s a b e → Path (.need p k) s a b e
  | same {l k s a b e} (h : allEq l) : Path k s a b e → Path (.same l k) s a b e

def Safe (r : R U) (s : St U) : Prop := r.T (fun _ _ _ => True) s

theorem R.T_mono (r : R U) : ∀ {s : St U} {K K' : List Nat → List Nat → Eff U → Prop}, (∀ a b e, K a b e → K' a b e) → r.T K s → r.T K' s := by
  induction r with
  | ret e => intro s K K' h x; exact h _ _ _ x
  | rdT t k ih => intro s K K' h x; exact ih _ (fun a b e => h _ _ _) x
  | rdH t k ih => intro s K K' h x; exact ih _ (fun a b e => h _ _ _) x
  | all α y k ih => intro s K K' h x y; exact ih _ h (x y)
  | br c x y ihx ihy => intro s K K' h z; cases c with | true => exact ihx h z | false => exact ihy h z
  | need p k ih => intro s K K' h ⟨hp, x⟩; exact ⟨hp, ih hp h x⟩
  | same l k ih => intro s K K' h ⟨hp, x⟩; exact ⟨hp, ih h x⟩
  | fail => intro s K K' h x; exact x

theorem R.T_iff (r : R U) : ∀ {s : St U} {K : List Nat → List Nat → Eff U → Prop}, r.T K s ↔ (Safe r s ∧ ∀ a b e, Path r s a b e → K a b e) := by
  induction r with
  | ret e =>
    intro s K
    constructor
    · intro h; refine ⟨trivial, ?_⟩; intro a b e' p; cases p; exact h
    · intro h; exact h.2 _ _ _ .ret
  | rdT t k ih =>
    intro s K
    constructor
    · intro h
      obtain ⟨h1, h2⟩ := (ih _).1 h
      refine ⟨h1, ?_⟩
      intro a b e p; cases p with | rdT q => exact h2 _ _ _ q
    · intro h
      exact (ih _).2 ⟨h.1, fun a b e q => h.2 _ _ _ (.rdT q)⟩
  | rdH t k ih =>
    intro s K
    constructor
    · intro h
      obtain ⟨h1, h2⟩ := (ih _).1 h
      refine ⟨h1, ?_⟩
      intro a b e p; cases p with | rdH q => exact h2 _ _ _ q
    · intro h
      exact (ih _).2 ⟨h.1, fun a b e q => h.2 _ _ _ (.rdH q)⟩
  | all α x k ih =>
    intro s K
    constructor
    · intro h
      refine ⟨fun y => ((ih y).1 (h y)).1, ?_⟩
      intro a b e p; cases p with | all y q => exact ((ih y).1 (h y)).2 _ _ _ q
    · intro h y
      exact (ih y).2 ⟨h.1 y, fun a b e q => h.2 _ _ _ (.all y q)⟩
  | br c x y ihx ihy =>
    intro s K
    cases c with
    | true =>
      constructor
      · intro h
        refine ⟨(ihx.1 h).1, ?_⟩
        intro a b e p
        cases p with
        | brT hc q => exact (ihx.1 h).2 _ _ _ q
        | brF hc q => exact absurd hc (by simp)
      · intro h
        exact ihx.2 ⟨h.1, fun a b e' q => h.2 _ _ _ (.brT rfl q)⟩
    | false =>
      constructor
      · intro h
        refine ⟨(ihy.1 h).1, ?_⟩
        intro a b e p
        cases p with
        | brT hc q => exact absurd hc (by simp)
        | brF hc q => exact (ihy.1 h).2 _ _ _ q
      · intro h
        exact ihy.2 ⟨h.1, fun a b e' q => h.2 _ _ _ (.brF rfl q)⟩
  | need p k ih =>
    intro s K
    constructor
    · intro ⟨hp, h⟩
      refine ⟨⟨hp, ((ih hp).1 h).1⟩, ?_⟩
      intro a b e q; cases q with | need _ q => exact ((ih hp).1 h).2 _ _ _ q
    · intro ⟨⟨hp, h⟩, h2⟩
      exact ⟨hp, (ih hp).2 ⟨h, fun a b e q => h2 _ _ _ (.need hp q)⟩⟩
  | same l k ih =>
    intro s K
    constructor
    · intro ⟨hp, h⟩
      refine ⟨⟨hp, (ih.1 h).1⟩, ?_⟩
      intro a b e q; cases q with | same _ q => exact (ih.1 h).2 _ _ _ q
    · intro ⟨⟨hp, h⟩, h2⟩
      exact ⟨hp, ih.2 ⟨h, fun a b e q => h2 _ _ _ (.same hp q)⟩⟩
  | fail =>
    intro s K
    constructor
    · intro h; exact h.elim
    · intro h; exact h.1

theorem Safe.path (r : R U) : ∀ {s : St U}, Safe r s → ∃ a b e, Path r s a b e := by
  induction r with
  | ret e => intro s _; exact ⟨_, _, _, .ret⟩
  | rdT t k ih => intro s h; obtain ⟨a, b, e, p⟩ := ih _ (R.T_mono _ (fun _ _ _ _ => trivial) h : Safe _ s); exact ⟨_, _, _, .rdT p⟩
  | rdH t k ih => intro s h; obtain ⟨a, b, e, p⟩ := ih _ (R.T_mono _ (fun _ _ _ _ => trivial) h : Safe _ s); exact ⟨_, _, _, .rdH p⟩
  | all α x k ih => intro s h; obtain ⟨a, b, e, p⟩ := ih x (h x); exact ⟨_, _, _, .all x p⟩
  | br c x y ihx ihy =>
    intro s h
    cases hc : c with
    | true => subst hc; obtain ⟨a, b, e, p⟩ := ihx h; exact ⟨_, _, _, .brT rfl p⟩
    | false => subst hc; obtain ⟨a, b, e, p⟩ := ihy h; exact ⟨_, _, _, .brF rfl p⟩
  | need p k ih => intro s ⟨hp, h⟩; obtain ⟨a, b, e, q⟩ := ih hp h; exact ⟨_, _, _, .need hp q⟩
  | same l k ih => intro s ⟨hp, h⟩; obtain ⟨a, b, e, q⟩ := ih h; exact ⟨_, _, _, .same hp q⟩
  | fail => intro s h; exact h.elim

abbrev R.asrt (p : Prop) [Decidable p] (k : R U) : R U := .need p fun _ => k
abbrev R.asame (n m : Nat) (k : R U) : R U := .same [(n, m)] k
/-- something that can be decided -/
structure DP where
  p : Prop
  d : Decidable p
instance (p : Prop) [d : Decidable p] : CoeDep Prop p DP := ⟨⟨p, d⟩⟩
/-- all of these -/
def allP : List DP → Prop
  | [] => True
  | [p] => p.p
  | p :: q :: l => p.p ∧ allP (q :: l)
def R.asrts (l : List DP) (k : R U) : R U :=
  match l with
  | [] => k
  | p :: l => .need (d := p.d) p.p fun _ => (R.asrts l k)
theorem asrts_safe {l : List DP} {k : R U} {s : St U} (h : Safe (R.asrts l k) s) : allP l ∧ Safe k s := by
  induction l with
  | nil => exact ⟨trivial, h⟩
  | cons p l ih =>
    obtain ⟨hp, h⟩ := h
    obtain ⟨h1, h2⟩ := ih h
    refine ⟨?_, h2⟩
    cases l with
    | nil => exact hp
    | cons q l => exact ⟨hp, h1⟩
theorem asrts_path {l : List DP} {k : R U} {s : St U} {a b : List Nat} {e : Eff U} (hp : allP l) (h : Path k s a b e) : Path (R.asrts l k) s a b e := by
  induction l with
  | nil => exact h
  | cons p l ih =>
    cases l with
    | nil => exact .need (d := p.d) hp h
    | cons q l => exact .need (d := p.d) hp.1 (ih hp.2)
/-- two states that agree but for the keys W -/
def Agree (WT WH : List Nat) (s s' : St U) : Prop := (∀ t, t ∉ WT → s.t t = s'.t t) ∧ (∀ k, k ∉ WH → s.h k = s'.h k)
theorem Agree.symm {WT WH : List Nat} {s s' : St U} (h : Agree WT WH s s') : Agree WT WH s' s := ⟨fun t x => (h.1 t x).symm, fun t x => (h.2 t x).symm⟩

theorem R.T_agree (r : R U) : ∀ {WT WH : List Nat} {s s' : St U} {K : List Nat → List Nat → Eff U → Prop}, Agree WT WH s s' →
    r.T (fun a b e => ((∀ t ∈ a, t ∉ WT) ∧ (∀ k ∈ b, k ∉ WH)) ∧ K a b e) s' → r.T (fun a b e => ((∀ t ∈ a, t ∉ WT) ∧ (∀ k ∈ b, k ∉ WH)) ∧ K a b e) s := by
  induction r with
  | ret e => intro WT WH s s' K hs h; exact h
  | rdT t k ih =>
    intro WT WH s s' K hs h
    have h : (k (s'.t t)).T (fun a b e => ((∀ x ∈ t :: a, x ∉ WT) ∧ (∀ k ∈ b, k ∉ WH)) ∧ K (t :: a) b e) s' := h
    have ht : t ∉ WT := by
      obtain ⟨h1, h2⟩ := (R.T_iff _).1 h
      obtain ⟨a, b, e, p⟩ := h1.path
      exact (h2 _ _ _ p).1.1 t (by simp)
    show (k (s.t t)).T _ s
    rw [hs.1 t ht]
    refine R.T_mono _ ?_ (ih (s'.t t) (K := fun a b e => K (t :: a) b e) hs (R.T_mono _ ?_ h))
    · intro a b e x; exact ⟨⟨fun y hy => by rcases List.mem_cons.1 hy with rfl | hy; exact ht; exact x.1.1 y hy, x.1.2⟩, x.2⟩
    · intro a b e x; exact ⟨⟨fun y hy => x.1.1 y (List.mem_cons_of_mem _ hy), x.1.2⟩, x.2⟩
  | rdH t k ih =>
    intro WT WH s s' K hs h
    have h : (k (s'.h t)).T (fun a b e => ((∀ x ∈ a, x ∉ WT) ∧ (∀ k ∈ t :: b, k ∉ WH)) ∧ K a (t :: b) e) s' := h
    have ht : t ∉ WH := by
      obtain ⟨h1, h2⟩ := (R.T_iff _).1 h
      obtain ⟨a, b, e, p⟩ := h1.path
      exact (h2 _ _ _ p).1.2 t (by simp)
    show (k (s.h t)).T _ s
    rw [hs.2 t ht]
    refine R.T_mono _ ?_ (ih (s'.h t) (K := fun a b e => K a (t :: b) e) hs (R.T_mono _ ?_ h))
    · intro a b e x; exact ⟨⟨x.1.1, fun y hy => by rcases List.mem_cons.1 hy with rfl | hy; exact ht; exact x.1.2 y hy⟩, x.2⟩
    · intro a b e x; exact ⟨⟨x.1.1, fun y hy => x.1.2 y (List.mem_cons_of_mem _ hy)⟩, x.2⟩
  | all α x k ih => intro WT WH s s' K hs h y; exact ih y hs (h y)
  | br c x y ihx ihy => intro WT WH s s' K hs h; cases c with | true => exact ihx hs h | false => exact ihy hs h
  | need p k ih => intro WT WH s s' K hs ⟨hp, h⟩; exact ⟨hp, ih hp hs h⟩
  | same l k ih => intro WT WH s s' K hs ⟨hp, h⟩; exact ⟨hp, ih hs h⟩
  | fail => intro WT WH s s' K hs h; exact h

/-- the keys that are written -/
def wT (d : Option Nat) : List Nat := d.toList
def wH (e : Eff U) : List Nat := e.2.map (·.1)

theorem putH_ne {h : Nat → Option (Nat × CH U)} {l : List (Nat × Option (Nat × CH U))} {k : Nat} (hk : k ∉ l.map (·.1)) : putH h l k = h k := by
  induction l generalizing h with
  | nil => rfl
  | cons a l ih =>
    obtain ⟨j, c⟩ := a
    simp only [List.map_cons, List.mem_cons, not_or] at hk
    simp only [putH]
    rw [ih hk.2]
    simp [hk.1]

theorem put_agree (s : St U) (d : Option Nat) (e : Eff U) : Agree (wT d) (wH e) s (s.put d e) := by
  refine ⟨fun t ht => ?_, fun k hk => (putH_ne hk).symm⟩
  cases d with
  | none => rfl
  | some d => simp [wT] at ht; simp [St.put, putT, ht]

theorem putH_at {h h' : Nat → Option (Nat × CH U)} {l : List (Nat × Option (Nat × CH U))} {k : Nat} (hk : k ∈ l.map (·.1)) : putH h l k = putH h' l k := by
  induction l generalizing h h' with
  | nil => simp at hk
  | cons a l ih =>
    obtain ⟨j, c⟩ := a
    simp only [putH]
    by_cases hm : k ∈ l.map (·.1)
    · exact ih hm
    · rw [putH_ne hm, putH_ne hm]
      simp only [List.map_cons, List.mem_cons] at hk
      rcases hk with rfl | hk
      · simp
      · exact absurd hk hm

theorem put_put {s : St U} {d d' : Option Nat} {e e' : Eff U} (ht : ∀ x ∈ wT d, x ∉ wT d') (hh : ∀ x ∈ wH e, x ∉ wH e') :
    (s.put d e).put d' e' = (s.put d' e').put d e := by
  unfold St.put
  congr 1
  · funext j
    cases d with
    | none => rfl
    | some x => cases d' with
      | none => rfl
      | some y =>
        simp [wT] at ht
        simp only [putT]
        by_cases h1 : j = x
        · subst h1; simp [ht]
        · by_cases h2 : j = y
          · subst h2; simp [h1]
          · simp [h1, h2]
  · funext k
    show putH (putH s.h e.2) e'.2 k = putH (putH s.h e'.2) e.2 k
    by_cases h1 : k ∈ wH e
    · rw [putH_ne (hh k h1), putH_at h1]
    · by_cases h2 : k ∈ wH e'
      · rw [putH_ne (l := e.2) h1, putH_at h2]
      · rw [putH_ne h2, putH_ne h1, putH_ne h1, putH_ne h2]

/-- what one operation has read and written -/
structure Lg where
  rt : List Nat
  rh : List Nat
  wt : List Nat
  wh : List Nat

/-- two operations do not touch each other -/
def Lg.apart (x y : Lg) : Prop :=
  ((∀ t ∈ x.rt, t ∉ y.wt) ∧ (∀ k ∈ x.rh, k ∉ y.wh)) ∧ ((∀ t ∈ y.rt, t ∉ x.wt) ∧ (∀ k ∈ y.rh, k ∉ x.wh)) ∧ ((∀ t ∈ x.wt, t ∉ y.wt) ∧ (∀ k ∈ x.wh, k ∉ y.wh))
theorem Lg.apart.symm {x y : Lg} (h : x.apart y) : y.apart x :=
  ⟨h.2.1, h.1, fun t a b => h.2.2.1 t b a, fun t a b => h.2.2.2 t b a⟩

def mkLg (a b : List Nat) (d : Option Nat) (e : Eff U) : Lg := ⟨a, b, wT d, wH e⟩

theorem swap {ri rj : R U} {di dj : Option Nat} {s : St U} {K : Lg → Lg → St U → Prop}
    (h : rj.T (fun aj bj ej => ri.T (fun ai bi ei => (mkLg aj bj dj ej).apart (mkLg ai bi di ei) ∧ K (mkLg aj bj dj ej) (mkLg ai bi di ei) ((s.put dj ej).put di ei)) (s.put dj ej)) s) :
    ri.T (fun ai bi ei => rj.T (fun aj bj ej => (mkLg aj bj dj ej).apart (mkLg ai bi di ei) ∧ K (mkLg aj bj dj ej) (mkLg ai bi di ei) ((s.put di ei).put dj ej)) (s.put di ei)) s := by
  obtain ⟨sj, pj⟩ := (R.T_iff _).1 h
  have step : ∀ aj bj ej, Path rj s aj bj ej → ri.T (fun ai bi ei => ((∀ t ∈ ai, t ∉ wT dj) ∧ (∀ k ∈ bi, k ∉ wH ej)) ∧
      ((mkLg aj bj dj ej).apart (mkLg ai bi di ei) ∧ K (mkLg aj bj dj ej) (mkLg ai bi di ei) ((s.put dj ej).put di ei))) s := by
    intro aj bj ej q
    exact R.T_agree _ (put_agree s dj ej) (R.T_mono _ (fun a b e x => ⟨x.1.2.1, x⟩) (pj _ _ _ q))
  have both : ∀ aj bj ej, Path rj s aj bj ej → ∀ ai bi ei, Path ri s ai bi ei →
      ((mkLg aj bj dj ej).apart (mkLg ai bi di ei) ∧ K (mkLg aj bj dj ej) (mkLg ai bi di ei) ((s.put dj ej).put di ei)) :=
    fun aj bj ej q ai bi ei q' => (((R.T_iff _).1 (step _ _ _ q)).2 _ _ _ q').2
  refine (R.T_iff _).2 ⟨?_, ?_⟩
  · obtain ⟨a, b, e, q⟩ := sj.path
    exact ((R.T_iff _).1 (step _ _ _ q)).1
  · intro ai bi ei q'
    refine R.T_mono _ (fun a b e x => x.2) (R.T_agree _ (put_agree s di ei).symm (WT := wT di) (WH := wH ei) ((R.T_iff _).2 ⟨sj, ?_⟩))
    intro aj bj ej q
    have hb := both _ _ _ q _ _ _ q'
    refine ⟨hb.1.1, hb.1, ?_⟩
    rw [← put_put hb.1.2.2.1 hb.1.2.2.2]
    exact hb.2

end Go.Eng
