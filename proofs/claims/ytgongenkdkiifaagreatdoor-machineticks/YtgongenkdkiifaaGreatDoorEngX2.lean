/- '==' of structs and arrays whose cells are whole numbers and bools. -/
import Derived.Test.YtgongenkdkiifaaGreatDoorEngX1
import Derived.DeepKeys3
set_option linter.unusedSimpArgs false
set_option linter.unusedVariables false
namespace Go.Eng
variable {U : Type} {ρ : U → Nat → Hp → Prop} {P : Program}

inductive IK where
  | b
  | int (q : IntKind)
  deriving DecidableEq

/-- cells of these kinds, and what they read as -/
def Fit : List IK → List Value → List Lit → Prop
  | [], [], [] => True
  | .b :: ks, .bool x :: cs, .bool y :: ls => x = y ∧ Fit ks cs ls
  | .int q :: ks, .int q1 n :: cs, .int q2 m :: ls => q1 = q ∧ q2 = q ∧ n = m ∧ (Lit.int q n).wf = true ∧ Fit ks cs ls
  | _, _, _ => False

theorem fit_len : ∀ {ks : List IK} {cs : List Value} {ls : List Lit}, Fit ks cs ls → cs.length = ks.length := by
  intro ks
  induction ks with
  | nil => intro cs ls h; cases cs <;> cases ls <;> simp [Fit] at h ⊢
  | cons k ks ih =>
    intro cs ls h
    cases k <;> cases cs <;> try (simp [Fit] at h; done)
    all_goals (rename_i c cs; cases c <;> try (simp [Fit] at h; done))
    all_goals (cases ls <;> try (simp [Fit] at h; done))
    all_goals (rename_i l ls; cases l <;> try (simp [Fit] at h; done))
    all_goals (simp only [Fit] at h)
    · simp [ih h.2]
    · simp [ih h.2.2.2.2]

theorem fit_split : ∀ {k1 k2 : List IK} {cs : List Value} {ls : List Lit}, Fit (k1 ++ k2) cs ls → ∃ c1 c2 l1 l2, cs = c1 ++ c2 ∧ ls = l1 ++ l2 ∧ Fit k1 c1 l1 ∧ Fit k2 c2 l2 := by
  intro k1
  induction k1 with
  | nil => intro k2 cs ls h; exact ⟨[], cs, [], ls, rfl, rfl, trivial, h⟩
  | cons k k1 ih =>
    intro k2 cs ls h
    rw [List.cons_append] at h
    cases k <;> cases cs <;> try (simp [Fit] at h; done)
    all_goals (rename_i c cs; cases c <;> try (simp [Fit] at h; done))
    all_goals (cases ls <;> try (simp [Fit] at h; done))
    all_goals (rename_i l ls; cases l <;> try (simp [Fit] at h; done))
    · simp only [Fit] at h
      obtain ⟨c1, c2, l1, l2, rfl, rfl, h1, h2⟩ := ih h.2
      exact ⟨_ :: c1, c2, _ :: l1, l2, rfl, rfl, ⟨h.1, h1⟩, h2⟩
    · simp only [Fit] at h
      obtain ⟨c1, c2, l1, l2, rfl, rfl, h1, h2⟩ := ih h.2.2.2.2
      exact ⟨_ :: c1, c2, _ :: l1, l2, rfl, rfl, ⟨h.1, h.2.1, h.2.2.1, h.2.2.2.1, h1⟩, h2⟩

theorem fit_join : ∀ {k1 k2 : List IK} {c1 c2 : List Value} {l1 l2 : List Lit}, Fit k1 c1 l1 → Fit k2 c2 l2 → Fit (k1 ++ k2) (c1 ++ c2) (l1 ++ l2) := by
  intro k1
  induction k1 with
  | nil => intro k2 c1 c2 l1 l2 h1 h2; cases c1 <;> cases l1 <;> first | exact h2 | (simp [Fit] at h1)
  | cons k k1 ih =>
    intro k2 cs c2 ls l2 h h2
    cases k <;> cases cs <;> try (simp [Fit] at h; done)
    all_goals (rename_i c cs; cases c <;> try (simp [Fit] at h; done))
    all_goals (cases ls <;> try (simp [Fit] at h; done))
    all_goals (rename_i l ls; cases l <;> try (simp [Fit] at h; done))
    · simp only [Fit] at h
      exact ⟨h.1, ih h.2 h2⟩
    · simp only [Fit] at h
      exact ⟨h.1, h.2.1, h.2.2.1, h.2.2.2.1, ih h.2.2.2.2 h2⟩

/-- the kinds of a struct's cells, its fields one behind the other -/
def leafFs (P : Program) (L : TypeId → Option (List IK)) : List Field → Nat → Option (List IK)
  | [], _ => some []
  | f :: fs, off =>
    match L f.type, leafFs P L fs (off + P.cellsOf f.type) with
    | some l, some r => if f.offset = off ∧ l.length = P.cellsOf f.type then some (l ++ r) else none
    | _, _ => none
/-- the kinds of a type's cells -/
def leafAt (P : Program) : Nat → TypeId → Option (List IK)
  | 0, _ => none
  | d + 1, t =>
    match P.underlying t with
    | some .bool => some [.b]
    | some (.int q) => some [.int q]
    | some (.array n e) =>
      match leafAt P d e with
      | some l => if l.length = P.cellsOf e ∧ n * P.cellsOf e = P.cellsOf t then some (List.replicate n l).flatten else none
      | none => none
    | some (.struct fs) =>
      match leafFs P (leafAt P d) fs.toList 0 with
      | some l => if l.length = P.cellsOf t ∧ fs.all (·.name != "_") = true then some l else none
      | none => none
    | _ => none

theorem lits_items {f : List Value → Option (List Lit)} {l : List IK} {c : Nat} (hl : l.length = c) (hf : ∀ cs ls, Fit l cs ls → f cs = some ls) : ∀ (m s : Nat) (pre cs : List Value) (ls : List Lit), pre.length = s * c → Fit (List.replicate m l).flatten cs ls →
    ∃ as, (List.range' s m).mapM (fun i => f (((pre ++ cs).drop (i * c)).take c)) = some as ∧ as.flatten = ls := by
  intro m
  induction m with
  | zero => intro s pre cs ls _ h; cases cs <;> cases ls <;> first | exact ⟨[], rfl, rfl⟩ | (simp [Fit] at h)
  | succ m ih =>
    intro s pre cs ls hp h
    rw [List.replicate_succ, List.flatten_cons] at h
    obtain ⟨c1, c2, l1, l2, rfl, rfl, h1, h2⟩ := fit_split h
    have hc : c1.length = c := by rw [fit_len h1, hl]
    obtain ⟨as, e1, e2⟩ := ih (s + 1) (pre ++ c1) c2 l2 (by rw [List.length_append, hp, hc, Nat.succ_mul]) h2
    refine ⟨l1 :: as, ?_, by simp [e2]⟩
    rw [List.range'_succ, List.mapM_cons]
    have : ((pre ++ (c1 ++ c2)).drop (s * c)).take c = c1 := by
      rw [← hp, List.drop_left, ← hc, List.take_left]
    rw [this, hf _ _ h1]
    simp only [List.append_assoc] at e1
    simp [e1]

theorem lits_fields {L : TypeId → Option (List IK)} {f : TypeId → List Value → Option (List Lit)} (hf : ∀ t l cs ls, L t = some l → Fit l cs ls → f t cs = some ls) : ∀ (fs : List Field) (off : Nat) (l : List IK) (pre cs : List Value) (ls : List Lit), leafFs P L fs off = some l → pre.length = off → Fit l cs ls →
    ∃ as, fs.mapM (fun g => f g.type (((pre ++ cs).drop g.offset).take (P.cellsOf g.type))) = some as ∧ as.flatten = ls := by
  intro fs
  induction fs with
  | nil =>
    intro off l pre cs ls h _ hfit
    simp only [leafFs, Option.some.injEq] at h
    subst h
    cases cs <;> cases ls <;> first | exact ⟨[], rfl, rfl⟩ | (simp [Fit] at hfit)
  | cons g fs ih =>
    intro off l pre cs ls h hp hfit
    simp only [leafFs] at h
    split at h
    · rename_i lg r e1 e2
      split at h
      · rename_i hc
        simp only [Option.some.injEq] at h
        subst h
        obtain ⟨c1, c2, l1, l2, rfl, rfl, h1, h2⟩ := fit_split hfit
        have hl : c1.length = P.cellsOf g.type := by rw [fit_len h1, hc.2]
        obtain ⟨as, e3, e4⟩ := ih _ r (pre ++ c1) c2 l2 e2 (by rw [List.length_append, hp, hl]) h2
        refine ⟨l1 :: as, ?_, by simp [e4]⟩
        rw [List.mapM_cons]
        have : ((pre ++ (c1 ++ c2)).drop g.offset).take (P.cellsOf g.type) = c1 := by
          rw [hc.1, ← hp, List.drop_left, ← hl, List.take_left]
        rw [this, hf _ _ _ _ e1 h1]
        simp only [List.append_assoc] at e3
        simp [e3]
      · simp at h
    · simp at h

theorem keyLits_leaf : ∀ (d : Nat) (t : TypeId) (ks : List IK) (cs : List Value) (ls : List Lit), leafAt P d t = some ks → Fit ks cs ls → P.keyLits d t cs = some ls := by
  intro d
  induction d with
  | zero => intro t ks cs ls h; simp [leafAt] at h
  | succ d ih =>
    intro t ks cs ls h hfit
    unfold Program.keyLits
    simp only [leafAt] at h
    cases hu : P.underlying t with
    | none => simp [hu] at h
    | some td =>
      cases td <;> simp only [hu, reduceCtorEq, Option.some.injEq] at h
      case bool =>
        subst h
        cases cs with
        | nil => simp [Fit] at hfit
        | cons c cs =>
          cases c <;> try (simp [Fit] at hfit; done)
          cases ls with
          | nil => simp [Fit] at hfit
          | cons l ls =>
            cases l <;> try (simp [Fit] at hfit; done)
            simp only [Fit] at hfit
            obtain ⟨rfl, h2⟩ := hfit
            cases cs <;> cases ls <;> first | rfl | (simp [Fit] at h2)
      case int q =>
        subst h
        cases cs with
        | nil => simp [Fit] at hfit
        | cons c cs =>
          cases c <;> try (simp [Fit] at hfit; done)
          cases ls with
          | nil => simp [Fit] at hfit
          | cons l ls =>
            cases l <;> try (simp [Fit] at hfit; done)
            simp only [Fit] at hfit
            obtain ⟨rfl, rfl, rfl, h3, h2⟩ := hfit
            cases cs <;> cases ls <;> first | (simp [h3]; done) | (simp [Fit] at h2)
      case array n e =>
        split at h
        · rename_i l hl
          split at h
          · rename_i hc
            simp only [Option.some.injEq] at h
            subst h
            obtain ⟨as, e1, e2⟩ := lits_items hc.1 (fun cs ls hh => ih e l cs ls hl hh) n 0 [] cs ls (by simp) hfit
            have hlen : cs.length = P.cellsOf t := by
              rw [fit_len hfit, ← hc.2]
              simp [hc.1]
            rw [← List.range_eq_range'] at e1
            simp only [List.nil_append] at e1
            cases cs with
            | nil => simp only [hlen, if_true, e1, Option.map_some, e2]
            | cons c cs =>
              simp only [hlen, if_true, e1, Option.map_some, e2]
          · simp at h
        · simp at h
      case struct fs =>
        split at h
        · rename_i l hl
          split at h
          · rename_i hc
            simp only [Option.some.injEq] at h
            subst h
            obtain ⟨as, e1, e2⟩ := lits_fields (P := P) (f := fun t cs => P.keyLits d t cs) (fun t l cs ls h1 h2 => ih t l cs ls h1 h2) fs.toList 0 _ [] cs ls hl rfl hfit
            have hlen : cs.length = P.cellsOf t := by rw [fit_len hfit, hc.1]
            simp only [List.nil_append] at e1
            cases cs with
            | nil => simp only [hlen, hc.2, and_self, if_true, e1, Option.map_some, e2]
            | cons c cs => simp only [hlen, hc.2, and_self, if_true, e1, Option.map_some, e2]
          · simp at h
        · simp at h

/-! ## on abstract values -/
def segK : SV → Option (IK × Nat)
  | .b _ => some (.b, 1)
  | .u8 _ => some (.int .u8, 1)
  | .u16 _ => some (.int .u16, 1)
  | .u32 _ => some (.int .u32, 1)
  | .u64 _ => some (.int .u64, 1)
  | .r8 n _ => some (.int .u8, n)
  | .r32 n _ => some (.int .u32, n)
  | .r64 n _ => some (.int .u64, n)
  | _ => none
def segL : SV → List Lit
  | .b x => [.bool x]
  | .u8 x => [.int .u8 x.toNat]
  | .u16 x => [.int .u16 x.toNat]
  | .u32 x => [.int .u32 x.toNat]
  | .u64 x => [.int .u64 x.toNat]
  | .r8 n f => (List.range n).map fun j => .int .u8 (f j).toNat
  | .r32 n f => (List.range n).map fun j => .int .u32 (f j).toNat
  | .r64 n f => (List.range n).map fun j => .int .u64 (f j).toNat
  | _ => []
theorem fit_row {α : Type} {q : IntKind} {g : α → Int} : ∀ (l : List α), (∀ j ∈ l, (Lit.int q (g j)).wf = true) → Fit (List.replicate l.length (.int q)) (l.map fun j => .int q (g j)) (l.map fun j => .int q (g j)) := by
  intro l
  induction l with
  | nil => intro _; trivial
  | cons a l ih => intro h; exact ⟨rfl, rfl, rfl, h a (by simp), ih fun j hj => h j (by simp [hj])⟩
theorem wf_u8 (x : BitVec 8) : (Lit.int .u8 (x.toNat : Int)).wf = true := by
  have := x.isLt
  simp [Lit.wf, IntKind.min, IntKind.max, IntKind.signed, IntKind.bits]; omega
theorem wf_u16 (x : BitVec 16) : (Lit.int .u16 (x.toNat : Int)).wf = true := by
  have := x.isLt
  simp [Lit.wf, IntKind.min, IntKind.max, IntKind.signed, IntKind.bits]; omega
theorem wf_u32 (x : BitVec 32) : (Lit.int .u32 (x.toNat : Int)).wf = true := by
  have := x.isLt
  simp [Lit.wf, IntKind.min, IntKind.max, IntKind.signed, IntKind.bits]; omega
theorem wf_u64 (x : BitVec 64) : (Lit.int .u64 (x.toNat : Int)).wf = true := by
  have := x.isLt
  simp [Lit.wf, IntKind.min, IntKind.max, IntKind.signed, IntKind.bits]; omega
theorem fit_seg {v : SV} {k : IK} {n : Nat} (h : segK v = some (k, n)) : Fit (List.replicate n k) v.cells (segL v) := by
  cases v <;> simp only [segK, Option.some.injEq, Prod.mk.injEq, reduceCtorEq] at h <;> obtain ⟨rfl, rfl⟩ := h
  · exact ⟨rfl, rfl, rfl, wf_u8 _, trivial⟩
  · exact ⟨rfl, rfl, rfl, wf_u16 _, trivial⟩
  · exact ⟨rfl, rfl, rfl, wf_u32 _, trivial⟩
  · exact ⟨rfl, rfl, rfl, wf_u64 _, trivial⟩
  · exact ⟨rfl, trivial⟩
  all_goals
    rename_i n f
    have := fit_row (q := _) (g := fun j => ((f j).toNat : Int)) (List.range n) (fun j _ => by first | exact wf_u8 _ | exact wf_u32 _ | exact wf_u64 _)
    simpa [SV.cells, SV.den, Value.cells, segL] using this

def expand (ks : List (IK × Nat)) : List IK := ks.flatMap fun x => List.replicate x.2 x.1
/-- so many of a kind, off the front -/
def eat : List (IK × Nat) → IK → Nat → Option (List (IK × Nat))
  | [], _, n => match n with | 0 => some [] | _ => none
  | (k, m) :: ks, q, n => if k = q ∧ n ≤ m then (match Nat.beq n m with | true => some ks | false => some ((k, m - n) :: ks)) else none
theorem eat_expand {ks ks' : List (IK × Nat)} {k : IK} {n : Nat} (h : eat ks k n = some ks') : expand ks = List.replicate n k ++ expand ks' := by
  cases ks with
  | nil =>
    simp only [eat] at h
    split at h
    · simp only [Option.some.injEq] at h; subst h; simp [expand]
    · simp at h
  | cons x ks =>
    obtain ⟨q, m⟩ := x
    simp only [eat] at h
    split at h
    · rename_i hc
      obtain ⟨rfl, hm⟩ := hc
      split at h
      · rename_i e
        have := Nat.eq_of_beq_eq_true e
        subst this
        simp only [Option.some.injEq] at h; subst h; simp [expand]
      · simp only [Option.some.injEq] at h
        subst h
        simp only [expand, List.flatMap_cons, ← List.append_assoc, List.replicate_append_replicate]
        rw [show n + (m - n) = m by omega]
    · simp at h
def eatL : List (IK × Nat) → List SV → Bool
  | ks, [] => match ks with | [] => true | _ => false
  | ks, v :: vs => match segK v with | some (k, n) => (match eat ks k n with | some ks' => eatL ks' vs | none => false) | none => false
def litL (vs : List SV) : List Lit := vs.flatMap segL
theorem fit_eat : ∀ {vs : List SV} {ks : List (IK × Nat)}, eatL ks vs = true → Fit (expand ks) (cellsL vs) (litL vs) := by
  intro vs
  induction vs with
  | nil =>
    intro ks h
    cases ks with
    | nil => simp [expand, cellsL_nil, litL, Fit]
    | cons k ks => simp [eatL] at h
  | cons v vs ih =>
    intro ks h
    simp only [eatL] at h
    split at h
    · rename_i k n hk
      split at h
      · rename_i ks' he
        rw [eat_expand he, cellsL_cons, litL, List.flatMap_cons]
        exact fit_join (fit_seg hk) (ih h)
      · simp at h
    · simp at h

def eqSeg : SV → SV → Option Bool
  | .b x, .b y => some (x == y)
  | .u8 x, .u8 y => some (x == y)
  | .u16 x, .u16 y => some (x == y)
  | .u32 x, .u32 y => some (x == y)
  | .u64 x, .u64 y => some (x == y)
  | .r8 n f, .r8 m g => match Nat.beq n m with | true => some ((List.range n).all fun j => f j == g j) | false => none
  | .r32 n f, .r32 m g => match Nat.beq n m with | true => some ((List.range n).all fun j => f j == g j) | false => none
  | .r64 n f, .r64 m g => match Nat.beq n m with | true => some ((List.range n).all fun j => f j == g j) | false => none
  | _, _ => none
def eqSegs : List SV → List SV → Option Bool
  | [], [] => some true
  | x :: xs, y :: ys => match eqSeg x y, eqSegs xs ys with | some a, some b => some (a && b) | _, _ => none
  | _, _ => none
theorem row_iff {α : Type} {w : Nat} {q : IntKind} {f g : α → BitVec w} : ∀ (l : List α), (l.all fun j => f j == g j) = true ↔ (l.map fun j => Lit.int q (f j).toNat) = l.map fun j => Lit.int q (g j).toNat := by
  intro l
  induction l with
  | nil => simp
  | cons a l ih =>
    simp only [List.all_cons, Bool.and_eq_true, beq_iff_eq, List.map_cons, List.cons.injEq, ih, Lit.int.injEq, true_and]
    rw [show ((f a).toNat : Int) = (g a).toNat ↔ f a = g a from ⟨fun h => BitVec.eq_of_toNat_eq (by omega), fun h => by rw [h]⟩]
theorem eqSeg_iff {x y : SV} {r : Bool} (h : eqSeg x y = some r) : (segL x).length = (segL y).length ∧ (r = true ↔ segL x = segL y) := by
  unfold eqSeg at h
  split at h
  all_goals try (simp at h; done)
  all_goals try (
    simp only [Option.some.injEq] at h; subst h
    refine ⟨rfl, ?_⟩
    first
      | (simp [segL]; done)
      | (simp only [segL, beq_iff_eq, List.cons.injEq, and_true, Lit.int.injEq, true_and]; exact ⟨fun h => by rw [h], fun h => BitVec.eq_of_toNat_eq (by omega)⟩))
  all_goals
    split at h
    · rename_i e
      have := Nat.eq_of_beq_eq_true e
      subst this
      simp only [Option.some.injEq] at h; subst h
      exact ⟨by simp [segL], row_iff _⟩
    · simp at h
theorem eqSegs_iff : ∀ {xs ys : List SV} {r : Bool}, eqSegs xs ys = some r → (r = true ↔ litL xs = litL ys) := by
  intro xs
  induction xs with
  | nil => intro ys r h; cases ys <;> simp [eqSegs] at h; subst h; simp
  | cons x xs ih =>
    intro ys r h
    cases ys with
    | nil => simp [eqSegs] at h
    | cons y ys =>
      simp only [eqSegs] at h
      split at h
      · rename_i a b ha hb
        simp only [Option.some.injEq] at h; subst h
        obtain ⟨h1, h2⟩ := eqSeg_iff ha
        simp only [Bool.and_eq_true, h2, ih hb, litL, List.flatMap_cons]
        exact ⟨fun ⟨p, q⟩ => by rw [p, q], fun p => List.append_inj p h1⟩
      · simp at h

def segsOf : SV → Option (List SV)
  | .agg cs => some cs
  | .r8 n f => some [.r8 n f]
  | .r32 n f => some [.r32 n f]
  | .r64 n f => some [.r64 n f]
  | _ => none
theorem segsOf_den {v : SV} {cs : List SV} (h : segsOf v = some cs) : v.den = .agg (cellsL cs).toArray := by
  cases v <;> simp only [segsOf, Option.some.injEq, reduceCtorEq] at h <;> subst h
  all_goals simp [SV.den, cellsL, denL, flat, Value.cells]
def aggF (ks : List (IK × Nat)) (neg : Bool) : List SV → Option (List DP × SV)
  | [x, y] =>
    match segsOf x, segsOf y with
    | some xs, some ys =>
      match eatL ks xs, eatL ks ys, eqSegs xs ys with
      | true, true, some r => some ([], .b (match neg with | true => !r | false => r))
      | _, _, _ => none
    | _, _ => none
  | _ => none
def isAggT : Option TypeDesc → Bool | some (.struct _) => true | some (.array _ _) => true | _ => false
theorem run_agg_eq {T : TypeId} {ks : List (IK × Nat)} {d m : Nat} (hl : leafAt P d T = some (expand ks)) (hm : m ≤ 10000) (hk : P.keyTypeAt m T = true) (ha : isAggT (P.underlying T) = true) (hsz : (expand ks).length = P.cellsOf T)
    {xs ys : List SV} (hx : eatL ks xs = true) (hy : eatL ks ys = true) {r : Bool} (hr : eqSegs xs ys = some r) (w : World) : (Op.equalIn 10000 T (.agg (cellsL xs).toArray) (.agg (cellsL ys).toArray)).run P w = .ok r w := by
  have form : ∀ {xs : List SV}, eatL ks xs = true → (Value.agg (cellsL xs).toArray).formed P T = true := by
    intro xs hx
    have := fit_len (fit_eat hx)
    unfold Value.formed
    revert ha
    unfold isAggT
    cases P.underlying T with
    | none => simp
    | some td => cases td <;> simp [this, hsz]
  have := run_equalIn_deep (P := P) (10000 - m) m T hk w d d _ _ _ _ (form hx) (form hy) (by simpa [Value.cells] using keyLits_leaf d T _ _ _ hl (fit_eat hx)) (by simpa [Value.cells] using keyLits_leaf d T _ _ _ hl (fit_eat hy))
  rw [show 10000 - m + m = 10000 by omega] at this
  obtain ⟨r', h1, h2⟩ := this
  have h3 := eqSegs_iff hr
  rw [h1]
  congr 1
  cases r <;> cases r' <;> simp_all
theorem xok_agg {T T' : TypeId} {ks : List (IK × Nat)} {d m : Nat} (hl : leafAt P d T = some (expand ks)) (hm : m ≤ 10000) (hk : P.keyTypeAt m T = true) (ha : isAggT (P.underlying T) = true) (hsz : (expand ks).length = P.cellsOf T) (hg : P.eqGuardType P.depth T = false) :
    XOk ρ P (.bin .eql T T') (pureSp (U := U) (aggF ks false)) ∧ XOk ρ P (.bin .neq T T') (pureSp (U := U) (aggF ks true)) := by
  constructor
  all_goals
    refine xok_pure ?_
    intro o xs a vs w p v ht hv hf hp
    obtain ⟨x, y, u, z, rfl, h⟩ := run_bin ht hv
    rw [h]
    simp only [aggF] at hf
    split at hf
    · rename_i xs ys e1 e2
      split at hf
      · rename_i r e3 e4 e5
        simp only [Option.some.injEq, Prod.mk.injEq] at hf
        obtain ⟨rfl, rfl⟩ := hf
        rw [segsOf_den e1, segsOf_den e2]
        simp only [Sem.run_bind, run_eqGuard_agg w _ T x y _ _ hg, Result.andThen_ok, run_eql_struct, run_neq_struct, run_agg_eq hl hm hk ha hsz e3 e4 e5 w]
        simp [SV.den]
      · simp at hf
    · simp at hf
end Go.Eng
