/- Code, resolved: a literal that says what each operation is; what must be so for it; and that it is right. -/
import Derived.Test.YtgongenkdkiifaaGreatDoorEng7
namespace Go.Eng
variable {U : Type} {ρ : U → Nat → Hp → Prop} {P : Program} {N : Nat} {o : Oper}

/-- an operation, resolved -/
inductive RI where
  | mov (x : Opd)
  | pick (c x y : Opd)
  | bin (op : BinOp) (x y : Opd)
  | un (op : UnOp) (x : Opd)
  | conv (k : IntKind) (x : Opd)
  | nil (x : Opd)
  | ext (j : Nat) (x : Opd)
  | fn (f : Nat) (xs : List Opd)
  | faddr (off : Nat) (x : Opd)
  | load (agg : Bool) (m : Nat) (x : Opd)
  | store (m : Nat) (x y : Opd)
  | new (zs : List SV) (T : TypeId)
  | box (T : TypeId) (x : Opd)
  | iaddr (len : Option Nat) (sz : Nat) (x i : Opd)
  | field (agg : Bool) (off m : Nat) (x : Opd)
  | idx (agg : Bool) (len sz : Nat) (x i : Opd)
  | build (zs : List SV) (ps : List (Nat × Nat)) (xs : List Opd)
  | call (f : Nat) (xs : List Opd)
  | callv (x : Opd) (xs : List Opd)
  | xt (t : XTag) (xs : List Opd)

def RI.tree (Sg : Specs U) (d : Nat) : RI → R U
  | .mov x => tMov x
  | .pick c x y => tPick c x y
  | .bin op x y => tBin op x y
  | .un op x => tUn op x
  | .conv k x => tConv k x
  | .nil x => tNil x
  | .ext j x => tExt j x
  | .fn f xs => tFn f xs
  | .faddr off x => tFaddr off x
  | .load agg m x => tLoad agg m x
  | .store m x y => tStore m x y
  | .new zs T => tNew d zs T
  | .box T x => tBox d T x
  | .iaddr len sz x i => tIaddr len sz x i
  | .field agg off m x => tField' agg off m x
  | .idx agg len sz x i => tIdx' agg len sz x i
  | .build zs ps xs => tBuild zs ps xs
  | .call f xs => tCall Sg d f xs
  | .callv x xs => tCallv Sg d x xs
  | .xt t xs => tX Sg d t xs

def infoB (P : Program) (t : TypeId) (q : TypeInfo → Bool) : Bool := match P.info? t with | some i => q i | none => false
def undB (P : Program) (t : TypeId) (q : TypeDesc → Bool) : Bool := match P.underlying t with | some d => q d | none => false
theorem infoB_elim {t : TypeId} {q : TypeInfo → Bool} (h : infoB P t q = true) : ∃ i, P.info? t = some i ∧ q i = true := by
  unfold infoB at h; split at h
  · exact ⟨_, ‹_›, h⟩
  · simp at h
theorem undB_elim {t : TypeId} {q : TypeDesc → Bool} (h : undB P t q = true) : ∃ d, P.underlying t = some d ∧ q d = true := by
  unfold undB at h; split at h
  · exact ⟨_, ‹_›, h⟩
  · simp at h
def opdsB (xs : List Operand) (ys : List Opd) : Bool := xs.length == ys.length && (xs.zip ys).all fun (x, y) => chkOpd x y
def intB (k : IntKind) : TypeDesc → Bool | .int k' => k == k' | _ => false
def sliceB (q : TypeId → Bool) : TypeDesc → Bool | .slice e => q e | _ => false
def arrayB (q : Nat → TypeId → Bool) : TypeDesc → Bool | .array n e => q n e | _ => false
def structB (q : Array Field → Bool) : TypeDesc → Bool | .struct fs => q fs | _ => false
def fieldB (fs : Array Field) (f : Nat) (q : Field → Bool) : Bool := match fs[f]? with | some x => q x | none => false
theorem intB_elim {k : IntKind} {d : TypeDesc} (h : intB k d = true) : d = .int k := by cases d <;> simp [intB] at h; subst h; rfl
theorem sliceB_elim {q : TypeId → Bool} {d : TypeDesc} (h : sliceB q d = true) : ∃ e, d = .slice e ∧ q e = true := by cases d <;> simp [sliceB] at h; exact ⟨_, rfl, h⟩
theorem arrayB_elim {q : Nat → TypeId → Bool} {d : TypeDesc} (h : arrayB q d = true) : ∃ n e, d = .array n e ∧ q n e = true := by cases d <;> simp [arrayB] at h; exact ⟨_, _, rfl, h⟩
theorem structB_elim {q : Array Field → Bool} {d : TypeDesc} (h : structB q d = true) : ∃ fs, d = .struct fs ∧ q fs = true := by cases d <;> simp [structB] at h; exact ⟨_, rfl, h⟩
theorem fieldB_elim {fs : Array Field} {f : Nat} {q : Field → Bool} (h : fieldB fs f q = true) : ∃ x, fs[f]? = some x ∧ q x = true := by
  unfold fieldB at h; split at h
  · exact ⟨_, ‹_›, h⟩
  · simp at h
theorem opdsB_elim {xs : List Operand} {ys : List Opd} (h : opdsB xs ys = true) : xs.length = ys.length ∧ ((xs.zip ys).all fun (x, y) => chkOpd x y) = true := by
  simpa [opdsB] using h
def zeroB (i : TypeInfo) (zs : List SV) : Bool := match i.zero with | some z => eqVL z.cells.toList zs | none => false
theorem zeroB_elim {i : TypeInfo} {zs : List SV} (h : zeroB i zs = true) : ∃ z, i.zero = some z ∧ eqVL z.cells.toList zs = true := by
  unfold zeroB at h; split at h
  · exact ⟨_, ‹_›, h⟩
  · simp at h

def chkCall (c : Call) (ri : RI) : Bool :=
  match c.callee, ri with
  | .value f, .call g ys => (match f with | .func f => f == g | _ => false) && opdsB c.args.toList ys
  | .value f, .callv y ys => chkOpd f y && opdsB c.args.toList ys
  | _, _ => false

/-- is the operation resolved so? -/
def chkOp0 (P : Program) : Op → RI → Bool
  | .move x, .mov y => chkOpd x y
  | .assign x, .mov y => chkOpd x y
  | .pick c x z, .pick c' y v => chkOpd c c' && chkOpd x y && chkOpd z v
  | .binOp op _ x z _, .bin op' y v => op == op' && chkOpd x y && chkOpd z v
  | .unOp op _ x, .un op' y => op == op' && chkOpd x y
  | .convert S T x, .conv k y => undB P S (fun _ => true) && undB P T (intB k) && chkOpd x y
  | .nilCheck x, .nil y => chkOpd x y
  | .extract x j, .ext j' y => j == j' && chkOpd x y
  | .makeFunc f fs xs, .fn g ys => (match f with | .func f => f == g | _ => false) && fs.isEmpty && opdsB xs.toList ys
  | .fieldAddr S x f, .faddr off y => undB P S (structB fun fs => fieldB fs f fun fl => fl.offset == off && infoB P fl.type fun i => i.size != 0) && chkOpd x y
  | .load t x, .load agg m y => infoB P t (fun i => i.size == m) && undB P t (fun d => isAggD d == agg) && chkOpd x y
  | .store t x z, .store m y v => infoB P t (fun i => i.size == m) && chkOpd x y && chkOpd z v
  | .alloc T, .new zs T' => T == T' && infoB P T (fun i => zeroB i zs)
  | .box T x, .box T' y => T == T' && chkOpd x y
  | .indexAddr t x z, .iaddr len sz y v =>
    (match len with
     | some l => undB P t (arrayB fun n e => n == l && infoB P e fun i => i.size == sz)
     | none => undB P t (sliceB fun e => infoB P e fun i => i.size == sz)) && chkOpd x y && chkOpd z v
  | .field S x f, .field agg off m y => undB P S (structB fun fs => fieldB fs f fun fl => fl.offset == off && infoB P fl.type (fun i => i.size == m) && undB P fl.type fun d => isAggD d == agg) && chkOpd x y
  | .index S x z, .idx agg len sz y v => undB P S (arrayB fun n e => n == len && infoB P e (fun i => i.size == sz) && undB P e fun d => isAggD d == agg) && chkOpd x y && chkOpd z v
  | .build t xs, .build zs ps ys => infoB P t (fun i => zeroB i zs) && undB P t (fun d => placesB P d (xs.toList.map (·.1)) ps) && opdsB (xs.toList.map (·.2)) ys
  | .call c, ri => chkCall c ri
  | _, _ => false

theorem chkOp0_ok {Sg : Specs U} (hSg : SgOk ρ P Sg) {ri : RI} {d : Nat} (h : chkOp0 P o.op ri = true) (hd : ∀ d, o.dst = some d → d < N) : CoreOk ρ P N o (ri.tree Sg d) := by
  generalize hop : o.op = q at h
  unfold chkOp0 at h
  split at h <;> try simp only [Bool.and_eq_true, beq_iff_eq] at h
  next => exact ok_mov (.inl hop) h hd
  next => exact ok_mov (.inr hop) h hd
  next => exact ok_pick hop h.1.1 h.1.2 h.2 hd
  next => obtain ⟨⟨rfl, h1⟩, h2⟩ := h; exact ok_bin hop h1 h2 hd
  next => obtain ⟨rfl, h1⟩ := h; exact ok_un hop h1 hd
  next =>
    obtain ⟨⟨h1, h2⟩, h3⟩ := h
    obtain ⟨dS, h4, _⟩ := undB_elim h1
    obtain ⟨dT, h5, h6⟩ := undB_elim h2
    rw [intB_elim h6] at h5
    exact ok_conv hop h4 h5 h3 hd
  next => exact ok_nil hop h hd
  next => obtain ⟨rfl, h1⟩ := h; exact ok_ext hop h1 hd
  next f fs xs g ys =>
    obtain ⟨⟨h1, h2⟩, h3⟩ := h
    cases f <;> simp only [beq_iff_eq, Bool.false_eq_true] at h1
    subst h1
    have h2 : fs = #[] := by simpa using h2
    subst h2
    obtain ⟨h4, h5⟩ := opdsB_elim h3
    exact ok_fn hop (by simpa using h4) h5 hd
  next =>
    obtain ⟨h1, h2⟩ := h
    obtain ⟨dS, h3, h4⟩ := undB_elim h1
    obtain ⟨fs, rfl, h5⟩ := structB_elim h4
    obtain ⟨fl, h6, h7⟩ := fieldB_elim h5
    simp only [Bool.and_eq_true, beq_iff_eq] at h7
    obtain ⟨i, h8, h9⟩ := infoB_elim h7.2
    exact ok_faddr hop h3 h6 h7.1 h8 (by simpa using h9) h2 hd
  next =>
    obtain ⟨⟨h1, h2⟩, h3⟩ := h
    obtain ⟨i, h4, h5⟩ := infoB_elim h1
    obtain ⟨d, h6, h7⟩ := undB_elim h2
    exact ok_load hop h4 h6 (by simpa using h7) (by simpa using h5) h3 hd
  next =>
    obtain ⟨⟨h1, h2⟩, h3⟩ := h
    obtain ⟨i, h4, h5⟩ := infoB_elim h1
    exact ok_store hop h4 (by simpa using h5) h2 h3 hd
  next =>
    obtain ⟨rfl, h1⟩ := h
    obtain ⟨i, h4, h5⟩ := infoB_elim h1
    obtain ⟨z, h6, h7⟩ := zeroB_elim h5
    exact ok_new hop h4 h6 h7 hd
  next => obtain ⟨rfl, h1⟩ := h; exact ok_box hop h1 hd
  next t x z len sz y v =>
    obtain ⟨⟨h1, h2⟩, h3⟩ := h
    cases len with
    | some l =>
      obtain ⟨d, h4, h5⟩ := undB_elim h1
      obtain ⟨n, e, rfl, h6⟩ := arrayB_elim h5
      simp only [Bool.and_eq_true, beq_iff_eq] at h6
      obtain ⟨rfl, h7⟩ := h6
      obtain ⟨i, h8, h9⟩ := infoB_elim h7
      exact ok_iaddr_array hop h4 h8 (by simpa using h9) h2 h3 hd
    | none =>
      obtain ⟨d, h4, h5⟩ := undB_elim h1
      obtain ⟨e, rfl, h7⟩ := sliceB_elim h5
      obtain ⟨i, h8, h9⟩ := infoB_elim h7
      exact ok_iaddr_slice hop h4 h8 (by simpa using h9) h2 h3 hd
  next =>
    obtain ⟨h1, h2⟩ := h
    obtain ⟨dS, h3, h4⟩ := undB_elim h1
    obtain ⟨fs, rfl, h5⟩ := structB_elim h4
    obtain ⟨fl, h6, h7⟩ := fieldB_elim h5
    simp only [Bool.and_eq_true, beq_iff_eq] at h7
    obtain ⟨i, h8, h9⟩ := infoB_elim h7.1.2
    obtain ⟨d, h10, h11⟩ := undB_elim h7.2
    exact ok_field hop h3 h6 h7.1.1 h8 h10 (by simpa using h11) (by simpa using h9) h2 hd
  next =>
    obtain ⟨⟨h1, h2⟩, h3⟩ := h
    obtain ⟨d, h4, h5⟩ := undB_elim h1
    obtain ⟨n, e, rfl, h6⟩ := arrayB_elim h5
    simp only [Bool.and_eq_true, beq_iff_eq] at h6
    obtain ⟨⟨rfl, h7⟩, h8⟩ := h6
    obtain ⟨i, h9, h10⟩ := infoB_elim h7
    obtain ⟨dd, h11, h12⟩ := undB_elim h8
    exact ok_idx hop h4 h9 h11 (by simpa using h12) (by simpa using h10) h2 h3 hd
  next =>
    obtain ⟨⟨h1, h2⟩, h3⟩ := h
    obtain ⟨i, h4, h5⟩ := infoB_elim h1
    obtain ⟨z, h6, h7⟩ := zeroB_elim h5
    obtain ⟨d, h8, h9⟩ := undB_elim h2
    obtain ⟨h10, h11⟩ := opdsB_elim h3
    exact ok_build hop h4 h6 h7 h8 h9 (by simpa using h10) h11 hd
  next c =>
    obtain ⟨callee, args, ts⟩ := c
    cases callee with
    | value f =>
      cases ri <;> try (simp [chkCall] at h; done)
      case call g ys =>
        simp only [chkCall, Bool.and_eq_true] at h
        obtain ⟨h1, h2⟩ := h
        cases f <;> simp only [beq_iff_eq, Bool.false_eq_true] at h1
        subst h1
        obtain ⟨h3, h4⟩ := opdsB_elim h2
        exact ok_call hSg hop (by simpa using h3) h4 hd
      case callv y ys =>
        simp only [chkCall, Bool.and_eq_true] at h
        obtain ⟨h3, h4⟩ := opdsB_elim h.2
        exact ok_callv hSg hop h.1 (by simpa using h3) h4 hd
    | invoke => exact absurd h (by simp [chkCall])
    | builtin => exact absurd h (by simp [chkCall])
  next => exact absurd h (by simp)

def chkX (op : Op) (t : XTag) (ys : List Opd) : Bool := match tagOf op with | some (t', xs) => decide (t' = t) && opdsB xs ys | none => false
def chkOp (P : Program) (op : Op) (ri : RI) : Bool := match ri with | .xt t ys => chkX op t ys | ri => chkOp0 P op ri
theorem chkOp_ok {Sg : Specs U} (hSg : SgOk ρ P Sg) {ri : RI} {d : Nat} (h : chkOp P o.op ri = true) (hd : ∀ d, o.dst = some d → d < N) : CoreOk ρ P N o (ri.tree Sg d) := by
  cases ri <;> try exact chkOp0_ok hSg h hd
  case xt t ys =>
    simp only [chkOp, chkX] at h
    split at h
    · rename_i t' xs he
      simp only [Bool.and_eq_true, decide_eq_true_eq] at h
      obtain ⟨rfl, h2⟩ := h
      obtain ⟨h3, h4⟩ := opdsB_elim h2
      exact ok_x hSg he h3 h4 hd
    · simp at h

/-- an operation of a region, resolved: where it goes, under which condition, what it is -/
structure RO where
  dst : Option Nat
  g : Option (Nat × Bool)
  ri : RI
  key : Nat

def gTree (g : Option (Nat × Bool)) (t : R U) : R U :=
  match g with
  | none => t
  | some (dj, want) => .rdT dj fun v => match v with
    | some (.b x) => .br (x == want) t (.ret (.und, []))
    | some .und => .ret (.und, [])
    | _ => .fail
def RO.treeK (Sg : Specs U) (d : Nat) (x : RO) : R U := gTree x.g (x.ri.tree Sg d)
def RO.tree (Sg : Specs U) (x : RO) : R U := x.treeK Sg x.key

def chkRO (P : Program) (N : Nat) (ops : Array Oper) (o : Oper) (x : RO) : Bool :=
  o.dst == x.dst && (match x.dst with | some d => decide (d < N) | none => true) && chkOp P o.op x.ri &&
  (match o.guard, x.g with
   | none, none => true
   | some (j, want), some (dj, want') => want == want' && ((ops[j]?).bind (·.dst)) == some dj && decide (dj < N)
   | _, _ => false)

theorem chkRO_okK {Sg : Specs U} (hSg : SgOk ρ P Sg) {ops : Array Oper} {i : Nat} {x : RO} (ho : ops[i]? = some o) (h : chkRO P N ops o x = true) (k : Nat) : OpOk ρ P ops N i (x.treeK Sg k) x.dst := by
  simp only [chkRO, Bool.and_eq_true, beq_iff_eq] at h
  obtain ⟨⟨⟨h1, h2⟩, h3⟩, h4⟩ := h
  have hd : ∀ d, o.dst = some d → d < N := by
    intro d hd
    rw [h1] at hd
    rw [hd] at h2
    simpa using h2
  have core := chkOp_ok (U := U) (ρ := ρ) hSg (d := k) h3 hd
  intro F c D s a w K Q hs hsafe hK
  unfold wpOp
  rw [ho]
  simp only
  have core : ∀ (F : Hp → Prop) (c : World) (D : List Deferred) (s : St U) (a : Act) (w : World) (K : Act → World → Prop) (Q : Exit → Act → World → Prop), Sat ρ F N c D s a w → Safe (x.ri.tree Sg k) s →
      (∀ α β e a' w', Path (x.ri.tree Sg k) s α β e → Sat ρ F N c D (s.put x.dst e) a' w' → K a' w') → o.wp P a w K Q := by
    intro F c D s a w K Q q1 q2 q3
    exact core F c D s a w K Q q1 q2 (by rw [h1]; exact q3)
  cases hg : o.guard with
  | none =>
    rw [hg] at h4
    cases hx : x.g with
    | some _ => rw [hx] at h4; simp at h4
    | none =>
      have e : x.treeK Sg k = x.ri.tree Sg k := by simp [RO.treeK, gTree, hx]
      rw [e] at hsafe hK
      rw [if_pos (by simp [Region.wanted, hg])]
      exact .inl (core F c D s a w K Q hs hsafe hK)
  | some jw =>
    obtain ⟨j, want⟩ := jw
    rw [hg] at h4
    cases hx : x.g with
    | none => rw [hx] at h4; simp at h4
    | some dw =>
      obtain ⟨dj, want'⟩ := dw
      rw [hx] at h4
      simp only [Bool.and_eq_true, beq_iff_eq, decide_eq_true_eq] at h4
      obtain ⟨⟨rfl, h5⟩, h6⟩ := h4
      have e : x.treeK Sg k = gTree (some (dj, want)) (x.ri.tree Sg k) := by simp [RO.treeK, hx]
      rw [e] at hsafe hK
      have hy : ∀ v, s.t dj = some v → yielded ops a.tmps j = match v.den with | .bool b => some b | _ => none := by
        intro v hv
        have hv' := hs.tmps dj v hv
        have hlt : dj < a.tmps.size := by rw [hs.size]; exact h6
        unfold yielded
        rw [h5]
        have : a.tmps[dj]? = some v.den := by
          rw [← hv']; simp [Array.getD, hlt]
        simp only [Option.bind_some, this]
        cases v.den <;> rfl
      cases ht : s.t dj with
      | none => simp [Safe, gTree, R.T, ht] at hsafe
      | some v =>
        have hyv := hy v ht
        cases v <;> try (exfalso; simp [Safe, gTree, R.T, ht] at hsafe; done)
        case und =>
          rw [if_neg (by simp [Region.wanted, hg, hyv, SV.den, undef])]
          rw [h1]
          refine hK _ _ _ _ _ (.rdT (by rw [ht]; exact .ret)) ?_
          exact hs.put (e := (.und, [])) (by intro y hy; exact hd y (by rw [h1]; exact hy)) hs.heap hs.same
        case b t =>
          by_cases hw : t = want
          · rw [if_pos (by simp [Region.wanted, hg, hyv, SV.den, hw])]
            refine .inl (core F c D s a w K Q hs ?_ ?_)
            · have := hsafe
              simp only [Safe, gTree, R.T, ht] at this
              simpa [hw, Safe] using this
            · intro α β e a' w' q
              exact hK _ _ _ _ _ (.rdT (by rw [ht]; exact .brT (by simp [hw]) q))
          · rw [if_neg (by simp [Region.wanted, hg, hyv, SV.den, hw])]
            rw [h1]
            refine hK _ _ _ _ _ (.rdT (by rw [ht]; exact .brF (by simp [hw]) .ret)) ?_
            exact hs.put (e := (.und, [])) (by intro y hy; exact hd y (by rw [h1]; exact hy)) hs.heap hs.same

theorem chkRO_ok {Sg : Specs U} (hSg : SgOk ρ P Sg) {ops : Array Oper} {i : Nat} {x : RO} (ho : ops[i]? = some o) (h : chkRO P N ops o x = true) : OpOk ρ P ops N i (x.tree Sg) x.dst := chkRO_okK hSg ho h x.key
end Go.Eng
