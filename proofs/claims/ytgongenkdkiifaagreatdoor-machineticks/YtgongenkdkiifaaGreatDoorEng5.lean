/- Operations of the model as trees of reads over abstract values: each tree is right. -/
import Derived.Test.YtgongenkdkiifaaGreatDoorEng4
namespace Go.Eng
variable {U : Type}

/-- where an operation takes a value from -/
inductive Opd where
  | t (n : Nat)
  | c (v : SV)

def rdS (k : SV → R U) : Option SV → R U
  | some v => k v
  | none => .fail
def Opd.rd (k : SV → R U) : Opd → R U
  | .t n => .rdT n (rdS k)
  | .c v => k v
def rdL (k : List SV → R U) : List Opd → R U
  | [] => k []
  | x :: l => x.rd fun v => rdL (fun vs => k (v :: vs)) l

/-- is the value told by that abstract one? -/
def eqV : Value → SV → Bool
  | .bool a, .b b => a == b
  | .int .i64 n, .i m => n == m
  | .int .i32 n, .i32 m => n == m
  | .int .u8 n, .u8 x => n == (x.toNat : Int)
  | .int .u16 n, .u16 x => n == (x.toNat : Int)
  | .int .u32 n, .u32 x => n == (x.toNat : Int)
  | .int .u64 n, .u64 x => n == (x.toNat : Int)
  | .string s, .str t => decide (s = t)
  | .pointer none, .nilp => true
  | .slice none 0 0, .nils => true
  | .map none, .val (.map none) => true
  | .nilFunc, .val .nilFunc => true
  | .nilIface, .val .nilIface => true
  | .float .f64 a, .val (.float .f64 b) => a == b
  | .complex .f64 a b, .val (.complex .f64 c d) => a == c && b == d
  | _, _ => false

theorem eqV_den {v : Value} {s : SV} (h : eqV v s = true) : v = s.den := by
  unfold eqV at h
  split at h <;> first
    | (simp at h; done)
    | (simp at h; subst h; rfl)
    | rfl
    | (simp at h; obtain ⟨rfl, rfl⟩ := h; rfl)

/-- are the values the cells of these? -/
def eqVL : List Value → List SV → Bool
  | vs, [] => vs.isEmpty
  | vs, c :: cs =>
    match c.kd with
    | .row n f => decide (n ≤ vs.length) && (List.range n).all (fun j => match vs[j]? with | some v => eqV v (f j) | none => false) && eqVL (vs.drop n) cs
    | .one => match vs with | v :: vs => eqV v c && eqVL vs cs | [] => false
    | .bad => false
theorem eqVL_den : ∀ {cs : List SV} {vs : List Value}, eqVL vs cs = true → vs = cellsL cs := by
  intro cs
  induction cs with
  | nil => intro vs h; simp [eqVL] at h; subst h; simp [cellsL_nil]
  | cons c cs ih =>
    intro vs h
    rw [cellsL_cons]
    simp only [eqVL] at h
    cases hc : c.kd with
    | bad => simp [hc] at h
    | row n f =>
      simp only [hc, Bool.and_eq_true, decide_eq_true_eq, List.all_eq_true, List.mem_range] at h
      obtain ⟨⟨h1, h2⟩, h3⟩ := h
      rw [← ih h3, cells_row hc]
      have : (List.range n).map (fun j => (f j).den) = vs.take n := by
        apply List.ext_getElem?
        intro j
        by_cases hj : j < n
        · have := h2 j hj
          rw [List.getElem?_map, List.getElem?_range hj, List.getElem?_take]
          simp only [hj, if_true, Option.map_some]
          cases e : vs[j]? with
          | none => simp [e] at this
          | some v => simp only [e] at this; rw [eqV_den this]
        · simp [hj]; omega
      rw [this, List.take_append_drop]
    | one =>
      simp only [hc] at h
      cases vs with
      | nil => simp at h
      | cons v vs =>
        simp only [Bool.and_eq_true] at h
        rw [cells_one hc, ← ih h.2, eqV_den h.1]
        rfl

/-- the key of a package's variable -/
def gkey (g : Nat) : Nat := 1000000 + g

def chkAgg (cs : Array Value) : SV → Bool
  | .agg l => eqVL cs.toList l
  | .r8 n f => eqVL cs.toList [.r8 n f]
  | _ => false
theorem chkAgg_den {cs : Array Value} {s : SV} (h : chkAgg cs s = true) : Value.agg cs = s.den := by
  cases s <;> simp only [chkAgg, Bool.false_eq_true] at h
  case agg l =>
    have := eqVL_den h
    simp only [SV.den]
    have h2 : flat (denL l) = cs.toList := this.symm
    rw [h2]
  case r8 n f =>
    have := eqVL_den h
    simp [cellsL_cons, cellsL_nil, SV.cells, SV.den, Value.cells] at this
    simp only [SV.den]
    rw [← this]
def isUnd : SV → Bool
  | .und => true
  | _ => false
def chkOther (v : Value) (s : SV) : Bool :=
  match v with
  | .agg cs => chkAgg cs s
  | .tuple vs => vs.isEmpty && isUnd s
  | _ => false
def chkConst (v : Value) (s : SV) : Bool := eqV v s || chkOther v s
def chkFunc (f : FuncId) : SV → Bool
  | .fn g caps => f == g && caps.isEmpty
  | _ => false
def chkGlobal (g : Nat) : SV → Bool
  | .ptr k n base o => k == gkey g && n == g && base == 0 && o == 0
  | _ => false
def chkOpd : Operand → Opd → Bool
  | .tmp n, .t m => n == m
  | .const v, .c s => chkConst v s
  | .func f, .c s => chkFunc f s
  | .global g, .c s => chkGlobal g s
  | _, _ => false

variable {ρ : U → Nat → Hp → Prop} {P : Program} {N : Nat}

theorem chkOpd_den {x : Operand} {y : Opd} (h : chkOpd x y = true) : (∃ n, x = .tmp n ∧ y = .t n) ∨ (∃ v, y = .c v ∧ ∀ a : Act, a.eval x = v.den) := by
  cases x <;> cases y
  case tmp.t n m => simp [chkOpd] at h; subst h; exact .inl ⟨_, rfl, rfl⟩
  case const.c v s =>
    right
    refine ⟨s, rfl, fun a => ?_⟩
    show v = s.den
    simp only [chkOpd, chkConst, Bool.or_eq_true] at h
    rcases h with h | h
    · exact eqV_den h
    · unfold chkOther at h
      split at h
      · exact chkAgg_den h
      · simp only [Bool.and_eq_true, Array.isEmpty_iff] at h
        obtain ⟨rfl, h⟩ := h
        cases s <;> simp [isUnd] at h
        rfl
      · simp at h
  case func.c f s =>
    right
    cases s <;> simp only [chkOpd, chkFunc, Bool.false_eq_true] at h
    rename_i g caps
    simp only [Bool.and_eq_true, beq_iff_eq, List.isEmpty_iff] at h
    obtain ⟨rfl, rfl⟩ := h
    exact ⟨_, rfl, fun a => by simp [Act.eval, SV.den, denL]⟩
  case global.c g s =>
    right
    cases s <;> simp only [chkOpd, chkGlobal, Bool.false_eq_true] at h
    simp only [Bool.and_eq_true, beq_iff_eq] at h
    obtain ⟨⟨⟨_, rfl⟩, rfl⟩, rfl⟩ := h
    exact ⟨_, rfl, fun a => rfl⟩
  all_goals simp [chkOpd] at h

/-- an operation without its guard does what a tree says -/
def CoreOk (ρ : U → Nat → Hp → Prop) (P : Program) (N : Nat) (o : Oper) (r : R U) : Prop :=
  ∀ (F : Hp → Prop) (c : World) (D : List Deferred) (s : St U) (a : Act) (w : World) (K : Act → World → Prop) (Q : Exit → Act → World → Prop), Sat ρ F N c D s a w → Safe r s →
    (∀ α β e a' w', Path r s α β e → Sat ρ F N c D (s.put o.dst e) a' w' → K a' w') → o.wp P a w K Q

section steps
variable {F : Hp → Prop} {c : World} {D : List Deferred} {s : St U} {a : Act} {w : World}

theorem rd_elim {x : Operand} {y : Opd} (h : chkOpd x y = true) (hs : Sat ρ F N c D s a w) {k : SV → R U} (hsafe : Safe (y.rd k) s) :
    ∃ v, a.eval x = v.den ∧ Safe (k v) s ∧ ∀ α β e, Path (k v) s α β e → ∃ α' β', Path (y.rd k) s α' β' e := by
  rcases chkOpd_den h with ⟨n, rfl, rfl⟩ | ⟨v, rfl, hv⟩
  · simp only [Opd.rd] at hsafe ⊢
    cases ht : s.t n with
    | none => exact absurd hsafe (by simp [Safe, R.T, ht, rdS])
    | some v =>
      refine ⟨v, ?_, ?_, ?_⟩
      · exact hs.tmps n v ht
      · simpa [Safe, R.T, ht, rdS] using hsafe
      · intro α β e p
        exact ⟨n :: α, β, .rdT (by rw [ht]; exact p)⟩
  · exact ⟨v, hv a, hsafe, fun α β e p => ⟨α, β, p⟩⟩

theorem rdL_elim (xs : List Operand) : ∀ {ys : List Opd} {k : List SV → R U}, xs.length = ys.length → ((xs.zip ys).all fun (x, y) => chkOpd x y) = true → Sat ρ F N c D s a w → Safe (rdL k ys) s →
    ∃ vs, xs.map a.eval = denL vs ∧ Safe (k vs) s ∧ ∀ α β e, Path (k vs) s α β e → ∃ α' β', Path (rdL k ys) s α' β' e := by
  induction xs with
  | nil =>
    intro ys k hl _ _ hsafe
    cases ys with
    | nil => exact ⟨[], by simp [denL], hsafe, fun α β e p => ⟨α, β, p⟩⟩
    | cons => simp at hl
  | cons x xs ih =>
    intro ys k hl hz hs hsafe
    cases ys with
    | nil => simp at hl
    | cons y ys =>
      simp only [List.zip_cons_cons, List.all_cons, Bool.and_eq_true] at hz
      obtain ⟨v, hv, h1, h2⟩ := rd_elim hz.1 hs hsafe
      obtain ⟨vs, hvs, h3, h4⟩ := ih (by simpa using hl) hz.2 hs h1
      refine ⟨v :: vs, by simp [denL, hv, hvs], h3, ?_⟩
      intro α β e p
      obtain ⟨α', β', p'⟩ := h4 _ _ _ p
      exact h2 _ _ _ p'

theorem Sat.put (hs : Sat ρ F N c D s a w) {d : Option Nat} (hd : ∀ x, d = some x → x < N) {e : Eff U} {w' : World} (hh : satH ρ F (putH s.h e.2) (hp w')) (hw : Same c w') :
    Sat ρ F N c D (s.put d e) (a.put d e.1.den) w' := by
  refine ⟨?_, ?_, ?_, hh, hw⟩
  · cases d <;> simp [Act.put, hs.size]
  · cases d <;> simp [Act.put, hs.defers]
  · intro k v hk
    cases d with
    | none => exact hs.tmps k v hk
    | some d =>
      have hdN := hd d rfl
      simp only [St.put, putT] at hk
      by_cases e1 : k = d
      · subst e1
        simp only [if_true, Option.some.injEq] at hk
        subst hk
        simp [Act.put, Array.getD, hs.size, hdN]
      · rw [if_neg e1] at hk
        rw [← hs.tmps k v hk]
        by_cases hb : k < a.tmps.size
        · simp [Act.put, Array.getD, hb, Array.getElem_setIfInBounds_ne, Ne.symm e1]
        · simp [Act.put, Array.getD, hb]

theorem Sat.same_heap (hs : Sat ρ F N c D s a w) : satH ρ F (putH s.h []) (hp w) := hs.heap

/-- a value comes, and nothing else turns -/
theorem core_value {o : Oper} {K : Act → World → Prop} {Q : Exit → Act → World → Prop} {r : R U} (hs : Sat ρ F N c D s a w) (hd : ∀ x, o.dst = some x → x < N)
    (hK : ∀ α β e a' w', Path r s α β e → Sat ρ F N c D (s.put o.dst e) a' w' → K a' w')
    {α β : List Nat} {e : Eff U} {w' : World} (hpa : Path r s α β e) (hrun : (execOp a.eval o).run P w = .ok (.value e.1.den) w')
    (hh : satH ρ F (putH s.h e.2) (hp w')) (hw : Same c w') : o.wp P a w K Q := by
  unfold Oper.wp
  rw [hrun]
  exact hK _ _ _ _ _ hpa (hs.put hd hh hw)
theorem core_skip {o : Oper} {K : Act → World → Prop} {Q : Exit → Act → World → Prop} {r : R U} (hs : Sat ρ F N c D s a w) (hd : ∀ x, o.dst = some x → x < N)
    (hK : ∀ α β e a' w', Path r s α β e → Sat ρ F N c D (s.put o.dst e) a' w' → K a' w')
    {α β : List Nat} {l : List (Nat × Option (Nat × CH U))} {w' : World} (hpa : Path r s α β (.und, l)) (hrun : (execOp a.eval o).run P w = .ok .skip w')
    (hh : satH ρ F (putH s.h l) (hp w')) (hw : Same c w') : o.wp P a w K Q := by
  unfold Oper.wp
  rw [hrun]
  exact hK _ _ _ _ _ hpa (hs.put (e := (.und, l)) hd hh hw)
end steps

/-! ## the trees -/

def tMov (x : Opd) : R U := x.rd fun v => .ret (v, [])
def tPick (c x y : Opd) : R U := c.rd fun v => match v with | .b t => x.rd fun p => y.rd fun q => .br t (.ret (p, [])) (.ret (q, [])) | _ => .fail
def optR : Option (List DP × SV) → R U
  | some (p, v) => R.asrts p (.ret (v, []))
  | none => .fail
def tBin (op : BinOp) (x y : Opd) : R U := x.rd fun p => y.rd fun q => optR (binS op p q)
def unS (op : UnOp) (x : SV) : Option SV :=
  match op, x with
  | .not, .b t => some (.b (!t))
  | .neg, .i n => some (.i (IntKind.i64.wrap (0 - n)))
  | .neg, .u64 n => some (.u64 (-n))
  | .neg, .u32 n => some (.u32 (-n))
  | .xor, .u32 n => some (.u32 (~~~n))
  | .xor, .u64 n => some (.u64 (~~~n))
  | _, _ => none
def oneR : Option SV → R U
  | some v => .ret (v, [])
  | none => .fail
def tUn (op : UnOp) (x : Opd) : R U := x.rd fun p => oneR (unS op p)
def tConv (k : IntKind) (x : Opd) : R U := x.rd fun p => oneR (convS k p)

def getX (agg : Bool) (cs : List SV) (pos o m : Nat) : Option (List DP × SV) := if agg then getA cs pos o m else getC cs pos o
def loadR (agg : Bool) (m n base o : Nat) : Option (Nat × CH U) → R U
  | some (n', .cells cs _) => .asame n n' (optR (getX agg cs base o m))
  | some (n', .ro cs _) => .asame n n' (optR (getX agg cs base o m))
  | some (n', .sy (.row off cs _)) => .same [(n, n'), (base, off)] (optR (getX agg cs 0 o m))
  | _ => .fail
def tLoad (agg : Bool) (m : Nat) (x : Opd) : R U := x.rd fun v => match v with | .ptr k n base o => .rdH k (loadR agg m n base o) | _ => .fail
def storeR (k m n base o : Nat) (v : SV) : Option (Nat × CH U) → R U
  | some (n', .cells cs T) => .asame n n' (match setA cs base o m v with | some (p, l) => R.asrts p (.ret (.und, [(k, some (n, .cells l T))])) | none => .fail)
  | _ => .fail
/-- how many cells a value has -/
def SV.len : SV → Nat
  | .r8 n _ => n
  | .r32 n _ => n
  | .r64 n _ => n
  | .ri n _ => n
  | .rv n _ => n
  | .agg cs => lenL cs
  | .any n _ => n
  | _ => 1
where
  lenL : List SV → Nat
  | [] => 0
  | c :: cs => (match c.kd with | .row n _ => n | _ => 1) + lenL cs
def tStore (m : Nat) (x y : Opd) : R U := x.rd fun p => y.rd fun v => match p with | .ptr k n base o => .asrt (v.len = m) (.rdH k (storeR k m n base o v)) | _ => .fail
def tNew (d : Nat) (zs : List SV) (T : TypeId) : R U := .all Nat 0 fun n => .ret (.ptr d n 0 0, [(d, some (n, .cells zs T))])
def tBox (d : Nat) (T : TypeId) (x : Opd) : R U := x.rd fun v => .all Nat 0 fun n => .ret (.ptr d n 0 0, [(d, some (n, .cells v.segs T))])
def tNil (x : Opd) : R U := x.rd fun v => match v with | .ptr .. => .ret (v, []) | .fn .. => .ret (v, []) | _ => .fail
def tFaddr (off : Nat) (x : Opd) : R U := x.rd fun v => match v with | .ptr k n base o => .ret (.ptr k n (base + off) o, []) | _ => .fail
def idxZ : SV → Option Int
  | .i n => some n
  | .u8 x => some x.toNat
  | .u16 x => some x.toNat
  | .u32 x => some x.toNat
  | .u64 x => some x.toNat
  | _ => none
/-- is that a row, longer than one element? -/
def longRow (sz : Nat) : Option SV → Bool
  | some c => (match c.kd with | .row n _ => Nat.blt sz n | _ => false)
  | none => false
def elemR (sz k n base o : Nat) : Option (Nat × CH U) → R U
  | some (_, .cells cs _) => (match longRow sz (rowAt cs base) with | true => .ret (.ptr k n base o, []) | false => .ret (.ptr k n (base + o) 0, []))
  | some (_, .ro cs _) => (match longRow sz (rowAt cs base) with | true => .ret (.ptr k n base o, []) | false => .ret (.ptr k n (base + o) 0, []))
  | _ => .ret (.ptr k n base o, [])
def tIaddr (len : Option Nat) (sz : Nat) (x i : Opd) : R U := x.rd fun v => i.rd fun j => match idxZ j with
  | none => .fail
  | some z =>
    match len, v with
    | some l, .ptr k n base o => .asrt (0 ≤ z ∧ z < l) (.rdH k (elemR sz k n base (o + z.toNat * sz)))
    | none, .slc k n base o l _ => .asrt (0 ≤ z ∧ z < l) (.rdH k (elemR sz k n base (o + z.toNat * sz)))
    | _, _ => .fail
def idxV (agg : Bool) (cs : List SV) (off m : Nat) : Option (List DP × SV) := match rowAt cs 0 with | some _ => getX agg cs 0 off m | none => getX agg cs off 0 m
def tIdx (agg : Bool) (len sz : Nat) (x i : Opd) : R U := x.rd fun v => i.rd fun j => match idxZ j with
  | none => .fail
  | some z => .asrt (0 ≤ z ∧ z < len) (optR (idxV agg v.segs (z.toNat * sz) sz))
def tField (agg : Bool) (off m : Nat) (x : Opd) : R U := x.rd fun v => optR (getX agg v.segs off 0 m)
def tExt (j : Nat) (x : Opd) : R U := x.rd fun v => match v with | .tup vs => oneR vs[j]? | _ => .fail
def tFn (f : Nat) (xs : List Opd) : R U := rdL (fun vs => .ret (.fn f vs, [])) xs

end Go.Eng
