/- Families of operations with trees of their own: those that only reckon. -/
import Derived.Test.YtgongenkdkiifaaGreatDoorEngS
import Derived.Laws.Cover3
import Derived.Laws.Pointers
set_option linter.unusedSimpArgs false
set_option linter.unusedVariables false
namespace Go.Eng
variable {U : Type} {ρ : U → Nat → Hp → Prop} {P : Program}

theorem xok_pure {t : XTag} {f : List SV → Option (List DP × SV)}
    (h : ∀ (o : Oper) (xs : List Operand) (a : Act) (vs : List SV) (w : World) (p : List DP) (v : SV), tagOf o.op = some (t, xs) → xs.map a.eval = denL vs → f vs = some (p, v) → allP p → (execOp a.eval o).run P w = .ok (.value v.den) w) :
    XOk ρ P t (pureSp (U := U) f) := by
  intro o xs d vs F c s a w ht hv hsat hsame hsafe
  obtain ⟨p, v, h1, h2, h3⟩ := optR_elim (s := s) hsafe
  exact ⟨_, _, _, w, h3, .inl (h o xs a vs w p v ht hv h1 h2), hsat, hsame⟩

theorem tag_bi {o : Op} {b : Builtin} {ts : List TypeId} {xs : List Operand} (h : tagOf o = some (.bi b ts, xs)) : ∃ c : Call, o = .call c ∧ c.callee = .builtin b ∧ c.argTypes = ts.toArray ∧ c.args = xs.toArray := by
  unfold tagOf at h
  split at h <;> simp only [Option.some.injEq, Prod.mk.injEq, reduceCtorEq, XTag.bi.injEq, false_and, and_false] at h
  obtain ⟨⟨rfl, rfl⟩, rfl⟩ := h
  exact ⟨_, rfl, rfl, by simp, by simp⟩

theorem run_bi {o : Oper} {b : Builtin} {ts : List TypeId} {xs : List Operand} (h : tagOf o.op = some (.bi b ts, xs)) {a : Act} {vs : List SV} (hv : xs.map a.eval = denL vs) :
    ∃ cs, execOp a.eval o = builtin b ts.toArray o.type cs (denL vs).toArray := by
  obtain ⟨c, h1, h2, h3, h4⟩ := tag_bi h
  have : execOp a.eval o = (do let d ← resolve a.eval c o.type; invoke d.target d.args) := by unfold execOp; rw [h1]
  rw [this]
  unfold resolve
  rw [h2]
  simp only [pure_bind, invoke, h3]
  rw [← hv, h4]
  simp only [List.map_toArray]
  exact ⟨_, rfl⟩

def lenF : List SV → Option (List DP × SV)
  | [.slc _ _ _ _ l _] => some ([], .i l)
  | [.nils] => some ([], .i 0)
  | _ => none
theorem xok_len {T e : TypeId} (hT : P.underlying T = some (.slice e)) : XOk ρ P (.bi .len [T]) (pureSp (U := U) lenF) := by
  refine xok_pure ?_
  intro o xs a vs w p v ht hv hf hp
  obtain ⟨cs, h⟩ := run_bi ht hv
  rw [h]
  unfold lenF at hf
  split at hf <;> simp only [Option.some.injEq, Prod.mk.injEq, reduceCtorEq] at hf <;> obtain ⟨rfl, rfl⟩ := hf
  all_goals
    simp [builtin, Builtin.len_, denL, SV.den, run_underlying hT, goInt]


/-! ## the lesser, the greater -/
def minF : List SV → Option (List DP × SV)
  | [.i x, .i y] => some ([], .i (if y < x then y else x))
  | [.u64 x, .u64 y] => some ([], .u64 (if y < x then y else x))
  | _ => none
theorem xok_min {ts : List TypeId} : XOk ρ P (.bi .min ts) (pureSp (U := U) minF) := by
  refine xok_pure ?_
  intro o xs a vs w p v ht hv hf hp
  obtain ⟨cs, h⟩ := run_bi ht hv
  rw [h]
  unfold minF at hf
  split at hf <;> simp only [Option.some.injEq, Prod.mk.injEq, reduceCtorEq] at hf <;> obtain ⟨rfl, rfl⟩ := hf
  · simp [builtin, Builtin.min_, Builtin.min2, denL, SV.den]
  · rename_i x y
    have e : ((if y < x then y else x).toNat : Int) = if (y.toNat : Int) < x.toNat then (y.toNat : Int) else x.toNat := by
      simp only [BitVec.lt_def]
      by_cases hh : y.toNat < x.toNat
      · simp [hh]
      · simp [hh]
    simp [builtin, Builtin.min_, Builtin.min2, denL, SV.den, e]
def maxF : List SV → Option (List DP × SV)
  | [.i x, .i y] => some ([], .i (if y > x then y else x))
  | [.u64 x, .u64 y] => some ([], .u64 (if y > x then y else x))
  | _ => none
theorem xok_max {ts : List TypeId} : XOk ρ P (.bi .max ts) (pureSp (U := U) maxF) := by
  refine xok_pure ?_
  intro o xs a vs w p v ht hv hf hp
  obtain ⟨cs, h⟩ := run_bi ht hv
  rw [h]
  unfold maxF at hf
  split at hf <;> simp only [Option.some.injEq, Prod.mk.injEq, reduceCtorEq] at hf <;> obtain ⟨rfl, rfl⟩ := hf
  · simp [builtin, Builtin.max_, Builtin.max2, denL, SV.den]
  · rename_i x y
    have e : ((if y > x then y else x).toNat : Int) = if (y.toNat : Int) > x.toNat then (y.toNat : Int) else x.toNat := by
      simp only [gt_iff_lt, BitVec.lt_def]
      by_cases hh : x.toNat < y.toNat
      · simp [hh]
      · simp [hh]
    simp [builtin, Builtin.max_, Builtin.max2, denL, SV.den, e]

/-! ## floats, and pairs of them -/
def realF : List SV → Option (List DP × SV)
  | [.val (.complex k x _)] => some ([], .val (.float k x))
  | _ => none
theorem xok_real {ts : List TypeId} : XOk ρ P (.bi .real ts) (pureSp (U := U) realF) := by
  refine xok_pure ?_
  intro o xs a vs w p v ht hv hf hp
  obtain ⟨cs, h⟩ := run_bi ht hv
  rw [h]
  unfold realF at hf
  split at hf <;> simp only [Option.some.injEq, Prod.mk.injEq, reduceCtorEq] at hf <;> obtain ⟨rfl, rfl⟩ := hf
  rfl
def imagF : List SV → Option (List DP × SV)
  | [.val (.complex k _ x)] => some ([], .val (.float k x))
  | _ => none
theorem xok_imag {ts : List TypeId} : XOk ρ P (.bi .imag ts) (pureSp (U := U) imagF) := by
  refine xok_pure ?_
  intro o xs a vs w p v ht hv hf hp
  obtain ⟨cs, h⟩ := run_bi ht hv
  rw [h]
  unfold imagF at hf
  split at hf <;> simp only [Option.some.injEq, Prod.mk.injEq, reduceCtorEq] at hf <;> obtain ⟨rfl, rfl⟩ := hf
  rfl
def complexF : List SV → Option (List DP × SV)
  | [.val (.float .f64 x), .val (.float .f64 y)] => some ([], .val (.complex .f64 x y))
  | _ => none
theorem xok_complex {ts : List TypeId} : XOk ρ P (.bi .complex ts) (pureSp (U := U) complexF) := by
  refine xok_pure ?_
  intro o xs a vs w p v ht hv hf hp
  obtain ⟨cs, h⟩ := run_bi ht hv
  rw [h]
  unfold complexF at hf
  split at hf <;> simp only [Option.some.injEq, Prod.mk.injEq, reduceCtorEq] at hf <;> obtain ⟨rfl, rfl⟩ := hf
  rfl

theorem tag_bin {o : Op} {op : BinOp} {T T' : TypeId} {xs : List Operand} (h : tagOf o = some (.bin op T T', xs)) : ∃ x y, o = .binOp op T x y T' ∧ xs = [x, y] := by
  unfold tagOf at h
  split at h <;> simp only [Option.some.injEq, Prod.mk.injEq, reduceCtorEq, XTag.bin.injEq, false_and, and_false] at h
  obtain ⟨⟨rfl, rfl, rfl⟩, rfl⟩ := h
  exact ⟨_, _, rfl, rfl⟩
theorem run_bin {o : Oper} {op : BinOp} {T T' : TypeId} {xs : List Operand} (h : tagOf o.op = some (.bin op T T', xs)) {a : Act} {vs : List SV} (hv : xs.map a.eval = denL vs) :
    ∃ x y u v, vs = [u, v] ∧ execOp a.eval o = (do let r ← (do eqGuard op T x y u.den v.den; binOp op T u.den v.den); pure (.value r)) := by
  obtain ⟨x, y, h1, rfl⟩ := tag_bin h
  rw [denL_eq] at hv
  cases vs with
  | nil => simp at hv
  | cons u vs =>
    cases vs with
    | nil => simp at hv
    | cons v vs =>
      simp only [List.map_cons, List.map_nil, List.cons.injEq] at hv
      obtain ⟨h2, h3, h4⟩ := hv
      have : vs = [] := by cases vs <;> simp_all
      subst this
      refine ⟨x, y, u, v, rfl, ?_⟩
      unfold execOp
      rw [h1, ← h2, ← h3]
def fcmp (op : BinOp) (k : FloatKind) (x y : Nat) : Option Bool :=
  match op with
  | .eql => some (k.format.order x y == some .eq)
  | .neq => some (k.format.order x y != some .eq)
  | .lss => some (k.format.order x y == some .lt)
  | .leq => some (k.format.order x y == some .lt || k.format.order x y == some .eq)
  | .gtr => some (k.format.order x y == some .gt)
  | .geq => some (k.format.order x y == some .gt || k.format.order x y == some .eq)
  | _ => none
def fcmpF (op : BinOp) : List SV → Option (List DP × SV)
  | [.val (.float .f64 x), .val (.float .f64 y)] => match fcmp op .f64 x y with | some b => some ([], .b b) | none => none
  | _ => none
theorem xok_fcmp {op : BinOp} {T T' : TypeId} : XOk ρ P (.bin op T T') (pureSp (U := U) (fcmpF op)) := by
  refine xok_pure ?_
  intro o xs a vs w p v ht hv hf hp
  obtain ⟨x, y, u, z, rfl, h⟩ := run_bin ht hv
  rw [h]
  unfold fcmpF at hf
  split at hf
  · rename_i m n he
    simp only [List.cons.injEq, and_true] at he
    obtain ⟨rfl, rfl⟩ := he
    cases op <;> simp only [fcmp, Option.some.injEq, Prod.mk.injEq, reduceCtorEq] at hf <;> obtain ⟨rfl, rfl⟩ := hf <;>
      simp [SV.den, oneV, Value.oneCell', eqGuard, binOp, Op.floatCmp]
  · simp at hf

theorem tag_conv {o : Op} {S T : TypeId} {xs : List Operand} (h : tagOf o = some (.conv S T, xs)) : ∃ x, o = .convert S T x ∧ xs = [x] := by
  unfold tagOf at h
  split at h <;> simp only [Option.some.injEq, Prod.mk.injEq, reduceCtorEq, XTag.conv.injEq, false_and, and_false] at h
  obtain ⟨⟨rfl, rfl⟩, rfl⟩ := h
  exact ⟨_, rfl, rfl⟩
theorem run_conv {o : Oper} {S T : TypeId} {xs : List Operand} (h : tagOf o.op = some (.conv S T, xs)) {a : Act} {vs : List SV} (hv : xs.map a.eval = denL vs) :
    ∃ u, vs = [u] ∧ execOp a.eval o = (do let r ← convert S T u.den; pure (.value r)) := by
  obtain ⟨x, h1, rfl⟩ := tag_conv h
  rw [denL_eq] at hv
  cases vs with
  | nil => simp at hv
  | cons u vs =>
    simp only [List.map_cons, List.map_nil, List.cons.injEq] at hv
    obtain ⟨h2, h4⟩ := hv
    have : vs = [] := by cases vs <;> simp_all
    subst this
    refine ⟨u, rfl, ?_⟩
    unfold execOp
    rw [h1, ← h2]
def i2f : List SV → Option (List DP × SV)
  | [.i n] => some ([], .val (.float .f64 (FloatKind.f64.nearest n)))
  | _ => none
theorem xok_i2f {S T : TypeId} (hS : P.underlying S = some (.int .i64)) (hT : P.underlying T = some (.float .f64)) : XOk ρ P (.conv S T) (pureSp (U := U) i2f) := by
  refine xok_pure ?_
  intro o xs a vs w p v ht hv hf hp
  obtain ⟨u, rfl, h⟩ := run_conv ht hv
  rw [h]
  unfold i2f at hf
  split at hf <;> simp only [Option.some.injEq, Prod.mk.injEq, reduceCtorEq] at hf
  obtain ⟨rfl, rfl⟩ := hf
  rename_i n he
  simp only [List.cons.injEq, and_true] at he
  subst he
  simp [SV.den, oneV, Value.oneCell', convert, run_underlying hS, run_underlying hT, Conv.intToFloat]
def f2iOk (x : Nat) : Bool := match (FloatKind.f64.decode x).toInt .zero with | some n => decide (IntKind.i64.min ≤ n) && decide (n ≤ IntKind.i64.max) | none => false
def f2iN (x : Nat) : Int := match (FloatKind.f64.decode x).toInt .zero with | some n => n | none => 0
def f2i : List SV → Option (List DP × SV)
  | [.val (.float .f64 x)] => some ([f2iOk x = true], .i (f2iN x))
  | _ => none
theorem xok_f2i {S T : TypeId} (hS : P.underlying S = some (.float .f64)) (hT : P.underlying T = some (.int .i64)) : XOk ρ P (.conv S T) (pureSp (U := U) f2i) := by
  refine xok_pure ?_
  intro o xs a vs w p v ht hv hf hp
  obtain ⟨u, rfl, h⟩ := run_conv ht hv
  rw [h]
  unfold f2i at hf
  split at hf <;> simp only [Option.some.injEq, Prod.mk.injEq, reduceCtorEq] at hf
  obtain ⟨rfl, rfl⟩ := hf
  rename_i n he
  simp only [List.cons.injEq, and_true] at he
  subst he
  have hp : f2iOk n = true := hp
  unfold f2iOk at hp
  split at hp
  · rename_i m hm
    simp only [Bool.and_eq_true, decide_eq_true_eq] at hp
    have e : Conv.floatToInt .f64 n .i64 = pure (.int .i64 m) := by unfold Conv.floatToInt; rw [hm]; simp only; rw [if_pos hp]
    simp [SV.den, oneV, Value.oneCell', convert, run_underlying hS, run_underlying hT, e, f2iN, hm]
  · simp at hp

/-! ## is it nil? -/
def nilF (neg : Bool) : List SV → Option (List DP × SV)
  | [.nils, .nils] => some ([], .b (!neg))
  | [.slc .., .nils] => some ([], .b neg)
  | _ => none
theorem xok_nils {T T' e : TypeId} (hT : P.underlying T = some (.slice e)) : XOk ρ P (.bin .eql T T') (pureSp (U := U) (nilF false)) ∧ XOk ρ P (.bin .neq T T') (pureSp (U := U) (nilF true)) := by
  constructor
  all_goals
    refine xok_pure ?_
    intro o xs a vs w p v ht hv hf hp
    obtain ⟨x, y, u, z, rfl, h⟩ := run_bin ht hv
    rw [h]
    unfold nilF at hf
    split at hf <;> simp only [Option.some.injEq, Prod.mk.injEq, reduceCtorEq] at hf <;> obtain ⟨rfl, rfl⟩ := hf <;> rename_i he <;> simp only [List.cons.injEq, and_true] at he <;> obtain ⟨rfl, rfl⟩ := he
    all_goals (simp [SV.den, eqGuard, binOp, Op.equal, Op.maxDepth, run_equalIn_slice_nil w 9999 T e _ _ _ hT])
def nilpF (neg : Bool) : List SV → Option (List DP × SV)
  | [.nilp, .nilp] => some ([], .b (!neg))
  | [.ptr .., .nilp] => some ([], .b neg)
  | _ => none
theorem xok_nilp {T T' e : TypeId} (hT : P.underlying T = some (.pointer e)) : XOk ρ P (.bin .eql T T') (pureSp (U := U) (nilpF false)) ∧ XOk ρ P (.bin .neq T T') (pureSp (U := U) (nilpF true)) := by
  have hT' : P.underlying T = some (.pointer (P.pointee T)) := by rw [Program.pointee, hT]
  constructor
  all_goals
    refine xok_pure ?_
    intro o xs a vs w p v ht hv hf hp
    obtain ⟨x, y, u, z, rfl, h⟩ := run_bin ht hv
    rw [h]
    unfold nilpF at hf
    split at hf <;> simp only [Option.some.injEq, Prod.mk.injEq, reduceCtorEq] at hf <;> obtain ⟨rfl, rfl⟩ := hf <;> rename_i he <;> simp only [List.cons.injEq, and_true] at he <;> obtain ⟨rfl, rfl⟩ := he
    all_goals (simp [SV.den, eqGuard, binOp, Op.equal, Op.maxDepth, run_equalIn_pointer_nil w 9999 T _ hT'])

/-! ## texts -/
def strF (neg : Bool) : List SV → Option (List DP × SV)
  | [.str x, .str y] => some ([], .b (match neg with | true => !(x.toList == y.toList) | false => x.toList == y.toList))
  | _ => none
theorem xok_str {T T' : TypeId} (hT : P.underlying T = some .string) : XOk ρ P (.bin .eql T T') (pureSp (U := U) (strF false)) ∧ XOk ρ P (.bin .neq T T') (pureSp (U := U) (strF true)) := by
  constructor
  all_goals
    refine xok_pure ?_
    intro o xs a vs w p v ht hv hf hp
    obtain ⟨x, y, u, z, rfl, h⟩ := run_bin ht hv
    rw [h]
    unfold strF at hf
    split at hf <;> simp only [Option.some.injEq, Prod.mk.injEq, reduceCtorEq] at hf <;> obtain ⟨rfl, rfl⟩ := hf <;> rename_i he <;> simp only [List.cons.injEq, and_true] at he <;> obtain ⟨rfl, rfl⟩ := he
    all_goals rfl
end Go.Eng
