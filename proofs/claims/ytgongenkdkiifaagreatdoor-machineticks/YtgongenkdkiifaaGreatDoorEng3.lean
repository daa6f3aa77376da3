/- Operations on numbers and bools over abstract values; each does what the model's does. Printed by gen3.py. -/
import Derived.Test.YtgongenkdkiifaaGreatDoorEng2
import Derived.WalkKit
namespace Go.Eng

theorem wrapU (k : IntKind) (n : Int) (h : k.signed = false) : k.wrap n = n % (2 ^ k.bits : Int) := by simp [IntKind.wrap, h]
theorem wrapU_nat (k : IntKind) (n : Nat) (h : k.signed = false) : k.wrap (n : Int) = ((n % 2 ^ k.bits : Nat) : Int) := by
  rw [wrapU k _ h]; simp

theorem wrap_u8_bv (x : BitVec 8) : IntKind.u8.wrap (x.toNat : Int) = x.toNat := by
  rw [wrapU_nat _ _ rfl]; congr 1; exact Nat.mod_eq_of_lt x.isLt
theorem ofInt_u8 (x : BitVec 8) : BitVec.ofInt 8 (x.toNat : Int) = x := by
  apply BitVec.eq_of_toNat_eq; simp
/-- precondition and result -/
def b_u8 (op : BinOp) (x y : BitVec 8) : Option (List DP × SV) :=
  match op with
  | .add => some ([], .u8 (x + y))
  | .sub => some ([], .u8 (x - y))
  | .mul => some ([], .u8 (x * y))
  | .quo => some ([y ≠ 0], .u8 (x / y))
  | .rem => some ([y ≠ 0], .u8 (x % y))
  | .and => some ([], .u8 (x &&& y))
  | .or => some ([], .u8 (x ||| y))
  | .xor => some ([], .u8 (x ^^^ y))
  | .andNot => some ([], .u8 (x &&& ~~~y))
  | .eql => some ([], .b (x == y))
  | .neq => some ([], .b (x != y))
  | .lss => some ([], .b (decide (x < y)))
  | .leq => some ([], .b (decide (x ≤ y)))
  | .gtr => some ([], .b (decide (y < x)))
  | .geq => some ([], .b (decide (y ≤ x)))
  | _ => none
theorem b_u8_run {P : Program} {w : World} {op : BinOp} {x y : BitVec 8} {p : List DP} {v : SV} (h : b_u8 op x y = some (p, v)) (hp : allP p) (T : TypeId) :
    (binOp op T (.int .u8 x.toNat) (.int .u8 y.toNat)).run P w = .ok v.den w := by
  have hx := x.isLt
  have hy := y.isLt
  cases op <;> simp only [b_u8, Option.some.injEq, Prod.mk.injEq, reduceCtorEq] at h <;> obtain ⟨rfl, rfl⟩ := h
  case add => (simp only [binOp, ne_eq, not_true_eq_false, if_false, Op.intArith, Sem.run_pure, SV.den, wrapU IntKind.u8 _ rfl, IntKind.bits, BitVec.toNat_add]; congr 2)
  case sub =>
    simp only [binOp, ne_eq, not_true_eq_false, if_false, Op.intArith, Sem.run_pure, SV.den, wrapU IntKind.u8 _ rfl, IntKind.bits, BitVec.toNat_sub]
    congr 2
    omega
  case mul => (simp only [binOp, ne_eq, not_true_eq_false, if_false, Op.intArith, Sem.run_pure, SV.den, wrapU IntKind.u8 _ rfl, IntKind.bits, BitVec.toNat_mul]; congr 2)
  case quo =>
    have hy0 : ¬ (y.toNat : Int) = 0 := by
      intro e; apply hp; apply BitVec.eq_of_toNat_eq; simpa using e
    simp only [binOp, ne_eq, not_true_eq_false, if_false, Op.intDiv, hy0, Sem.run_pure, SV.den, BitVec.toNat_udiv, ← Int.ofNat_tdiv]
    congr 2
    rw [wrapU_nat _ _ rfl]
    congr 1
    exact Nat.mod_eq_of_lt (Nat.lt_of_le_of_lt (Nat.div_le_self _ _) hx)
  case rem =>
    have hy0 : ¬ (y.toNat : Int) = 0 := by
      intro e; apply hp; apply BitVec.eq_of_toNat_eq; simpa using e
    simp only [binOp, ne_eq, not_true_eq_false, if_false, Op.intDiv, hy0, Sem.run_pure, SV.den, BitVec.toNat_umod]
    congr 2
  case and =>
    simp only [binOp, ne_eq, not_true_eq_false, if_false, Op.intBits, IntKind.bits, ofInt_u8, Sem.run_pure, SV.den]
    rw [wrap_u8_bv]
    rfl
  case or =>
    simp only [binOp, ne_eq, not_true_eq_false, if_false, Op.intBits, IntKind.bits, ofInt_u8, Sem.run_pure, SV.den]
    rw [wrap_u8_bv]
    rfl
  case xor =>
    simp only [binOp, ne_eq, not_true_eq_false, if_false, Op.intBits, IntKind.bits, ofInt_u8, Sem.run_pure, SV.den]
    rw [wrap_u8_bv]
    rfl
  case andNot =>
    simp only [binOp, ne_eq, not_true_eq_false, if_false, Op.intBits, IntKind.bits, ofInt_u8, Sem.run_pure, SV.den]
    rw [wrap_u8_bv]
    rfl
  case eql =>
    simp only [binOp, ne_eq, not_true_eq_false, if_false, Op.intCmp, Sem.run_pure, SV.den]
    congr 2
    rw [Bool.eq_iff_iff]; simp [← BitVec.toNat_inj]; omega
  case neq =>
    simp only [binOp, ne_eq, not_true_eq_false, if_false, Op.intCmp, Sem.run_pure, SV.den]
    congr 2
    rw [Bool.eq_iff_iff]; simp [← BitVec.toNat_inj]; omega
  case lss => simp [binOp, Op.intCmp, SV.den, BitVec.lt_def]
  case leq => simp [binOp, Op.intCmp, SV.den, BitVec.le_def]
  case gtr => simp [binOp, Op.intCmp, SV.den, BitVec.lt_def]
  case geq => simp [binOp, Op.intCmp, SV.den, BitVec.le_def]
/-- shifts by so many -/
def s_u8 (op : BinOp) (x : BitVec 8) (n : Nat) : Option SV :=
  match op with
  | .shl => some (.u8 (x <<< n))
  | .shr => some (.u8 (x >>> n))
  | _ => none
theorem s_u8_run {P : Program} {w : World} {op : BinOp} {x : BitVec 8} {yk : IntKind} {y : Int} {v : SV} (h : s_u8 op x y.toNat = some v) (hp : 0 ≤ y) (T : TypeId) :
    (binOp op T (.int .u8 x.toNat) (.int yk y)).run P w = .ok v.den w := by
  have hx := x.isLt
  have hny : ¬ y < 0 := by omega
  cases op <;> simp only [s_u8, Option.some.injEq, reduceCtorEq] at h <;> subst h
  case shl =>
    simp only [binOp, Op.shift, hny, if_false, Sem.run_pure, SV.den, IntKind.bits, BitVec.toNat_shiftLeft]
    congr 2
    rw [wrapU IntKind.u8 _ rfl]
    simp only [IntKind.bits]
    by_cases hb : y.toNat ≤ 8
    · rw [Nat.min_eq_left hb, Nat.shiftLeft_eq]; norm_cast
    · have e1 : min y.toNat 8 = 8 := by omega
      rw [e1, Nat.shiftLeft_eq]
      have e2 : (2:Nat) ^ y.toNat = 2 ^ 8 * 2 ^ (y.toNat - 8) := by rw [← Nat.pow_add]; congr 1; omega
      rw [e2]
      have e3 : x.toNat * (2 ^ 8 * 2 ^ (y.toNat - 8)) = (x.toNat * 2 ^ (y.toNat - 8)) * 2 ^ 8 := by ac_rfl
      rw [e3, Nat.mul_mod_left]
      simp
  case shr =>
    simp only [binOp, Op.shift, hny, if_false, Sem.run_pure, SV.den, IntKind.bits, BitVec.toNat_ushiftRight]
    congr 2
    rw [Nat.shiftRight_eq_div_pow]
    rw [Int.fdiv_eq_ediv_of_nonneg _ (by exact Int.le_of_lt (Int.pow_pos (by decide)))]
    by_cases hb : y.toNat ≤ 8
    · rw [Nat.min_eq_left hb]; norm_cast
    · have e1 : min y.toNat 8 = 8 := by omega
      rw [e1]
      have : x.toNat / 2 ^ y.toNat = 0 := Nat.div_eq_of_lt (Nat.lt_of_lt_of_le hx (Nat.pow_le_pow_right (by decide) (by omega)))
      rw [this]
      have h2 : x.toNat / 2 ^ 8 = 0 := Nat.div_eq_of_lt hx
      norm_cast

theorem wrap_u16_bv (x : BitVec 16) : IntKind.u16.wrap (x.toNat : Int) = x.toNat := by
  rw [wrapU_nat _ _ rfl]; congr 1; exact Nat.mod_eq_of_lt x.isLt
theorem ofInt_u16 (x : BitVec 16) : BitVec.ofInt 16 (x.toNat : Int) = x := by
  apply BitVec.eq_of_toNat_eq; simp
/-- precondition and result -/
def b_u16 (op : BinOp) (x y : BitVec 16) : Option (List DP × SV) :=
  match op with
  | .add => some ([], .u16 (x + y))
  | .sub => some ([], .u16 (x - y))
  | .mul => some ([], .u16 (x * y))
  | .quo => some ([y ≠ 0], .u16 (x / y))
  | .rem => some ([y ≠ 0], .u16 (x % y))
  | .and => some ([], .u16 (x &&& y))
  | .or => some ([], .u16 (x ||| y))
  | .xor => some ([], .u16 (x ^^^ y))
  | .andNot => some ([], .u16 (x &&& ~~~y))
  | .eql => some ([], .b (x == y))
  | .neq => some ([], .b (x != y))
  | .lss => some ([], .b (decide (x < y)))
  | .leq => some ([], .b (decide (x ≤ y)))
  | .gtr => some ([], .b (decide (y < x)))
  | .geq => some ([], .b (decide (y ≤ x)))
  | _ => none
theorem b_u16_run {P : Program} {w : World} {op : BinOp} {x y : BitVec 16} {p : List DP} {v : SV} (h : b_u16 op x y = some (p, v)) (hp : allP p) (T : TypeId) :
    (binOp op T (.int .u16 x.toNat) (.int .u16 y.toNat)).run P w = .ok v.den w := by
  have hx := x.isLt
  have hy := y.isLt
  cases op <;> simp only [b_u16, Option.some.injEq, Prod.mk.injEq, reduceCtorEq] at h <;> obtain ⟨rfl, rfl⟩ := h
  case add => (simp only [binOp, ne_eq, not_true_eq_false, if_false, Op.intArith, Sem.run_pure, SV.den, wrapU IntKind.u16 _ rfl, IntKind.bits, BitVec.toNat_add]; congr 2)
  case sub =>
    simp only [binOp, ne_eq, not_true_eq_false, if_false, Op.intArith, Sem.run_pure, SV.den, wrapU IntKind.u16 _ rfl, IntKind.bits, BitVec.toNat_sub]
    congr 2
    omega
  case mul => (simp only [binOp, ne_eq, not_true_eq_false, if_false, Op.intArith, Sem.run_pure, SV.den, wrapU IntKind.u16 _ rfl, IntKind.bits, BitVec.toNat_mul]; congr 2)
  case quo =>
    have hy0 : ¬ (y.toNat : Int) = 0 := by
      intro e; apply hp; apply BitVec.eq_of_toNat_eq; simpa using e
    simp only [binOp, ne_eq, not_true_eq_false, if_false, Op.intDiv, hy0, Sem.run_pure, SV.den, BitVec.toNat_udiv, ← Int.ofNat_tdiv]
    congr 2
    rw [wrapU_nat _ _ rfl]
    congr 1
    exact Nat.mod_eq_of_lt (Nat.lt_of_le_of_lt (Nat.div_le_self _ _) hx)
  case rem =>
    have hy0 : ¬ (y.toNat : Int) = 0 := by
      intro e; apply hp; apply BitVec.eq_of_toNat_eq; simpa using e
    simp only [binOp, ne_eq, not_true_eq_false, if_false, Op.intDiv, hy0, Sem.run_pure, SV.den, BitVec.toNat_umod]
    congr 2
  case and =>
    simp only [binOp, ne_eq, not_true_eq_false, if_false, Op.intBits, IntKind.bits, ofInt_u16, Sem.run_pure, SV.den]
    rw [wrap_u16_bv]
    rfl
  case or =>
    simp only [binOp, ne_eq, not_true_eq_false, if_false, Op.intBits, IntKind.bits, ofInt_u16, Sem.run_pure, SV.den]
    rw [wrap_u16_bv]
    rfl
  case xor =>
    simp only [binOp, ne_eq, not_true_eq_false, if_false, Op.intBits, IntKind.bits, ofInt_u16, Sem.run_pure, SV.den]
    rw [wrap_u16_bv]
    rfl
  case andNot =>
    simp only [binOp, ne_eq, not_true_eq_false, if_false, Op.intBits, IntKind.bits, ofInt_u16, Sem.run_pure, SV.den]
    rw [wrap_u16_bv]
    rfl
  case eql =>
    simp only [binOp, ne_eq, not_true_eq_false, if_false, Op.intCmp, Sem.run_pure, SV.den]
    congr 2
    rw [Bool.eq_iff_iff]; simp [← BitVec.toNat_inj]; omega
  case neq =>
    simp only [binOp, ne_eq, not_true_eq_false, if_false, Op.intCmp, Sem.run_pure, SV.den]
    congr 2
    rw [Bool.eq_iff_iff]; simp [← BitVec.toNat_inj]; omega
  case lss => simp [binOp, Op.intCmp, SV.den, BitVec.lt_def]
  case leq => simp [binOp, Op.intCmp, SV.den, BitVec.le_def]
  case gtr => simp [binOp, Op.intCmp, SV.den, BitVec.lt_def]
  case geq => simp [binOp, Op.intCmp, SV.den, BitVec.le_def]
/-- shifts by so many -/
def s_u16 (op : BinOp) (x : BitVec 16) (n : Nat) : Option SV :=
  match op with
  | .shl => some (.u16 (x <<< n))
  | .shr => some (.u16 (x >>> n))
  | _ => none
theorem s_u16_run {P : Program} {w : World} {op : BinOp} {x : BitVec 16} {yk : IntKind} {y : Int} {v : SV} (h : s_u16 op x y.toNat = some v) (hp : 0 ≤ y) (T : TypeId) :
    (binOp op T (.int .u16 x.toNat) (.int yk y)).run P w = .ok v.den w := by
  have hx := x.isLt
  have hny : ¬ y < 0 := by omega
  cases op <;> simp only [s_u16, Option.some.injEq, reduceCtorEq] at h <;> subst h
  case shl =>
    simp only [binOp, Op.shift, hny, if_false, Sem.run_pure, SV.den, IntKind.bits, BitVec.toNat_shiftLeft]
    congr 2
    rw [wrapU IntKind.u16 _ rfl]
    simp only [IntKind.bits]
    by_cases hb : y.toNat ≤ 16
    · rw [Nat.min_eq_left hb, Nat.shiftLeft_eq]; norm_cast
    · have e1 : min y.toNat 16 = 16 := by omega
      rw [e1, Nat.shiftLeft_eq]
      have e2 : (2:Nat) ^ y.toNat = 2 ^ 16 * 2 ^ (y.toNat - 16) := by rw [← Nat.pow_add]; congr 1; omega
      rw [e2]
      have e3 : x.toNat * (2 ^ 16 * 2 ^ (y.toNat - 16)) = (x.toNat * 2 ^ (y.toNat - 16)) * 2 ^ 16 := by ac_rfl
      rw [e3, Nat.mul_mod_left]
      simp
  case shr =>
    simp only [binOp, Op.shift, hny, if_false, Sem.run_pure, SV.den, IntKind.bits, BitVec.toNat_ushiftRight]
    congr 2
    rw [Nat.shiftRight_eq_div_pow]
    rw [Int.fdiv_eq_ediv_of_nonneg _ (by exact Int.le_of_lt (Int.pow_pos (by decide)))]
    by_cases hb : y.toNat ≤ 16
    · rw [Nat.min_eq_left hb]; norm_cast
    · have e1 : min y.toNat 16 = 16 := by omega
      rw [e1]
      have : x.toNat / 2 ^ y.toNat = 0 := Nat.div_eq_of_lt (Nat.lt_of_lt_of_le hx (Nat.pow_le_pow_right (by decide) (by omega)))
      rw [this]
      have h2 : x.toNat / 2 ^ 16 = 0 := Nat.div_eq_of_lt hx
      norm_cast

theorem wrap_u32_bv (x : BitVec 32) : IntKind.u32.wrap (x.toNat : Int) = x.toNat := by
  rw [wrapU_nat _ _ rfl]; congr 1; exact Nat.mod_eq_of_lt x.isLt
theorem ofInt_u32 (x : BitVec 32) : BitVec.ofInt 32 (x.toNat : Int) = x := by
  apply BitVec.eq_of_toNat_eq; simp
/-- precondition and result -/
def b_u32 (op : BinOp) (x y : BitVec 32) : Option (List DP × SV) :=
  match op with
  | .add => some ([], .u32 (x + y))
  | .sub => some ([], .u32 (x - y))
  | .mul => some ([], .u32 (x * y))
  | .quo => some ([y ≠ 0], .u32 (x / y))
  | .rem => some ([y ≠ 0], .u32 (x % y))
  | .and => some ([], .u32 (x &&& y))
  | .or => some ([], .u32 (x ||| y))
  | .xor => some ([], .u32 (x ^^^ y))
  | .andNot => some ([], .u32 (x &&& ~~~y))
  | .eql => some ([], .b (x == y))
  | .neq => some ([], .b (x != y))
  | .lss => some ([], .b (decide (x < y)))
  | .leq => some ([], .b (decide (x ≤ y)))
  | .gtr => some ([], .b (decide (y < x)))
  | .geq => some ([], .b (decide (y ≤ x)))
  | _ => none
theorem b_u32_run {P : Program} {w : World} {op : BinOp} {x y : BitVec 32} {p : List DP} {v : SV} (h : b_u32 op x y = some (p, v)) (hp : allP p) (T : TypeId) :
    (binOp op T (.int .u32 x.toNat) (.int .u32 y.toNat)).run P w = .ok v.den w := by
  have hx := x.isLt
  have hy := y.isLt
  cases op <;> simp only [b_u32, Option.some.injEq, Prod.mk.injEq, reduceCtorEq] at h <;> obtain ⟨rfl, rfl⟩ := h
  case add => (simp only [binOp, ne_eq, not_true_eq_false, if_false, Op.intArith, Sem.run_pure, SV.den, wrapU IntKind.u32 _ rfl, IntKind.bits, BitVec.toNat_add]; congr 2)
  case sub =>
    simp only [binOp, ne_eq, not_true_eq_false, if_false, Op.intArith, Sem.run_pure, SV.den, wrapU IntKind.u32 _ rfl, IntKind.bits, BitVec.toNat_sub]
    congr 2
    omega
  case mul => (simp only [binOp, ne_eq, not_true_eq_false, if_false, Op.intArith, Sem.run_pure, SV.den, wrapU IntKind.u32 _ rfl, IntKind.bits, BitVec.toNat_mul]; congr 2)
  case quo =>
    have hy0 : ¬ (y.toNat : Int) = 0 := by
      intro e; apply hp; apply BitVec.eq_of_toNat_eq; simpa using e
    simp only [binOp, ne_eq, not_true_eq_false, if_false, Op.intDiv, hy0, Sem.run_pure, SV.den, BitVec.toNat_udiv, ← Int.ofNat_tdiv]
    congr 2
    rw [wrapU_nat _ _ rfl]
    congr 1
    exact Nat.mod_eq_of_lt (Nat.lt_of_le_of_lt (Nat.div_le_self _ _) hx)
  case rem =>
    have hy0 : ¬ (y.toNat : Int) = 0 := by
      intro e; apply hp; apply BitVec.eq_of_toNat_eq; simpa using e
    simp only [binOp, ne_eq, not_true_eq_false, if_false, Op.intDiv, hy0, Sem.run_pure, SV.den, BitVec.toNat_umod]
    congr 2
  case and =>
    simp only [binOp, ne_eq, not_true_eq_false, if_false, Op.intBits, IntKind.bits, ofInt_u32, Sem.run_pure, SV.den]
    rw [wrap_u32_bv]
    rfl
  case or =>
    simp only [binOp, ne_eq, not_true_eq_false, if_false, Op.intBits, IntKind.bits, ofInt_u32, Sem.run_pure, SV.den]
    rw [wrap_u32_bv]
    rfl
  case xor =>
    simp only [binOp, ne_eq, not_true_eq_false, if_false, Op.intBits, IntKind.bits, ofInt_u32, Sem.run_pure, SV.den]
    rw [wrap_u32_bv]
    rfl
  case andNot =>
    simp only [binOp, ne_eq, not_true_eq_false, if_false, Op.intBits, IntKind.bits, ofInt_u32, Sem.run_pure, SV.den]
    rw [wrap_u32_bv]
    rfl
  case eql =>
    simp only [binOp, ne_eq, not_true_eq_false, if_false, Op.intCmp, Sem.run_pure, SV.den]
    congr 2
    rw [Bool.eq_iff_iff]; simp [← BitVec.toNat_inj]; omega
  case neq =>
    simp only [binOp, ne_eq, not_true_eq_false, if_false, Op.intCmp, Sem.run_pure, SV.den]
    congr 2
    rw [Bool.eq_iff_iff]; simp [← BitVec.toNat_inj]; omega
  case lss => simp [binOp, Op.intCmp, SV.den, BitVec.lt_def]
  case leq => simp [binOp, Op.intCmp, SV.den, BitVec.le_def]
  case gtr => simp [binOp, Op.intCmp, SV.den, BitVec.lt_def]
  case geq => simp [binOp, Op.intCmp, SV.den, BitVec.le_def]
/-- shifts by so many -/
def s_u32 (op : BinOp) (x : BitVec 32) (n : Nat) : Option SV :=
  match op with
  | .shl => some (.u32 (x <<< n))
  | .shr => some (.u32 (x >>> n))
  | _ => none
theorem s_u32_run {P : Program} {w : World} {op : BinOp} {x : BitVec 32} {yk : IntKind} {y : Int} {v : SV} (h : s_u32 op x y.toNat = some v) (hp : 0 ≤ y) (T : TypeId) :
    (binOp op T (.int .u32 x.toNat) (.int yk y)).run P w = .ok v.den w := by
  have hx := x.isLt
  have hny : ¬ y < 0 := by omega
  cases op <;> simp only [s_u32, Option.some.injEq, reduceCtorEq] at h <;> subst h
  case shl =>
    simp only [binOp, Op.shift, hny, if_false, Sem.run_pure, SV.den, IntKind.bits, BitVec.toNat_shiftLeft]
    congr 2
    rw [wrapU IntKind.u32 _ rfl]
    simp only [IntKind.bits]
    by_cases hb : y.toNat ≤ 32
    · rw [Nat.min_eq_left hb, Nat.shiftLeft_eq]; norm_cast
    · have e1 : min y.toNat 32 = 32 := by omega
      rw [e1, Nat.shiftLeft_eq]
      have e2 : (2:Nat) ^ y.toNat = 2 ^ 32 * 2 ^ (y.toNat - 32) := by rw [← Nat.pow_add]; congr 1; omega
      rw [e2]
      have e3 : x.toNat * (2 ^ 32 * 2 ^ (y.toNat - 32)) = (x.toNat * 2 ^ (y.toNat - 32)) * 2 ^ 32 := by ac_rfl
      rw [e3, Nat.mul_mod_left]
      simp
  case shr =>
    simp only [binOp, Op.shift, hny, if_false, Sem.run_pure, SV.den, IntKind.bits, BitVec.toNat_ushiftRight]
    congr 2
    rw [Nat.shiftRight_eq_div_pow]
    rw [Int.fdiv_eq_ediv_of_nonneg _ (by exact Int.le_of_lt (Int.pow_pos (by decide)))]
    by_cases hb : y.toNat ≤ 32
    · rw [Nat.min_eq_left hb]; norm_cast
    · have e1 : min y.toNat 32 = 32 := by omega
      rw [e1]
      have : x.toNat / 2 ^ y.toNat = 0 := Nat.div_eq_of_lt (Nat.lt_of_lt_of_le hx (Nat.pow_le_pow_right (by decide) (by omega)))
      rw [this]
      have h2 : x.toNat / 2 ^ 32 = 0 := Nat.div_eq_of_lt hx
      norm_cast

theorem wrap_u64_bv (x : BitVec 64) : IntKind.u64.wrap (x.toNat : Int) = x.toNat := by
  rw [wrapU_nat _ _ rfl]; congr 1; exact Nat.mod_eq_of_lt x.isLt
theorem ofInt_u64 (x : BitVec 64) : BitVec.ofInt 64 (x.toNat : Int) = x := by
  apply BitVec.eq_of_toNat_eq; simp
/-- precondition and result -/
def b_u64 (op : BinOp) (x y : BitVec 64) : Option (List DP × SV) :=
  match op with
  | .add => some ([], .u64 (x + y))
  | .sub => some ([], .u64 (x - y))
  | .mul => some ([], .u64 (x * y))
  | .quo => some ([y ≠ 0], .u64 (x / y))
  | .rem => some ([y ≠ 0], .u64 (x % y))
  | .and => some ([], .u64 (x &&& y))
  | .or => some ([], .u64 (x ||| y))
  | .xor => some ([], .u64 (x ^^^ y))
  | .andNot => some ([], .u64 (x &&& ~~~y))
  | .eql => some ([], .b (x == y))
  | .neq => some ([], .b (x != y))
  | .lss => some ([], .b (decide (x < y)))
  | .leq => some ([], .b (decide (x ≤ y)))
  | .gtr => some ([], .b (decide (y < x)))
  | .geq => some ([], .b (decide (y ≤ x)))
  | _ => none
theorem b_u64_run {P : Program} {w : World} {op : BinOp} {x y : BitVec 64} {p : List DP} {v : SV} (h : b_u64 op x y = some (p, v)) (hp : allP p) (T : TypeId) :
    (binOp op T (.int .u64 x.toNat) (.int .u64 y.toNat)).run P w = .ok v.den w := by
  have hx := x.isLt
  have hy := y.isLt
  cases op <;> simp only [b_u64, Option.some.injEq, Prod.mk.injEq, reduceCtorEq] at h <;> obtain ⟨rfl, rfl⟩ := h
  case add => (simp only [binOp, ne_eq, not_true_eq_false, if_false, Op.intArith, Sem.run_pure, SV.den, wrapU IntKind.u64 _ rfl, IntKind.bits, BitVec.toNat_add]; congr 2)
  case sub =>
    simp only [binOp, ne_eq, not_true_eq_false, if_false, Op.intArith, Sem.run_pure, SV.den, wrapU IntKind.u64 _ rfl, IntKind.bits, BitVec.toNat_sub]
    congr 2
    omega
  case mul => (simp only [binOp, ne_eq, not_true_eq_false, if_false, Op.intArith, Sem.run_pure, SV.den, wrapU IntKind.u64 _ rfl, IntKind.bits, BitVec.toNat_mul]; congr 2)
  case quo =>
    have hy0 : ¬ (y.toNat : Int) = 0 := by
      intro e; apply hp; apply BitVec.eq_of_toNat_eq; simpa using e
    simp only [binOp, ne_eq, not_true_eq_false, if_false, Op.intDiv, hy0, Sem.run_pure, SV.den, BitVec.toNat_udiv, ← Int.ofNat_tdiv]
    congr 2
    rw [wrapU_nat _ _ rfl]
    congr 1
    exact Nat.mod_eq_of_lt (Nat.lt_of_le_of_lt (Nat.div_le_self _ _) hx)
  case rem =>
    have hy0 : ¬ (y.toNat : Int) = 0 := by
      intro e; apply hp; apply BitVec.eq_of_toNat_eq; simpa using e
    simp only [binOp, ne_eq, not_true_eq_false, if_false, Op.intDiv, hy0, Sem.run_pure, SV.den, BitVec.toNat_umod]
    congr 2
  case and =>
    simp only [binOp, ne_eq, not_true_eq_false, if_false, Op.intBits, IntKind.bits, ofInt_u64, Sem.run_pure, SV.den]
    rw [wrap_u64_bv]
    rfl
  case or =>
    simp only [binOp, ne_eq, not_true_eq_false, if_false, Op.intBits, IntKind.bits, ofInt_u64, Sem.run_pure, SV.den]
    rw [wrap_u64_bv]
    rfl
  case xor =>
    simp only [binOp, ne_eq, not_true_eq_false, if_false, Op.intBits, IntKind.bits, ofInt_u64, Sem.run_pure, SV.den]
    rw [wrap_u64_bv]
    rfl
  case andNot =>
    simp only [binOp, ne_eq, not_true_eq_false, if_false, Op.intBits, IntKind.bits, ofInt_u64, Sem.run_pure, SV.den]
    rw [wrap_u64_bv]
    rfl
  case eql =>
    simp only [binOp, ne_eq, not_true_eq_false, if_false, Op.intCmp, Sem.run_pure, SV.den]
    congr 2
    rw [Bool.eq_iff_iff]; simp [← BitVec.toNat_inj]; omega
  case neq =>
    simp only [binOp, ne_eq, not_true_eq_false, if_false, Op.intCmp, Sem.run_pure, SV.den]
    congr 2
    rw [Bool.eq_iff_iff]; simp [← BitVec.toNat_inj]; omega
  case lss => simp [binOp, Op.intCmp, SV.den, BitVec.lt_def]
  case leq => simp [binOp, Op.intCmp, SV.den, BitVec.le_def]
  case gtr => simp [binOp, Op.intCmp, SV.den, BitVec.lt_def]
  case geq => simp [binOp, Op.intCmp, SV.den, BitVec.le_def]
/-- shifts by so many -/
def s_u64 (op : BinOp) (x : BitVec 64) (n : Nat) : Option SV :=
  match op with
  | .shl => some (.u64 (x <<< n))
  | .shr => some (.u64 (x >>> n))
  | _ => none
theorem s_u64_run {P : Program} {w : World} {op : BinOp} {x : BitVec 64} {yk : IntKind} {y : Int} {v : SV} (h : s_u64 op x y.toNat = some v) (hp : 0 ≤ y) (T : TypeId) :
    (binOp op T (.int .u64 x.toNat) (.int yk y)).run P w = .ok v.den w := by
  have hx := x.isLt
  have hny : ¬ y < 0 := by omega
  cases op <;> simp only [s_u64, Option.some.injEq, reduceCtorEq] at h <;> subst h
  case shl =>
    simp only [binOp, Op.shift, hny, if_false, Sem.run_pure, SV.den, IntKind.bits, BitVec.toNat_shiftLeft]
    congr 2
    rw [wrapU IntKind.u64 _ rfl]
    simp only [IntKind.bits]
    by_cases hb : y.toNat ≤ 64
    · rw [Nat.min_eq_left hb, Nat.shiftLeft_eq]; norm_cast
    · have e1 : min y.toNat 64 = 64 := by omega
      rw [e1, Nat.shiftLeft_eq]
      have e2 : (2:Nat) ^ y.toNat = 2 ^ 64 * 2 ^ (y.toNat - 64) := by rw [← Nat.pow_add]; congr 1; omega
      rw [e2]
      have e3 : x.toNat * (2 ^ 64 * 2 ^ (y.toNat - 64)) = (x.toNat * 2 ^ (y.toNat - 64)) * 2 ^ 64 := by ac_rfl
      rw [e3, Nat.mul_mod_left]
      simp
  case shr =>
    simp only [binOp, Op.shift, hny, if_false, Sem.run_pure, SV.den, IntKind.bits, BitVec.toNat_ushiftRight]
    congr 2
    rw [Nat.shiftRight_eq_div_pow]
    rw [Int.fdiv_eq_ediv_of_nonneg _ (by exact Int.le_of_lt (Int.pow_pos (by decide)))]
    by_cases hb : y.toNat ≤ 64
    · rw [Nat.min_eq_left hb]; norm_cast
    · have e1 : min y.toNat 64 = 64 := by omega
      rw [e1]
      have : x.toNat / 2 ^ y.toNat = 0 := Nat.div_eq_of_lt (Nat.lt_of_lt_of_le hx (Nat.pow_le_pow_right (by decide) (by omega)))
      rw [this]
      have h2 : x.toNat / 2 ^ 64 = 0 := Nat.div_eq_of_lt hx
      norm_cast


def b_i (op : BinOp) (x y : Int) : Option (List DP × SV) :=
  match op with
  | .add => some ([], .i (IntKind.i64.wrap (x + y)))
  | .sub => some ([], .i (IntKind.i64.wrap (x - y)))
  | .mul => some ([], .i (IntKind.i64.wrap (x * y)))
  | .quo => some ([y ≠ 0], .i (IntKind.i64.wrap (x.tdiv y)))
  | .rem => some ([y ≠ 0], .i (x.tmod y))
  | .eql => some ([], .b (x == y))
  | .neq => some ([], .b (x != y))
  | .lss => some ([], .b (decide (x < y)))
  | .leq => some ([], .b (decide (x ≤ y)))
  | .gtr => some ([], .b (decide (y < x)))
  | .geq => some ([], .b (decide (y ≤ x)))
  | _ => none
theorem b_i_run {P : Program} {w : World} {op : BinOp} {x y : Int} {p : List DP} {v : SV} (h : b_i op x y = some (p, v)) (hp : allP p) (T : TypeId) :
    (binOp op T (.int .i64 x) (.int .i64 y)).run P w = .ok v.den w := by
  cases op <;> simp only [b_i, Option.some.injEq, Prod.mk.injEq, reduceCtorEq] at h <;> obtain ⟨rfl, rfl⟩ := h <;>
    first
    | (have hp : ¬ y = 0 := hp; simp [binOp, Op.intDiv, SV.den, hp]; done)
    | (simp [binOp, Op.intArith, Op.intCmp, SV.den]; done)

def b_i32 (op : BinOp) (x y : Int) : Option (List DP × SV) :=
  match op with
  | .eql => some ([], .b (x == y))
  | .neq => some ([], .b (x != y))
  | .lss => some ([], .b (decide (x < y)))
  | .leq => some ([], .b (decide (x ≤ y)))
  | .gtr => some ([], .b (decide (y < x)))
  | .geq => some ([], .b (decide (y ≤ x)))
  | _ => none
theorem b_i32_run {P : Program} {w : World} {op : BinOp} {x y : Int} {p : List DP} {v : SV} (h : b_i32 op x y = some (p, v)) (hp : allP p) (T : TypeId) :
    (binOp op T (.int .i32 x) (.int .i32 y)).run P w = .ok v.den w := by
  cases op <;> simp only [b_i32, Option.some.injEq, Prod.mk.injEq, reduceCtorEq] at h <;> obtain ⟨rfl, rfl⟩ := h <;>
    (simp [binOp, Op.intCmp, SV.den]; done)

def s_i (op : BinOp) (x : Int) (n : Nat) : Option SV :=
  match op with
  | .shl => some (.i (IntKind.i64.wrap (x * 2 ^ (min n 64))))
  | .shr => some (.i (x.fdiv (2 ^ (min n 64))))
  | _ => none
theorem s_i_run {P : Program} {w : World} {op : BinOp} {x : Int} {yk : IntKind} {y : Int} {v : SV} (h : s_i op x y.toNat = some v) (hp : 0 ≤ y) (T : TypeId) :
    (binOp op T (.int .i64 x) (.int yk y)).run P w = .ok v.den w := by
  have hny : ¬ y < 0 := by omega
  cases op <;> simp only [s_i, Option.some.injEq, reduceCtorEq] at h <;> subst h <;>
    simp [binOp, Op.shift, hny, SV.den, IntKind.bits]

/-- an amount to shift by: precondition and number -/
def amt : SV → Option (List DP × Nat)
  | .u8 x => some ([], x.toNat)
  | .u16 x => some ([], x.toNat)
  | .u32 x => some ([], x.toNat)
  | .u64 x => some ([], x.toNat)
  | .i n => some ([0 ≤ n], n.toNat)
  | _ => none
theorem amt_den {y : SV} {p : List DP} {n : Nat} (h : amt y = some (p, n)) (hp : allP p) : ∃ k z, y.den = .int k z ∧ 0 ≤ z ∧ z.toNat = n := by
  cases y <;> simp only [amt, Option.some.injEq, Prod.mk.injEq, reduceCtorEq] at h <;> obtain ⟨rfl, rfl⟩ := h
  case i n => exact ⟨_, _, rfl, hp, rfl⟩
  all_goals exact ⟨_, _, rfl, Int.natCast_nonneg _, by simp⟩

def isShift : BinOp → Bool
  | .shl | .shr => true
  | _ => false

/-- an operator on two numbers or bools: precondition and result -/
def binS (op : BinOp) (x y : SV) : Option (List DP × SV) :=
  if isShift op then
    match amt y with
    | none => none
    | some (p, n) =>
      match x with
      | .u8 a => (s_u8 op a n).map fun v => (p, v)
      | .u16 a => (s_u16 op a n).map fun v => (p, v)
      | .u32 a => (s_u32 op a n).map fun v => (p, v)
      | .u64 a => (s_u64 op a n).map fun v => (p, v)
      | .i a => (s_i op a n).map fun v => (p, v)
      | _ => none
  else
    match x, y with
    | .u8 a, .u8 b => b_u8 op a b
    | .u16 a, .u16 b => b_u16 op a b
    | .u32 a, .u32 b => b_u32 op a b
    | .u64 a, .u64 b => b_u64 op a b
    | .i a, .i b => b_i op a b
    | .i32 a, .i32 b => b_i32 op a b
    | _, _ => none

theorem eqGuard_int {P : Program} {w : World} (op : BinOp) (T : TypeId) (ox oy : Operand) (k : IntKind) (n : Int) (y : Value) :
    (eqGuard op T ox oy (.int k n) y).run P w = .ok () w := by
  cases op <;> rfl

theorem binS_run {P : Program} {w : World} {op : BinOp} {x y : SV} {p : List DP} {v : SV} (h : binS op x y = some (p, v)) (hp : allP p) (T : TypeId) (ox oy : Operand) :
    (do eqGuard op T ox oy x.den y.den; binOp op T x.den y.den : Sem Value).run P w = .ok v.den w := by
  unfold binS at h
  split at h
  · rename_i hs
    split at h
    · exact absurd h (by simp)
    · rename_i q n hq
      cases x <;> simp only [Option.map_eq_some_iff, Prod.mk.injEq, reduceCtorEq] at h <;> obtain ⟨v', hv, rfl, rfl⟩ := h <;>
        (obtain ⟨k, z, e1, e2, rfl⟩ := amt_den hq hp
         rw [e1, Sem.run_bind]
         simp only [SV.den]
         rw [eqGuard_int]
         first
         | exact s_u8_run hv e2 T
         | exact s_u16_run hv e2 T
         | exact s_u32_run hv e2 T
         | exact s_u64_run hv e2 T
         | exact s_i_run hv e2 T)
  · split at h <;> first
      | exact absurd h (by simp)
      | (rw [Sem.run_bind]
         simp only [SV.den]
         rw [eqGuard_int]
         first
         | exact b_u8_run h hp T
         | exact b_u16_run h hp T
         | exact b_u32_run h hp T
         | exact b_u64_run h hp T
         | exact b_i_run h hp T
         | exact b_i32_run h hp T)

/-- turned into another kind of whole number -/
def convS (k : IntKind) (x : SV) : Option SV :=
  match k, x with
  | .u8, .u8 x => some (.u8 x) | .u8, .u16 x => some (.u8 (x.setWidth 8)) | .u8, .u32 x => some (.u8 (x.setWidth 8)) | .u8, .u64 x => some (.u8 (x.setWidth 8))
  | .u16, .u8 x => some (.u16 (x.setWidth 16)) | .u16, .u16 x => some (.u16 x) | .u16, .u32 x => some (.u16 (x.setWidth 16)) | .u16, .u64 x => some (.u16 (x.setWidth 16))
  | .u32, .u8 x => some (.u32 (x.setWidth 32)) | .u32, .u16 x => some (.u32 (x.setWidth 32)) | .u32, .u32 x => some (.u32 x) | .u32, .u64 x => some (.u32 (x.setWidth 32))
  | .u64, .u8 x => some (.u64 (x.setWidth 64)) | .u64, .u16 x => some (.u64 (x.setWidth 64)) | .u64, .u32 x => some (.u64 (x.setWidth 64)) | .u64, .u64 x => some (.u64 x)
  | .u8, .i z => some (.u8 (BitVec.ofInt 8 z)) | .u16, .i z => some (.u16 (BitVec.ofInt 16 z)) | .u32, .i z => some (.u32 (BitVec.ofInt 32 z)) | .u64, .i z => some (.u64 (BitVec.ofInt 64 z))
  | .i64, .i z => some (.i (IntKind.i64.wrap z))
  | .i64, .u8 x => some (.i x.toNat) | .i64, .u16 x => some (.i x.toNat) | .i64, .u32 x => some (.i x.toNat)
  | .i64, .u64 x => some (.i (IntKind.i64.wrap x.toNat))
  | _, _ => none
theorem convS_run {P : Program} {w : World} {k : IntKind} {x v : SV} (h : convS k x = some v) : ∃ k' z, x.den = .int k' z ∧ (Conv.intToInt k z).run P w = .ok v.den w := by
  cases k <;> cases x <;> simp only [convS, Option.some.injEq, reduceCtorEq] at h <;> subst h <;> refine ⟨_, _, rfl, ?_⟩ <;>
    simp only [Conv.intToInt, Sem.run_pure, SV.den] <;> congr 2
  all_goals first
    | exact wrap_u8_bv _
    | exact wrap_u16_bv _
    | exact wrap_u32_bv _
    | exact wrap_u64_bv _
    | (rw [wrapU_nat _ _ rfl]; simp [IntKind.bits]; done)
    | (rw [wrapU _ _ rfl]; simp [IntKind.bits, BitVec.toNat_ofInt]; omega)
    | skip
  case i64.u8 x => have := x.isLt; rw [IntWalk.i64_in _ (by omega)]
  case i64.u16 x => have := x.isLt; rw [IntWalk.i64_in _ (by omega)]
  case i64.u32 x => have := x.isLt; rw [IntWalk.i64_in _ (by omega)]

end Go.Eng
