/- One table for all families: which tag has which tree, and a check that the program's types fit. -/
import Derived.Test.YtgongenkdkiifaaGreatDoorEngX7
import Derived.Test.YtgongenkdkiifaaGreatDoorEng12
set_option linter.unusedSimpArgs false
set_option linter.unusedVariables false
namespace Go.Eng
variable {P : Program}

inductive XS where
  | len | min | max | real | imag | cplx | fcmp (op : BinOp) | i2f | f2i
  | nils (neg : Bool) | nilp (neg : Bool) | str (neg : Bool)
  | agg (ks : List (IK × Nat)) (neg : Bool)
  | slice (sz : Nat) (lo hi : Bool)
  | bsl (sz n : Nat) (is : List Nat) (zs : List SV) (e : TypeId)
  | app (sz by' : Nat) (e : TypeId)
  | s2b (e : TypeId)
  | mksl (zs : List SV) (by' : Nat) (e : TypeId)
  | mkmap
  | lookup (K : KK) (zero : SV) (ok : Bool)
  | update (K : KK)
  | slca (n sz : Nat) (lo hi : Bool)
  | appz (sz by' : Nat) (e : TypeId) (zs : List SV)
def XS.sp : XS → Spec MapC
  | .len => pureSp lenF
  | .min => pureSp minF
  | .max => pureSp maxF
  | .real => pureSp realF
  | .imag => pureSp imagF
  | .cplx => pureSp complexF
  | .fcmp op => pureSp (fcmpF op)
  | .i2f => pureSp Eng.i2f
  | .f2i => pureSp Eng.f2i
  | .nils neg => pureSp (nilF neg)
  | .nilp neg => pureSp (nilpF neg)
  | .str neg => pureSp (strF neg)
  | .agg ks neg => pureSp (aggF ks neg)
  | .slice sz lo hi => pureSp (sliceF sz lo hi)
  | .bsl sz n is zs e => bslR sz n is zs e
  | .app sz by' e => appR sz by' e
  | .s2b e => s2bR e
  | .mksl zs by' e => mkslR zs by' e
  | .mkmap => mkmapR
  | .lookup K zero ok => lookupR K zero ok
  | .update K => updateR K
  | .slca n sz lo hi => pureSp (sliceaF n sz lo hi)
  | .appz sz by' e zs => appzR sz by' e zs

def eqlTag (neg : Bool) (t : XTag) (f : TypeId → Bool) : Bool :=
  match t, neg with
  | .bin .eql T _, false => f T
  | .bin .neq T _, true => f T
  | _, _ => false
def kkB (P : Program) (K : KK) (T : TypeId) : Bool :=
  decide (leafAt P 40 T = some (expand K.ks)) && P.keyTypeAt 40 T && isAggT (P.underlying T) == K.agg && (expand K.ks).length == P.cellsOf T &&
    (K.agg || (match K.ks with | [(.int q, 1)] => undB P T (fun d => match d with | .int q' => decide (q = q') | _ => false) | _ => false))
def zrB (P : Program) (e : TypeId) (f : TypeInfo → Value → Bool) : Bool := infoB P e fun i => match i.zero with | some z => f i z | none => false
def fltB : TypeDesc → Bool | .float .f64 => true | _ => false
def txtB : TypeDesc → Bool | .string => true | _ => false
def ptrB : TypeDesc → Bool | .pointer _ => true | _ => false
def mapB (q : TypeId → TypeId → Bool) : TypeDesc → Bool | .map k e => q k e | _ => false
theorem fltB_elim {d : TypeDesc} (h : fltB d = true) : d = .float .f64 := by
  unfold fltB at h; split at h
  · rfl
  · simp at h
theorem txtB_elim {d : TypeDesc} (h : txtB d = true) : d = .string := by cases d <;> simp [txtB] at h; rfl
theorem ptrB_elim {d : TypeDesc} (h : ptrB d = true) : ∃ e, d = .pointer e := by cases d <;> simp [ptrB] at h; exact ⟨_, rfl⟩
theorem mapB_elim {q : TypeId → TypeId → Bool} {d : TypeDesc} (h : mapB q d = true) : ∃ k e, d = .map k e ∧ q k e = true := by cases d <;> simp [mapB] at h; exact ⟨_, _, rfl, h⟩
theorem zrB_elim {e : TypeId} {f : TypeInfo → Value → Bool} (h : zrB P e f = true) : ∃ i z, P.info? e = some i ∧ i.zero = some z ∧ f i z = true := by
  obtain ⟨i, h1, h2⟩ := infoB_elim h
  split at h2
  · exact ⟨i, _, h1, ‹_›, h2⟩
  · simp at h2
def tagB (t u : XTag) : Bool := decide (t = u)
theorem kkB_elim {K : KK} {T : TypeId} (h : kkB P K T = true) : K.Ok P T := by
  simp only [kkB, Bool.and_eq_true, decide_eq_true_eq, beq_iff_eq, Bool.or_eq_true] at h
  obtain ⟨⟨⟨⟨h1, h2⟩, h3⟩, h4⟩, h5⟩ := h
  refine ⟨40, 39, h1, by decide, h2, h3, h4, ?_⟩
  intro hag
  rcases h5 with h5 | h5
  · rw [hag] at h5; simp at h5
  · split at h5
    · rename_i q hq
      obtain ⟨d, h6, h7⟩ := undB_elim h5
      refine ⟨q, hq, ?_⟩
      split at h7
      · simp only [decide_eq_true_eq] at h7; subst h7; exact h6
      · simp at h7
    · simp at h5
def aggB (P : Program) (ks : List (IK × Nat)) (T : TypeId) : Bool :=
  decide (leafAt P 40 T = some (expand ks)) && P.keyTypeAt 40 T && isAggT (P.underlying T) && (expand ks).length == P.cellsOf T && !P.eqGuardType P.depth T
def okX (P : Program) (t : XTag) : XS → Bool
  | .len => match t with | .bi .len [T] => undB P T (sliceB fun _ => true) | _ => false
  | .min => match t with | .bi .min _ => true | _ => false
  | .max => match t with | .bi .max _ => true | _ => false
  | .real => match t with | .bi .real _ => true | _ => false
  | .imag => match t with | .bi .imag _ => true | _ => false
  | .cplx => match t with | .bi .complex _ => true | _ => false
  | .fcmp op => match t with | .bin op' _ _ => decide (op' = op) | _ => false
  | .i2f => match t with | .conv S T => undB P S (intB .i64) && undB P T fltB | _ => false
  | .f2i => match t with | .conv S T => undB P S fltB && undB P T (intB .i64) | _ => false
  | .nils neg => eqlTag neg t fun T => undB P T (sliceB fun _ => true)
  | .nilp neg => eqlTag neg t fun T => undB P T ptrB
  | .str neg => eqlTag neg t fun T => undB P T txtB
  | .agg ks neg => eqlTag neg t fun T => aggB P ks T
  | .slice sz lo hi => match t with | .slice T lo' hi' => (lo' == lo) && (hi' == hi) && undB P T (sliceB fun e => infoB P e fun i => i.size == sz) | _ => false
  | .bsl sz n is zs e => match t with | .bsl T n' is' => n' == n && decide (is' = is) && undB P T (sliceB fun e' => e' == e && zrB P e' fun i z => i.size == sz && decide (n * sz ≤ 16777216) && eqVL (zeroRow P e' n) zs) | _ => false
  | .app sz by' e => match t with | .bi .append [T, T'] => T' == T && undB P T (sliceB fun e' => e' == e && zrB P e' fun i z => i.size == sz && i.bytes == by' && z.cells.size == sz && decide (0 < sz)) | _ => false
  | .s2b e => match t with | .conv S T => undB P S txtB && undB P T (sliceB fun e' => e' == e && undB P e' (intB .u8)) | _ => false
  | .mksl zs by' e => match t with | .mksl T => undB P T (sliceB fun e' => e' == e && zrB P e' fun i z => i.bytes == by' && z.cells.size == i.size && decide (0 < i.size) && eqVL z.cells.toList zs) | _ => false
  | .mkmap => match t with | .mkmap _ => true | _ => false
  | .lookup K zero ok => match t with | .lookup T ok' => (ok' == ok) && undB P T (mapB fun k e => kkB P K k && zrB P e fun i z => eqVal z zero) | _ => false
  | .update K => match t with | .update T => undB P T (mapB fun k e => kkB P K k) | _ => false
  | .slca n sz lo hi => match t with | .slice T lo' hi' => (lo' == lo) && (hi' == hi) && undB P T (arrayB fun n' e => n' == n && infoB P e fun i => i.size == sz) | _ => false
  | .appz sz by' e zs => match t with | .bi .append [T, T'] => undB P T' (fun d => match d with | .int _ => true | _ => false) && undB P T (sliceB fun e' => e' == e && zrB P e' fun i z => i.size == sz && i.bytes == by' && z.cells.size == sz && decide (0 < sz) && eqVL z.cells.toList zs) | _ => false
where
  eqVal (z : Value) (v : SV) : Bool := match z, v with
    | .agg cs, .agg vs => eqVL cs.toList vs
    | .agg cs, .r8 n f => eqVL cs.toList [.r8 n f]
    | .agg cs, .r32 n f => eqVL cs.toList [.r32 n f]
    | .agg cs, .r64 n f => eqVL cs.toList [.r64 n f]
    | .agg _, _ => false
    | z, .agg _ => false
    | z, v => eqV z v
theorem eqVal_den {z : Value} {v : SV} (h : okX.eqVal z v = true) : z = v.den := by
  unfold okX.eqVal at h
  split at h
  · rename_i cs vs
    have := eqVL_den h
    have e : (SV.agg vs).den = .agg (cellsL vs).toArray := by simp [SV.den, cellsL]
    rw [e, ← this]
  · rename_i cs n f
    have := eqVL_den h
    rw [segsOf_den (v := .r8 n f) rfl, ← this]
  · rename_i cs n f
    have := eqVL_den h
    rw [segsOf_den (v := .r32 n f) rfl, ← this]
  · rename_i cs n f
    have := eqVL_den h
    rw [segsOf_den (v := .r64 n f) rfl, ← this]
  · simp at h
  · simp at h
  · exact eqV_den h
theorem eqlTag_elim {neg : Bool} {t : XTag} {f : TypeId → Bool} (h : eqlTag neg t f = true) : ∃ T T', f T = true ∧ t = .bin (match neg with | true => .neq | false => .eql) T T' := by
  unfold eqlTag at h
  split at h
  · exact ⟨_, _, h, rfl⟩
  · exact ⟨_, _, h, rfl⟩
  · simp at h
theorem okX_ok {t : XTag} {x : XS} (h : okX P t x = true) : XOk rhoM P t x.sp := by
  cases x <;> simp only [okX] at h
  case len =>
    split at h
    · obtain ⟨d, h1, h2⟩ := undB_elim h
      obtain ⟨e, rfl, _⟩ := sliceB_elim h2
      exact xok_len h1
    · simp at h
  case min => split at h; exact xok_min; simp at h
  case max => split at h; exact xok_max; simp at h
  case real => split at h; exact xok_real; simp at h
  case imag => split at h; exact xok_imag; simp at h
  case cplx => split at h; exact xok_complex; simp at h
  case fcmp op =>
    split at h
    · simp only [decide_eq_true_eq] at h; subst h; exact xok_fcmp
    · simp at h
  case i2f =>
    split at h
    · simp only [Bool.and_eq_true] at h
      obtain ⟨d, h1, h2⟩ := undB_elim h.1
      obtain ⟨d', h3, h4⟩ := undB_elim h.2
      have := intB_elim h2; subst this
      have := fltB_elim h4; subst this
      exact xok_i2f h1 h3
    · simp at h
  case f2i =>
    split at h
    · simp only [Bool.and_eq_true] at h
      obtain ⟨d, h1, h2⟩ := undB_elim h.1
      obtain ⟨d', h3, h4⟩ := undB_elim h.2
      have := fltB_elim h2; subst this
      have := intB_elim h4; subst this
      exact xok_f2i h1 h3
    · simp at h
  case nils neg =>
    obtain ⟨T, T', h', rfl⟩ := eqlTag_elim h
    clear h; have h := h'
    obtain ⟨d, h1, h2⟩ := undB_elim h
    obtain ⟨e, rfl, _⟩ := sliceB_elim h2
    cases neg
    · exact (xok_nils h1).1
    · exact (xok_nils h1).2
  case nilp neg =>
    obtain ⟨T, T', h', rfl⟩ := eqlTag_elim h
    clear h; have h := h'
    obtain ⟨d, h1, h2⟩ := undB_elim h
    obtain ⟨e, rfl⟩ := ptrB_elim h2
    cases neg
    · exact (xok_nilp h1).1
    · exact (xok_nilp h1).2
  case str neg =>
    obtain ⟨T, T', h', rfl⟩ := eqlTag_elim h
    clear h; have h := h'
    obtain ⟨d, h1, h2⟩ := undB_elim h
    have := txtB_elim h2; subst this
    cases neg
    · exact (xok_str h1).1
    · exact (xok_str h1).2
  case agg ks neg =>
    obtain ⟨T, T', h', rfl⟩ := eqlTag_elim h
    clear h; have h := h'
    simp only [aggB, Bool.and_eq_true, decide_eq_true_eq, beq_iff_eq, Bool.not_eq_true'] at h
    obtain ⟨⟨⟨⟨h1, h2⟩, h3⟩, h4⟩, h5⟩ := h
    cases neg
    · exact (xok_agg h1 (by decide) h2 h3 h4 h5).1
    · exact (xok_agg h1 (by decide) h2 h3 h4 h5).2
  case slice sz lo hi =>
    split at h
    · simp only [Bool.and_eq_true, beq_iff_eq] at h
      obtain ⟨⟨rfl, rfl⟩, h⟩ := h
      obtain ⟨d, h1, h2⟩ := undB_elim h
      obtain ⟨e, rfl, h3⟩ := sliceB_elim h2
      obtain ⟨i, h4, h5⟩ := infoB_elim h3
      exact xok_slice h1 h4 (by simpa using h5)
    · simp at h
  case bsl sz n is zs e =>
    split at h
    · simp only [Bool.and_eq_true, beq_iff_eq, decide_eq_true_eq] at h
      obtain ⟨⟨rfl, rfl⟩, h⟩ := h
      obtain ⟨d, h1, h2⟩ := undB_elim h
      obtain ⟨e', rfl, h3⟩ := sliceB_elim h2
      simp only [Bool.and_eq_true, beq_iff_eq] at h3
      obtain ⟨rfl, h3⟩ := h3
      obtain ⟨i, z, h4, h5, h6⟩ := zrB_elim h3
      simp only [Bool.and_eq_true, beq_iff_eq, decide_eq_true_eq] at h6
      exact xok_bsl h1 h4 h5 h6.1.1 (by omega) h6.2
    · simp at h
  case app sz by' e =>
    split at h
    · simp only [Bool.and_eq_true, beq_iff_eq] at h
      obtain ⟨rfl, h⟩ := h
      obtain ⟨d, h1, h2⟩ := undB_elim h
      obtain ⟨e', rfl, h3⟩ := sliceB_elim h2
      simp only [Bool.and_eq_true, beq_iff_eq] at h3
      obtain ⟨rfl, h3⟩ := h3
      obtain ⟨i, z, h4, h5, h6⟩ := zrB_elim h3
      simp only [Bool.and_eq_true, beq_iff_eq, decide_eq_true_eq] at h6
      exact xok_append h1 h4 h5 h6.1.1.1 h6.1.1.2 h6.1.2 h6.2
    · simp at h
  case s2b e =>
    split at h
    · simp only [Bool.and_eq_true] at h
      obtain ⟨d, h1, h2⟩ := undB_elim h.1
      obtain ⟨d', h3, h4⟩ := undB_elim h.2
      have := txtB_elim h2; subst this
      obtain ⟨e', rfl, h5⟩ := sliceB_elim h4
      simp only [Bool.and_eq_true, beq_iff_eq] at h5
      obtain ⟨rfl, h5⟩ := h5
      obtain ⟨d, h6, h7⟩ := undB_elim h5
      have := intB_elim h7; subst this
      exact xok_s2b h1 h3 h6
    · simp at h
  case mksl zs by' e =>
    split at h
    · obtain ⟨d, h1, h2⟩ := undB_elim h
      obtain ⟨e', rfl, h3⟩ := sliceB_elim h2
      simp only [Bool.and_eq_true, beq_iff_eq] at h3
      obtain ⟨rfl, h3⟩ := h3
      obtain ⟨i, z, h4, h5, h6⟩ := zrB_elim h3
      simp only [Bool.and_eq_true, beq_iff_eq, decide_eq_true_eq] at h6
      exact xok_mksl h1 h4 h5 h6.1.1.1 h6.1.1.2 h6.1.2 h6.2
    · simp at h
  case mkmap => split at h; exact xok_mkmap; simp at h
  case lookup K zero ok =>
    split at h
    · simp only [Bool.and_eq_true, beq_iff_eq] at h
      obtain ⟨rfl, h⟩ := h
      obtain ⟨d, h1, h2⟩ := undB_elim h
      obtain ⟨k, e, rfl, h3⟩ := mapB_elim h2
      simp only [Bool.and_eq_true] at h3
      obtain ⟨i, z, h4, h5, h6⟩ := zrB_elim h3.2
      exact xok_lookup h1 (kkB_elim h3.1) h4 h5 (eqVal_den h6)
    · simp at h
  case update K =>
    split at h
    · obtain ⟨d, h1, h2⟩ := undB_elim h
      obtain ⟨k, e, rfl, h3⟩ := mapB_elim h2
      exact xok_update h1 (kkB_elim h3)
    · simp at h
  case slca n sz lo hi =>
    split at h
    · simp only [Bool.and_eq_true, beq_iff_eq] at h
      obtain ⟨⟨rfl, rfl⟩, h⟩ := h
      obtain ⟨d, h1, h2⟩ := undB_elim h
      obtain ⟨n', e, rfl, h3⟩ := arrayB_elim h2
      simp only [Bool.and_eq_true, beq_iff_eq] at h3
      obtain ⟨rfl, h3⟩ := h3
      obtain ⟨i, h4, h5⟩ := infoB_elim h3
      exact xok_slicea h1 h4 (by simpa using h5)
    · simp at h
  case appz sz by' e zs =>
    split at h
    · simp only [Bool.and_eq_true, beq_iff_eq] at h
      obtain ⟨h0, h⟩ := h
      obtain ⟨d0, h7, h8⟩ := undB_elim h0
      obtain ⟨d, h1, h2⟩ := undB_elim h
      obtain ⟨e', rfl, h3⟩ := sliceB_elim h2
      simp only [Bool.and_eq_true, beq_iff_eq] at h3
      obtain ⟨rfl, h3⟩ := h3
      obtain ⟨i, z, h4, h5, h6⟩ := zrB_elim h3
      simp only [Bool.and_eq_true, beq_iff_eq, decide_eq_true_eq] at h6
      cases d0 <;> simp at h8
      exact xok_appz h1 h7 h4 h5 h6.1.1.1.1 h6.1.1.1.2 h6.1.1.2 h6.1.2 h6.2
    · simp at h
/-- the table -/
def findX : List (XTag × XS) → XTag → Option (Spec MapC)
  | [], _ => none
  | (t, x) :: l, u => match tagB t u with | true => some x.sp | false => findX l u
theorem findX_ok : ∀ {l : List (XTag × XS)}, (l.all fun p => okX P p.1 p.2) = true → ∀ t sp, findX l t = some sp → XOk rhoM P t sp := by
  intro l
  induction l with
  | nil => intro _ t sp h; simp [findX] at h
  | cons p l ih =>
    intro h t sp ht
    simp only [List.all_cons, Bool.and_eq_true] at h
    obtain ⟨t', x⟩ := p
    simp only [findX] at ht
    cases hb : tagB t' t with
    | true =>
      rw [hb] at ht
      simp only [Option.some.injEq] at ht
      subst ht
      simp only [tagB, decide_eq_true_eq] at hb
      subst hb
      exact okX_ok h.1
    | false => rw [hb] at ht; exact ih h.2 t sp ht
end Go.Eng
