/- Each operation does what its tree says. -/
import Derived.Test.YtgongenkdkiifaaGreatDoorEng5
namespace Go.Eng
variable {U : Type} {ρ : U → Nat → Hp → Prop} {P : Program} {N : Nat} {o : Oper}

theorem add_none (n off j : Nat) : (⟨n, off, none⟩ : Addr).add j = ⟨n, off + j, none⟩ := by
  unfold Addr.add; split
  · rename_i h; subst h; rfl
  · rfl

theorem cell_of {w : World} {n : Nat} {l : List Value} {T : TypeId} {fr : Nat × Nat} (h : w.heap[n]? = some (.cells l.toArray T fr)) (j : Nat) : w.cell? ⟨n, j, none⟩ = l[j]? := by
  simp [World.cell?, h]

theorem hp_push (w : World) (o : Obj) : hp { w with heap := w.heap.push o } = fun b => if b = w.heap.size then some o else hp w b := by
  funext b
  simp only [hp, Array.getElem?_push]
theorem hp_size (w : World) : hp w w.heap.size = none := by simp [hp]
theorem hp_setRow {w : World} {n : Nat} {old : Array Value} {T : TypeId} (cs : Array Value) (h : w.heap[n]? = some (.cells old T)) :
    hp (w.setRow n cs) = fun b => if b = n then some (.cells cs T) else hp w b := by
  funext b
  by_cases e : b = n
  · subst e; simp [hp, setRow_heap w b old cs T (0, 0) h]
  · simp [hp, setRow_other w n b cs e, e]

theorem info_run {t : TypeId} {i : TypeInfo} (h : P.info? t = some i) (w : World) : (typeInfo t).run P w = .ok i w := by
  simp [typeInfo, h]

section simple
variable {x z u : Operand} {y v y' : Opd}

theorem ok_mov (hop : o.op = .move x ∨ o.op = .assign x) (hx : chkOpd x y = true) (hd : ∀ d, o.dst = some d → d < N) : CoreOk ρ P N o (tMov y) := by
  intro F c D s a w K Q hs hsafe hK
  obtain ⟨v, hv, h1, h2⟩ := rd_elim hx hs hsafe
  obtain ⟨α, β, p⟩ := h2 _ _ _ .ret
  exact core_value hs hd hK p (by rcases hop with hop | hop <;> simp [execOp, hop, hv]) hs.same_heap hs.same

theorem ok_pick (hop : o.op = .pick x z u) (hx : chkOpd x y = true) (hz : chkOpd z v = true) (hu : chkOpd u y' = true) (hd : ∀ d, o.dst = some d → d < N) : CoreOk ρ P N o (tPick y v y') := by
  intro F c D s a w K Q hs hsafe hK
  obtain ⟨v1, hv1, s1, p1⟩ := rd_elim hx hs hsafe
  cases v1 <;> try exact s1.elim
  case b t =>
    obtain ⟨v2, hv2, s2, p2⟩ := rd_elim hz hs s1
    obtain ⟨v3, hv3, s3, p3⟩ := rd_elim hu hs s2
    cases t with
    | true =>
      obtain ⟨_, _, q3⟩ := p3 _ _ _ (.brT rfl .ret)
      obtain ⟨_, _, q2⟩ := p2 _ _ _ q3
      obtain ⟨_, _, q1⟩ := p1 _ _ _ q2
      exact core_value hs hd hK q1 (by simp [execOp, hop, hv1, hv2, SV.den, asBool]) hs.same_heap hs.same
    | false =>
      obtain ⟨_, _, q3⟩ := p3 _ _ _ (.brF rfl .ret)
      obtain ⟨_, _, q2⟩ := p2 _ _ _ q3
      obtain ⟨_, _, q1⟩ := p1 _ _ _ q2
      exact core_value hs hd hK q1 (by simp [execOp, hop, hv1, hv3, SV.den, asBool]) hs.same_heap hs.same

theorem optR_elim {s : St U} {q : Option (List DP × SV)} (h : Safe (optR q : R U) s) : ∃ p v, q = some (p, v) ∧ allP p ∧ Path (optR q : R U) s [] [] (v, []) := by
  cases q with
  | none => exact h.elim
  | some x => obtain ⟨p, v⟩ := x; obtain ⟨hp, h⟩ := asrts_safe h; exact ⟨p, v, rfl, hp, asrts_path hp .ret⟩
theorem oneR_elim {s : St U} {q : Option SV} (h : Safe (oneR q : R U) s) : ∃ v, q = some v ∧ Path (oneR q : R U) s [] [] (v, []) := by
  cases q with
  | none => exact h.elim
  | some v => exact ⟨v, rfl, .ret⟩

theorem ok_bin {op : BinOp} {T T' : TypeId} (hop : o.op = .binOp op T x z T') (hx : chkOpd x y = true) (hz : chkOpd z v = true) (hd : ∀ d, o.dst = some d → d < N) : CoreOk ρ P N o (tBin op y v) := by
  intro F c D s a w K Q hs hsafe hK
  obtain ⟨v1, hv1, s1, p1⟩ := rd_elim hx hs hsafe
  obtain ⟨v2, hv2, s2, p2⟩ := rd_elim hz hs s1
  obtain ⟨p, r, hr, hp', q3⟩ := optR_elim s2
  obtain ⟨_, _, q2⟩ := p2 _ _ _ q3
  obtain ⟨_, _, q1⟩ := p1 _ _ _ q2
  refine core_value hs hd hK q1 ?_ hs.same_heap hs.same
  have := binS_run (P := P) (w := w) hr hp' T x z
  simp only [execOp, hop, hv1, hv2]
  rw [Sem.run_bind, this]
  rfl

theorem unS_run {op : UnOp} {x v : SV} {w : World} (h : unS op x = some v) : (Op.unary op x.den).run P w = .ok v.den w := by
  cases op <;> cases x <;> simp only [unS, Option.some.injEq, reduceCtorEq] at h <;> subst h
  case neg.i n => simp [Op.unary, Op.intArith, SV.den]
  case neg.u32 n =>
    have := n.isLt
    simp only [Op.unary, Op.intArith, SV.den, Sem.run_pure, wrapU IntKind.u32 _ rfl, IntKind.bits, BitVec.toNat_neg]
    congr 2
    omega
  case neg.u64 n =>
    have := n.isLt
    simp only [Op.unary, Op.intArith, SV.den, Sem.run_pure, wrapU IntKind.u64 _ rfl, IntKind.bits, BitVec.toNat_neg]
    congr 2
    omega
  case xor.u32 n =>
    simp only [Op.unary, Op.intBits, SV.den, Sem.run_pure, IntKind.signed, Bool.false_eq_true, if_false, IntKind.bits, ofInt_u32]
    have e : BitVec.ofInt 32 IntKind.u32.max ^^^ n = ~~~n := by
      have : BitVec.ofInt 32 IntKind.u32.max = BitVec.allOnes 32 := by decide
      rw [this, BitVec.allOnes_xor]
    show Result.ok (Value.int IntKind.u32 (IntKind.u32.wrap ((BitVec.ofInt 32 IntKind.u32.max ^^^ n : BitVec 32).toNat : Int))) w = _
    rw [e, wrap_u32_bv]
  case xor.u64 n =>
    simp only [Op.unary, Op.intBits, SV.den, Sem.run_pure, IntKind.signed, Bool.false_eq_true, if_false, IntKind.bits, ofInt_u64]
    have e : BitVec.ofInt 64 IntKind.u64.max ^^^ n = ~~~n := by
      have : BitVec.ofInt 64 IntKind.u64.max = BitVec.allOnes 64 := by decide
      rw [this, BitVec.allOnes_xor]
    show Result.ok (Value.int IntKind.u64 (IntKind.u64.wrap ((BitVec.ofInt 64 IntKind.u64.max ^^^ n : BitVec 64).toNat : Int))) w = _
    rw [e, wrap_u64_bv]
  case not.b t => simp [Op.unary, SV.den]

theorem ok_un {op : UnOp} {T : TypeId} (hop : o.op = .unOp op T x) (hx : chkOpd x y = true) (hd : ∀ d, o.dst = some d → d < N) : CoreOk ρ P N o (tUn op y) := by
  intro F c D s a w K Q hs hsafe hK
  obtain ⟨v1, hv1, s1, p1⟩ := rd_elim hx hs hsafe
  obtain ⟨r, hr, q2⟩ := oneR_elim s1
  obtain ⟨_, _, q1⟩ := p1 _ _ _ q2
  refine core_value hs hd hK q1 ?_ hs.same_heap hs.same
  simp only [execOp, hop, hv1]
  rw [Sem.run_bind, unS_run hr]
  rfl

theorem ok_conv {S T : TypeId} {k : IntKind} {dS : TypeDesc} (hop : o.op = .convert S T x) (hS : P.underlying S = some dS) (hT : P.underlying T = some (.int k)) (hx : chkOpd x y = true) (hd : ∀ d, o.dst = some d → d < N) :
    CoreOk ρ P N o (tConv k y) := by
  intro F c D s a w K Q hs hsafe hK
  obtain ⟨v1, hv1, s1, p1⟩ := rd_elim hx hs hsafe
  obtain ⟨r, hr, q2⟩ := oneR_elim s1
  obtain ⟨_, _, q1⟩ := p1 _ _ _ q2
  refine core_value hs hd hK q1 ?_ hs.same_heap hs.same
  obtain ⟨k', z, e1, e2⟩ := convS_run (P := P) (w := w) hr
  simp only [execOp, hop, hv1, e1, convert, Sem.run_bind, run_underlying hS, run_underlying hT, Result.andThen_ok]
  rw [e2]
  rfl

theorem ok_nil (hop : o.op = .nilCheck x) (hx : chkOpd x y = true) (hd : ∀ d, o.dst = some d → d < N) : CoreOk ρ P N o (tNil y) := by
  intro F c D s a w K Q hs hsafe hK
  obtain ⟨v1, hv1, s1, p1⟩ := rd_elim hx hs hsafe
  cases v1 <;> try exact s1.elim
  case ptr k n b off =>
    obtain ⟨_, _, q1⟩ := p1 _ _ _ .ret
    exact core_value hs hd hK q1 (by simp [execOp, hop, hv1, SV.den]) hs.same_heap hs.same
  case fn f cs =>
    obtain ⟨_, _, q1⟩ := p1 _ _ _ .ret
    exact core_value hs hd hK q1 (by simp [execOp, hop, hv1, SV.den]) hs.same_heap hs.same

theorem ok_ext {j : Nat} (hop : o.op = .extract x j) (hx : chkOpd x y = true) (hd : ∀ d, o.dst = some d → d < N) : CoreOk ρ P N o (tExt j y) := by
  intro F c D s a w K Q hs hsafe hK
  obtain ⟨v1, hv1, s1, p1⟩ := rd_elim hx hs hsafe
  cases v1 <;> try exact s1.elim
  case tup vs =>
    obtain ⟨r, hr, q2⟩ := oneR_elim s1
    obtain ⟨_, _, q1⟩ := p1 _ _ _ q2
    refine core_value hs hd hK q1 ?_ hs.same_heap hs.same
    have : (denL vs)[j]? = some r.den := by rw [denL_eq, List.getElem?_map, hr]; rfl
    simp [execOp, hop, hv1, SV.den, Instr.extract, this]

theorem ok_fn {f : Nat} {xs : Array Operand} {ys : List Opd} (hop : o.op = .makeFunc (.func f) #[] xs) (hl : xs.size = ys.length) (hx : ((xs.toList.zip ys).all fun (x, y) => chkOpd x y) = true) (hd : ∀ d, o.dst = some d → d < N) :
    CoreOk ρ P N o (tFn f ys) := by
  intro F c D s a w K Q hs hsafe hK
  obtain ⟨vs, hvs, s1, p1⟩ := rdL_elim xs.toList (by simpa using hl) hx hs hsafe
  obtain ⟨_, _, q1⟩ := p1 _ _ _ .ret
  refine core_value hs hd hK q1 ?_ hs.same_heap hs.same
  have : xs.map a.eval = (denL vs).toArray := by rw [← hvs, ← List.map_toArray]
  simp [execOp, hop, Instr.makeFunc, SV.den, this]

theorem ok_faddr {S : TypeId} {f off : Nat} {fs : Array Field} {fl : Field} {i : TypeInfo} (hop : o.op = .fieldAddr S x f) (hS : P.underlying S = some (.struct fs)) (hf : fs[f]? = some fl) (ho : fl.offset = off)
    (hi : P.info? fl.type = some i) (hz : i.size ≠ 0) (hx : chkOpd x y = true) (hd : ∀ d, o.dst = some d → d < N) : CoreOk ρ P N o (tFaddr off y) := by
  intro F c D s a w K Q hs hsafe hK
  obtain ⟨v1, hv1, s1, p1⟩ := rd_elim hx hs hsafe
  cases v1 <;> try exact s1.elim
  case ptr k n b o' =>
    obtain ⟨_, _, q1⟩ := p1 _ _ _ .ret
    refine core_value hs hd hK q1 ?_ hs.same_heap hs.same
    simp only [execOp, hop, hv1, SV.den, Instr.fieldAt, Sem.run_bind, run_underlying hS, Result.andThen_ok, hf, Instr.sureAddr, Sem.run_pure, fieldPlace, sizeOf, info_run hi, hz, if_false, add_none, ho]
    congr 4
    rw [show b + o' + off = b + off + o' by omega]
end simple

section memory
variable {x z : Operand} {y y' : Opd}

def isAggD : TypeDesc → Bool
  | .struct _ | .array _ _ => true
  | _ => false

theorem loadVar_run {w : World} {t : TypeId} {i : TypeInfo} {d : TypeDesc} {n off : Nat} {l : List Value} {T : TypeId} {fr : Nat × Nat} (hi : P.info? t = some i) (hu : P.underlying t = some d)
    (hw : w.heap[n]? = some (.cells l.toArray T fr)) :
    (isAggD d = true → off + i.size ≤ l.length → (loadVar t ⟨n, off, none⟩).run P w = .ok (.agg ((l.drop off).take i.size).toArray) w) ∧
    (isAggD d = false → ∀ v, l[off]? = some v → (loadVar t ⟨n, off, none⟩).run P w = .ok v w) := by
  constructor
  · intro hd hl
    have e1 : (isAgg t).run P w = .ok true w := by
      simp only [isAgg, Sem.run_bind, run_underlying hu, Result.andThen_ok]
      cases d <;> simp_all [isAggD]
    have e2 := run_loadCells_list (P := P) w ⟨n, off, none⟩ ((l.drop off).take i.size) (by
      intro j v hj
      rw [add_none, cell_of hw]
      rw [List.getElem?_take] at hj
      split at hj
      · rw [List.getElem?_drop] at hj; exact hj
      · simp at hj)
    have e3 : ((l.drop off).take i.size).length = i.size := by simp; omega
    rw [e3] at e2
    simp [loadVar, e1, sizeOf, info_run hi, e2]
  · intro hd v hv
    have e1 : (isAgg t).run P w = .ok false w := by
      simp only [isAgg, Sem.run_bind, run_underlying hu, Result.andThen_ok]
      cases d <;> simp_all [isAggD]
    simp [loadVar, e1, cell_of hw, hv]

/-- what lies there is the value -/
def Lies (agg : Bool) (m pos : Nat) (v : SV) (L : List Value) : Prop :=
  (agg = true → v.den = .agg ((L.drop pos).take m).toArray ∧ pos + m ≤ L.length) ∧ (agg = false → L[pos]? = some v.den)
theorem getX_lies {agg : Bool} {cs : List SV} {b off m : Nat} {p : List DP} {v : SV} (h : getX agg cs b off m = some (p, v)) (hp : allP p) : Lies agg m (b + off) v (cellsL cs) := by
  constructor
  · rintro rfl
    simp only [getX, if_true] at h
    exact getA_den h hp
  · rintro rfl
    simp only [getX, Bool.false_eq_true, if_false] at h
    exact (getC_den h hp).1
theorem loadR_elim {s : St U} {agg : Bool} {m n b off : Nat} {q : Option (Nat × CH U)} (h : Safe (loadR agg m n b off q : R U) s) :
    ∃ v, Path (loadR agg m n b off q : R U) s [] [] (v, []) ∧ ∀ {F : Hp → Prop} {hh : Nat → Option (Nat × CH U)} {g : Hp} {k : Nat}, satH ρ F hh g → hh k = q →
      ∃ (L : List Value) (T : TypeId) (fr : Nat × Nat), g n = some (.cells L.toArray T fr) ∧ Lies agg m (b + off) v L := by
  cases q with
  | none => exact h.elim
  | some q =>
    obtain ⟨n', ch⟩ := q
    cases ch with
    | obj u => exact h.elim
    | sy q =>
      cases q with
      | gh => exact h.elim
      | dfr => exact h.elim
      | lp => exact h.elim
      | row o0 cs obj =>
        obtain ⟨h1, h2⟩ := h
        obtain ⟨rfl, rfl⟩ : n = n' ∧ b = o0 := h1
        obtain ⟨p, v, e1, e2, e3⟩ := optR_elim (s := s) h2
        refine ⟨v, .same ⟨rfl, rfl⟩ e3, ?_⟩
        intro F hh g k hs hk
        obtain ⟨gk, gr, f1, _, f2, _⟩ := hs.focus k
        rw [hk] at f1
        obtain ⟨rfl, pre, post, T, fr, hl, rfl⟩ := f1
        refine ⟨_, T, fr, f2 n _ (one_self _ _), ?_⟩
        obtain ⟨l1, l2⟩ := getX_lies e1 e2
        simp only [Nat.zero_add] at l1 l2
        constructor
        · intro ha
          obtain ⟨a1, a2⟩ := l1 ha
          refine ⟨?_, by simp; omega⟩
          rw [a1, List.append_assoc, ← hl, ← List.drop_drop]
          congr 2
          rw [List.drop_append_of_le_length (Nat.le_refl _), List.drop_length, List.nil_append, List.drop_append_of_le_length (by omega), List.take_append_of_le_length (by simp; omega)]
        · intro ha
          have a1 := l2 ha
          rw [List.append_assoc, List.getElem?_append_right (by omega), ← hl, Nat.add_sub_cancel_left]
          have : off < (cellsL cs).length := by
            by_cases hlt : off < (cellsL cs).length
            · exact hlt
            · rw [List.getElem?_eq_none (by omega)] at a1; simp at a1
          rw [List.getElem?_append_left this]
          exact a1
    | ro cs T =>
      obtain ⟨h1, h2⟩ := h
      have h1 : n = n' := h1
      subst h1
      obtain ⟨p, v, e1, e2, e3⟩ := optR_elim (s := s) h2
      refine ⟨v, .same rfl e3, ?_⟩
      intro F hh g k hs hk
      obtain ⟨fr, hg⟩ := hs.roCells hk
      exact ⟨_, T.1, fr, hg, getX_lies e1 e2⟩
    | cells cs T =>
      obtain ⟨h1, h2⟩ := h
      have h1 : n = n' := h1
      subst h1
      obtain ⟨p, v, e1, e2, e3⟩ := optR_elim (s := s) h2
      refine ⟨v, .same rfl e3, ?_⟩
      intro F hh g k hs hk
      exact ⟨_, T, _, hs.cells hk, getX_lies e1 e2⟩

theorem ok_load {t : TypeId} {i : TypeInfo} {d : TypeDesc} {agg : Bool} {m : Nat} (hop : o.op = .load t x) (hi : P.info? t = some i) (hu : P.underlying t = some d) (hagg : isAggD d = agg) (hm : i.size = m)
    (hx : chkOpd x y = true) (hd : ∀ d, o.dst = some d → d < N) : CoreOk ρ P N o (tLoad agg m y) := by
  intro F c D s a w K Q hs hsafe hK
  obtain ⟨v1, hv1, s1, p1⟩ := rd_elim hx hs hsafe
  cases v1 <;> try exact s1.elim
  case ptr k n b off =>
    obtain ⟨v, q, hlie⟩ := loadR_elim (ρ := ρ) (s := s) s1
    obtain ⟨_, _, q1⟩ := p1 _ _ _ (.rdH q)
    refine core_value hs hd hK q1 ?_ hs.same_heap hs.same
    obtain ⟨L, T, fr, hcell, l1, l2⟩ := hlie hs.heap rfl
    obtain ⟨r1, r2⟩ := loadVar_run (P := P) (w := w) (n := n) (off := b + off) (l := L) (T := T) hi hu hcell
    simp only [execOp, hop, hv1, SV.den, Instr.loadAt, Instr.sureAddr, Sem.run_bind, Sem.run_pure, Result.andThen_ok]
    cases agg with
    | true =>
      obtain ⟨g1, g2⟩ := l1 rfl
      rw [r1 hagg (by omega), hm, ← g1]
      rfl
    | false =>
      rw [r2 hagg _ (l2 rfl)]
      rfl

theorem lenL_eq : ∀ {l : List SV}, okSegs l = true → SV.len.lenL l = (cellsL l).length := by
  intro l
  induction l with
  | nil => intro _; simp [SV.len.lenL, cellsL_nil]
  | cons c cs ih =>
    intro h
    simp only [okSegs, Bool.and_eq_true] at h
    rw [cellsL_cons, List.length_append, ← ih h.2]
    simp only [SV.len.lenL]
    cases hc : c.kd with
    | bad => simp [hc] at h
    | row n f => simp [cells_row hc]
    | one => simp [cells_one hc]

theorem setA_len {cs : List SV} {pos off m : Nat} {v : SV} {p : List DP} {l : List SV} (h : setA cs pos off m v = some (p, l)) (hl : v.len = m) : v.cells.length = m := by
  have single : ∀ v : SV, okSegs v.segs = true → v.cells.length = v.len := by
    intro v hv
    rw [← segs_den, ← lenL_eq hv]
    cases v <;> simp_all [SV.segs, SV.len, SV.len.lenL, SV.kd, okSegs]
  unfold setA at h
  split at h
  next r hr =>
   unfold setA0 at hr
   split at hr
   · have aux : ∀ (cs : List SV) (pos : Nat) (p : List DP) (l : List SV), modRow cs pos (fun c => updR c off v) = some (p, l) → ∃ c q c', updR c off v = some (q, c') := by
       intro cs
       induction cs with
       | nil => intro pos p l h; simp [modRow] at h
       | cons c cs ih =>
         intro pos p l h
         cases pos with
         | zero =>
           simp only [modRow] at h
           split at h
           · rename_i q c' hc; exact ⟨c, q, c', hc⟩
           · simp at h
         | succ pos =>
           simp only [modRow] at h
           cases hc : c.kd with
           | bad => simp [hc] at h
           | row n f =>
             simp only [hc] at h
             split at h
             · split at h
               · rename_i hq; exact ih _ _ _ hq
               · simp at h
             · simp at h
           | one =>
             simp only [hc] at h
             split at h
             · rename_i hq; exact ih _ _ _ hq
             · simp at h
     obtain ⟨c, q, c', hc⟩ := aux _ _ _ _ hr
     rw [← hl]
     apply single
     cases c <;> cases v <;> simp [updR] at hc <;> rfl
   · split at hr
     · rename_i hs
       rw [← hl]; exact single v hs
     · simp at hr
  next =>
   split at h
   · rename_i l' hl'
     unfold setB at hl'
     split at hl'
     · rename_i hs _ _
       rw [← hl]; exact single v hs
     · simp at hl'
   · simp at h

theorem storeR_elim {s : St U} {k m n b off : Nat} {v : SV} {q : Option (Nat × CH U)} (h : Safe (storeR k m n b off v q : R U) s) :
    ∃ cs T p l, q = some (n, .cells cs T) ∧ setA cs b off m v = some (p, l) ∧ allP p ∧ Path (storeR k m n b off v q : R U) s [] [] (.und, [(k, some (n, .cells l T))]) := by
  cases q with
  | none => exact h.elim
  | some q =>
    obtain ⟨n', ch⟩ := q
    cases ch with
    | obj u => exact h.elim
    | sy => exact h.elim
    | ro => exact h.elim
    | cells cs T =>
      obtain ⟨h1, h2⟩ := h
      have h1 : n = n' := h1
      subst h1
      cases hq : setA cs b off m v with
      | none => rw [hq] at h2; exact h2.elim
      | some z =>
        obtain ⟨p, l⟩ := z
        rw [hq] at h2
        obtain ⟨hp, h2⟩ := asrts_safe h2
        refine ⟨cs, T, p, l, rfl, hq, hp, ?_⟩
        unfold storeR
        refine .same rfl ?_
        simp only [hq]
        exact asrts_path hp .ret

theorem ok_store {t : TypeId} {i : TypeInfo} {m : Nat} (hop : o.op = .store t x z) (hi : P.info? t = some i) (hm : i.size = m)
    (hx : chkOpd x y = true) (hz : chkOpd z y' = true) (hd : ∀ d, o.dst = some d → d < N) : CoreOk ρ P N o (tStore m y y') := by
  intro F c D s a w K Q hs hsafe hK
  obtain ⟨v1, hv1, s1, p1⟩ := rd_elim hx hs hsafe
  obtain ⟨v2, hv2, s2, p2⟩ := rd_elim hz hs s1
  cases v1 <;> try exact s2.elim
  case ptr k n b off =>
    obtain ⟨hlen, s3⟩ := s2
    obtain ⟨cs, T, p, l, e1, e2, e3, q⟩ := storeR_elim (s := s) s3
    obtain ⟨_, _, q2⟩ := p2 _ _ _ (.need hlen (.rdH q))
    obtain ⟨_, _, q1⟩ := p1 _ _ _ q2
    have hcell : w.heap[n]? = some (.cells (cellsL cs).toArray T) := hs.heap.cells e1
    have hvl := setA_len e2 hlen
    obtain ⟨g1, g2, g3⟩ := setA_den e2 e3 hvl
    have hrun := run_storeCells_at P n (b + off) T v2.cells 0 (cellsL cs).toArray w hcell (by simpa using g2) g3
    simp only [Nat.add_zero] at hrun
    rw [← g1] at hrun
    refine core_skip (l := [(k, some (n, .cells l T))]) hs hd hK q1 (w' := w.setRow n (cellsL l).toArray) ?_ ?_ ?_
    · have hsz : v2.den.cells.size = i.size := by rw [hm, ← hvl]; simp [SV.cells]
      simp only [execOp, hop, hv1, hv2]
      simp only [SV.den, Instr.storeAt, Instr.sureAddr, Sem.run_bind, Sem.run_pure, Result.andThen_ok, storeVar, sizeOf, info_run hi, hsz, ne_eq, not_true_eq_false, if_false]
      have hrun' : (storeCells ⟨n, b + off, none⟩ v2.den.cells.toList).run P w = .ok () (w.setRow n (cellsL l).toArray) := hrun
      simp [hrun']
    · rw [hp_setRow _ hcell]
      exact hs.heap.setCells e1
    · exact ⟨hs.same.tape, hs.same.os, hs.same.output⟩

theorem ok_newVar {d : Nat} {T : TypeId} {F : Hp → Prop} {c : World} {D : List Deferred} {s : St U} {a : Act} {w : World} {K : Act → World → Prop} {Q : Exit → Act → World → Prop} {r : R U} {zs : List SV}
    (hs : Sat ρ F N c D s a w) (hd : ∀ x, o.dst = some x → x < N) (hK : ∀ α β e a' w', Path r s α β e → Sat ρ F N c D (s.put o.dst e) a' w' → K a' w')
    {α β : List Nat} (hpa : Path r s α β (.ptr d w.heap.size 0 0, [(d, some (w.heap.size, .cells zs T))]))
    (hrun : (execOp a.eval o).run P w = .ok (.value (.pointer (some ⟨w.heap.size, 0, none⟩))) { w with heap := w.heap.push (.cells (cellsL zs).toArray T) }) : o.wp P a w K Q := by
  refine core_value hs hd hK hpa hrun ?_ ⟨hs.same.tape, hs.same.os, hs.same.output⟩
  rw [hp_push]
  exact hs.heap.new (hp_size w) rfl

theorem ok_new {d : Nat} {T : TypeId} {i : TypeInfo} {zv : Value} {zs : List SV} (hop : o.op = .alloc T) (hi : P.info? T = some i) (hz : i.zero = some zv) (hzs : eqVL zv.cells.toList zs = true)
    (hd : ∀ d, o.dst = some d → d < N) : CoreOk ρ P N o (tNew d zs T) := by
  intro F c D s a w K Q hs hsafe hK
  refine ok_newVar (r := tNew d zs T) hs hd hK (.all w.heap.size .ret) ?_
  rw [← eqVL_den hzs]
  simp [execOp, hop, Instr.alloc, zeroValue, info_run hi, hz, newVar, newRow]

theorem ok_box {d : Nat} {T : TypeId} (hop : o.op = .box T x) (hx : chkOpd x y = true) (hd : ∀ d, o.dst = some d → d < N) : CoreOk ρ P N o (tBox d T y) := by
  intro F c D s a w K Q hs hsafe hK
  obtain ⟨v, hv, s1, p1⟩ := rd_elim hx hs hsafe
  obtain ⟨_, _, q1⟩ := p1 _ _ _ (.all w.heap.size .ret)
  refine ok_newVar (r := tBox d T y) hs hd hK q1 ?_
  rw [segs_den]
  simp [execOp, hop, hv, Instr.box, newVar, newRow, SV.cells]

theorem idxZ_den {v : SV} {z : Int} (h : idxZ v = some z) : ∃ k, v.den = .int k z := by
  cases v <;> simp [idxZ] at h <;> subst h <;> exact ⟨_, rfl⟩

theorem elemR_path {s : St U} {sz k n b off : Nat} (q : Option (Nat × CH U)) : ∃ b' o', b' + o' = b + off ∧ Path (elemR sz k n b off q : R U) s [] [] (.ptr k n b' o', []) := by
  cases q with
  | none => exact ⟨b, off, rfl, .ret⟩
  | some q =>
    obtain ⟨n', ch⟩ := q
    cases ch with
    | obj u => exact ⟨b, off, rfl, .ret⟩
    | sy => exact ⟨b, off, rfl, .ret⟩
    | ro cs T =>
      cases hr : longRow sz (rowAt cs b) with
      | false => exact ⟨b + off, 0, by omega, by simp only [elemR, hr]; exact .ret⟩
      | true => exact ⟨b, off, rfl, by simp only [elemR, hr]; exact .ret⟩
    | cells cs T =>
      cases hr : longRow sz (rowAt cs b) with
      | false => exact ⟨b + off, 0, by omega, by simp only [elemR, hr]; exact .ret⟩
      | true => exact ⟨b, off, rfl, by simp only [elemR, hr]; exact .ret⟩

theorem ok_iaddr_array {t e : TypeId} {len sz : Nat} {i : TypeInfo} (hop : o.op = .indexAddr t x z) (ht : P.underlying t = some (.array len e)) (hi : P.info? e = some i) (hsz : i.size = sz)
    (hx : chkOpd x y = true) (hz : chkOpd z y' = true) (hd : ∀ d, o.dst = some d → d < N) : CoreOk ρ P N o (tIaddr (some len) sz y y') := by
  intro F c D s a w K Q hs hsafe hK
  obtain ⟨v1, hv1, s1, p1⟩ := rd_elim hx hs hsafe
  obtain ⟨v2, hv2, s2, p2⟩ := rd_elim hz hs s1
  cases hz2 : idxZ v2 with
  | none => simp only [hz2] at s2; exact s2.elim
  | some zi =>
    simp only [hz2] at s2 p2
    cases v1 <;> try exact s2.elim
    case ptr k n b off =>
      obtain ⟨hb, _⟩ := s2
      obtain ⟨b', o', hbo, q⟩ := elemR_path (s := s) (sz := sz) (k := k) (n := n) (b := b) (off := off + zi.toNat * sz) (s.h k)
      obtain ⟨_, _, q2⟩ := p2 _ _ _ (.need hb (.rdH q))
      obtain ⟨_, _, q1⟩ := p1 _ _ _ q2
      refine core_value hs hd hK q1 ?_ hs.same_heap hs.same
      obtain ⟨kk, hk⟩ := idxZ_den hz2
      simp only [execOp, hop, hv1, hv2, hk, SV.den, Instr.indexAt, asIntOf, Sem.run_bind, Sem.run_pure, Result.andThen_ok, run_underlying ht, Instr.sureAddr, hb.1, hb.2, and_self, if_true, sizeOf, info_run hi, add_none, hsz, hbo]
      congr 4
      rw [Nat.add_assoc]

theorem ok_iaddr_slice {t e : TypeId} {sz : Nat} {i : TypeInfo} (hop : o.op = .indexAddr t x z) (ht : P.underlying t = some (.slice e)) (hi : P.info? e = some i) (hsz : i.size = sz)
    (hx : chkOpd x y = true) (hz : chkOpd z y' = true) (hd : ∀ d, o.dst = some d → d < N) : CoreOk ρ P N o (tIaddr none sz y y') := by
  intro F c D s a w K Q hs hsafe hK
  obtain ⟨v1, hv1, s1, p1⟩ := rd_elim hx hs hsafe
  obtain ⟨v2, hv2, s2, p2⟩ := rd_elim hz hs s1
  cases hz2 : idxZ v2 with
  | none => simp only [hz2] at s2; exact s2.elim
  | some zi =>
    simp only [hz2] at s2 p2
    cases v1 <;> try exact s2.elim
    case slc k n b off l cp =>
      obtain ⟨hb, _⟩ := s2
      obtain ⟨b', o', hbo, q⟩ := elemR_path (s := s) (sz := sz) (k := k) (n := n) (b := b) (off := off + zi.toNat * sz) (s.h k)
      obtain ⟨_, _, q2⟩ := p2 _ _ _ (.need hb (.rdH q))
      obtain ⟨_, _, q1⟩ := p1 _ _ _ q2
      refine core_value hs hd hK q1 ?_ hs.same_heap hs.same
      obtain ⟨kk, hk⟩ := idxZ_den hz2
      simp only [execOp, hop, hv1, hv2, hk, SV.den, Instr.indexAt, asIntOf, Sem.run_bind, Sem.run_pure, Result.andThen_ok, run_underlying ht, hb.1, hb.2, and_self, if_true, sizeOf, info_run hi, add_none, hsz, hbo]
      congr 4
      rw [Nat.add_assoc]

theorem part_run {w : World} {t : TypeId} {i : TypeInfo} {d : TypeDesc} {agg : Bool} {cs : List SV} {pos off m : Nat} {p : List DP} {v : SV} (hi : P.info? t = some i) (hu : P.underlying t = some d) (hagg : isAggD d = agg) (hm : i.size = m)
    (h : getX agg cs pos off m = some (p, v)) (hp' : allP p) : (part t (cellsL cs).toArray (pos + off)).run P w = .ok v.den w := by
  have e1 : (isAgg t).run P w = .ok agg w := by
    simp only [isAgg, Sem.run_bind, run_underlying hu, Result.andThen_ok]
    cases d <;> simp_all [isAggD]
  cases agg with
  | true =>
    simp only [getX, if_true] at h
    obtain ⟨g1, g2⟩ := getA_den h hp'
    simp only [part, Sem.run_bind, e1, Result.andThen_ok, if_true, sizeOf, info_run hi, Sem.run_pure, hm, g1]
    congr 2
    simp
  | false =>
    simp only [getX, Bool.false_eq_true, if_false] at h
    obtain ⟨g1, _⟩ := getC_den h hp'
    simp [part, e1, g1]

theorem segs_agg {v : SV} {w : World} {agg : Bool} {pos off m : Nat} {q : List DP × SV} (h : getX agg v.segs pos off m = some q) (hv : v.segs ≠ [v] ∨ (∃ n f, v.kd = .row n f)) : (asAgg v.den).run P w = .ok (cellsL v.segs).toArray w := by
  rw [segs_den]
  cases v <;> first
    | (simp [SV.den, asAgg, SV.cells, Value.cells]; done)
    | (exfalso; rcases hv with hv | ⟨n, f, hv⟩
       · exact hv rfl
       · simp [SV.kd] at hv)

end memory
end Go.Eng
