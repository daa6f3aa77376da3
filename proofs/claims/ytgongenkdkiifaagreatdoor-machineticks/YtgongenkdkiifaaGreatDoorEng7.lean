/- More operations; calls by the callee's tree; regions and code, resolved. -/
import Derived.Test.YtgongenkdkiifaaGreatDoorEng6
import Derived.RangeFuncLeaves
import Derived.RangeFuncRecord
namespace Go.Eng
variable {U : Type} {ρ : U → Nat → Hp → Prop} {P : Program} {N : Nat} {o : Oper}

/-! ## parts of values -/
def tField' (agg : Bool) (off m : Nat) (x : Opd) : R U := x.rd fun v => match v with | .agg cs => optR (getX agg cs off 0 m) | _ => .fail
def tIdx' (agg : Bool) (len sz : Nat) (x i : Opd) : R U := x.rd fun v => i.rd fun j => match idxZ j with
  | none => .fail
  | some z => .asrt (0 ≤ z ∧ z < len) (match v with
    | .agg cs => optR (getX agg cs (z.toNat * sz) 0 sz)
    | .r8 n f => optR (getX agg [.r8 n f] 0 (z.toNat * sz) sz)
    | .r32 n f => optR (getX agg [.r32 n f] 0 (z.toNat * sz) sz)
    | .r64 n f => optR (getX agg [.r64 n f] 0 (z.toNat * sz) sz)
    | .ri n f => optR (getX agg [.ri n f] 0 (z.toNat * sz) sz)
    | _ => .fail)

theorem ok_field {x : Operand} {y : Opd} {S : TypeId} {f off m : Nat} {fs : Array Field} {fl : Field} {i : TypeInfo} {d : TypeDesc} {agg : Bool} (hop : o.op = .field S x f) (hS : P.underlying S = some (.struct fs)) (hf : fs[f]? = some fl) (ho : fl.offset = off)
    (hi : P.info? fl.type = some i) (hu : P.underlying fl.type = some d) (hagg : isAggD d = agg) (hm : i.size = m) (hx : chkOpd x y = true) (hd : ∀ d, o.dst = some d → d < N) : CoreOk ρ P N o (tField' agg off m y) := by
  intro F c D s a w K Q hs hsafe hK
  obtain ⟨v1, hv1, s1, p1⟩ := rd_elim hx hs hsafe
  cases v1 <;> try exact s1.elim
  case agg cs =>
    obtain ⟨p, r, hr, hp', q2⟩ := optR_elim s1
    obtain ⟨_, _, q1⟩ := p1 _ _ _ q2
    refine core_value hs hd hK q1 ?_ hs.same_heap hs.same
    have := part_run (P := P) (w := w) hi hu hagg hm hr hp'
    have e : (SV.agg cs).den = .agg (cellsL cs).toArray := by simp [SV.den, cellsL]
    simp only [execOp, hop, hv1, e, Instr.field, Sem.run_bind, run_underlying hS, Result.andThen_ok, hf, asAgg, Sem.run_pure, ho]
    rw [Nat.add_zero] at this
    rw [this]
    rfl

theorem ok_idx {x z : Operand} {y y' : Opd} {S e : TypeId} {len sz : Nat} {i : TypeInfo} {d : TypeDesc} {agg : Bool} (hop : o.op = .index S x z) (hS : P.underlying S = some (.array len e))
    (hi : P.info? e = some i) (hu : P.underlying e = some d) (hagg : isAggD d = agg) (hm : i.size = sz) (hx : chkOpd x y = true) (hz : chkOpd z y' = true) (hd : ∀ d, o.dst = some d → d < N) : CoreOk ρ P N o (tIdx' agg len sz y y') := by
  intro F c D s a w K Q hs hsafe hK
  obtain ⟨v1, hv1, s1, p1⟩ := rd_elim hx hs hsafe
  obtain ⟨v2, hv2, s2, p2⟩ := rd_elim hz hs s1
  cases hz2 : idxZ v2 with
  | none => simp only [hz2] at s2; exact s2.elim
  | some zi =>
    simp only [hz2] at s2 p2
    obtain ⟨hb, s2⟩ := s2
    obtain ⟨kk, hk⟩ := idxZ_den hz2
    have main : ∀ (cs : List SV) (p : List DP) (r : SV) (pos off : Nat), v1.den = .agg (cellsL cs).toArray → pos + off = zi.toNat * sz → getX agg cs pos off sz = some (p, r) → allP p →
        (execOp a.eval o).run P w = .ok (.value r.den) w := by
      intro cs p r pos off e1 e2 hr hp'
      have := part_run (P := P) (w := w) hi hu hagg hm hr hp'
      rw [e2] at this
      simp only [execOp, hop, hv1, hv2, hk, e1, Instr.index, asIntOf, Sem.run_bind, Sem.run_pure, Result.andThen_ok, run_underlying hS, hb.1, hb.2, and_self, if_true, sizeOf, info_run hi, hm]
      rw [this]
      rfl
    have row : ∀ v : SV, (∃ n f, v.kd = .row n f) → v.den = .agg (cellsL [v]).toArray := by
      intro v hv
      rw [cellsL_cons, cellsL_nil, List.append_nil]
      obtain ⟨n, f, hv⟩ := hv
      cases v <;> first
        | (simp [SV.kd] at hv; done)
        | (simp [SV.cells, SV.den, Value.cells]; done)
    cases v1 <;> try exact s2.elim
    case agg cs =>
      obtain ⟨p, r, hr, hp', q3⟩ := optR_elim s2
      obtain ⟨_, _, q2⟩ := p2 _ _ _ (.need hb q3)
      obtain ⟨_, _, q1⟩ := p1 _ _ _ q2
      exact core_value hs hd hK q1 (main cs p r _ 0 (by simp [SV.den, cellsL]) (by omega) hr hp') hs.same_heap hs.same
    all_goals
      obtain ⟨p, r, hr, hp', q3⟩ := optR_elim s2
      obtain ⟨_, _, q2⟩ := p2 _ _ _ (.need hb q3)
      obtain ⟨_, _, q1⟩ := p1 _ _ _ q2
      exact core_value hs hd hK q1 (main _ p r 0 _ (row _ ⟨_, _, rfl⟩) (by omega) hr hp') hs.same_heap hs.same

/-! ## a struct or an array out of parts -/
def buildR (kk : List SV → R U) : List SV → List (Nat × Nat × SV) → R U
  | zs, [] => kk zs
  | zs, (pos, m, v) :: ps => .asrt (v.len = m) (match setA zs pos 0 m v with | some (p, l) => R.asrts p (buildR kk l ps) | none => .fail)
def tBuild (zs : List SV) (ps : List (Nat × Nat)) (xs : List Opd) : R U :=
  rdL (fun vs => buildR (fun l => .ret (.agg l, [])) zs (List.zipWith (fun (p : Nat × Nat) v => (p.1, p.2, v)) ps vs)) xs

theorem foldl_set (l : List Value) : ∀ (k : Nat) (cs : Array Value) (off : Nat), off + k + l.length ≤ cs.size →
    ((l.zipIdx k).foldl (fun (cs : Array Value) (x : Value × Nat) => cs.setIfInBounds (off + x.2) x.1) cs).toList = cs.toList.take (off + k) ++ l ++ cs.toList.drop (off + k + l.length) := by
  induction l with
  | nil => intro k cs off h; simp
  | cons v l ih =>
    intro k cs off h
    simp only [List.length_cons] at h
    simp only [List.zipIdx_cons, List.foldl_cons]
    rw [ih (k + 1) _ off (by simp; omega)]
    have e := list_seg_step cs.toList (off + k) v l (by simp; omega)
    simpa [Nat.add_assoc] using e

theorem fill_run {place : Nat → Option (Nat × Nat)} {kk : List SV → R U} {s : St U} : ∀ (is : List (Nat × Value)) (ps : List (Nat × Nat × SV)) (zs : List SV),
    is.map (·.2) = ps.map (fun p => p.2.2.den) → (∀ (j : Nat) (i : Nat × Value) (p : Nat × Nat × SV), is[j]? = some i → ps[j]? = some p → place i.1 = some (p.1, p.2.1)) → Safe (buildR kk zs ps) s →
    ∃ l, Instr.fill place (cellsL zs).toArray is = some (cellsL l).toArray ∧ Safe (kk l) s ∧ ∀ α β e, Path (kk l) s α β e → ∃ α' β', Path (buildR kk zs ps) s α' β' e := by
  intro is
  induction is with
  | nil =>
    intro ps zs hm hp hs
    cases ps with
    | nil => exact ⟨zs, rfl, hs, fun α β e p => ⟨α, β, p⟩⟩
    | cons => simp at hm
  | cons i is ih =>
    intro ps zs hm hp hs
    cases ps with
    | nil => simp at hm
    | cons p ps =>
      obtain ⟨pos, m, v⟩ := p
      obtain ⟨hlen, hs⟩ := hs
      cases hq : setA zs pos 0 m v with
      | none => rw [hq] at hs; exact hs.elim
      | some q =>
        obtain ⟨pr, l⟩ := q
        rw [hq] at hs
        obtain ⟨hpr, hs⟩ := asrts_safe hs
        simp only [List.map_cons, List.cons.injEq] at hm
        have hvl := setA_len hq hlen
        obtain ⟨g1, g2, _⟩ := setA_den hq hpr hvl
        obtain ⟨l', h1, h2, h3⟩ := ih ps l hm.2 (fun j i p hi hp' => hp (j + 1) i p (by simpa using hi) (by simpa using hp')) hs
        refine ⟨l', ?_, h2, ?_⟩
        · have hpl := hp 0 i (pos, m, v) rfl rfl
          obtain ⟨i1, i2⟩ := i
          simp only at hpl hm
          simp only [Instr.fill, hpl]
          have hsz : i2.cells.size = m := by rw [hm.1, ← hvl]; simp [SV.cells]
          rw [if_neg (by simp [hsz]; simp at g2; omega)]
          rw [← h1]
          congr 1
          apply Array.ext'
          have e := foldl_set i2.cells.toList 0 (cellsL zs).toArray pos (by simp [hsz]; simp at g2; omega)
          rw [← Array.foldl_toList, Array.toList_zipIdx]
          rw [e, g1]
          simp [hm.1, SV.cells]
        · intro α β e q
          obtain ⟨α', β', q'⟩ := h3 _ _ _ q
          refine ⟨α', β', ?_⟩
          refine Path.need hlen ?_
          simp only [hq]; exact asrts_path hpr q'

def placesB (P : Program) (d : TypeDesc) (is : List Nat) (ps : List (Nat × Nat)) : Bool :=
  is.length == ps.length &&
  match d with
  | .struct fs => (is.zip ps).all (fun (i, p) => match fs[i]? with | some f => (match P.info? f.type with | some t => f.offset == p.1 && t.size == p.2 | none => false) | none => false) && fs.toList.all (fun f => (P.info? f.type).isSome)
  | .array _ e => match P.info? e with | some t => (is.zip ps).all (fun (i, p) => i * t.size == p.1 && t.size == p.2) | none => false
  | _ => false

theorem mapM_places {fs : Array Field} {w : World} (h : fs.toList.all (fun f => (P.info? f.type).isSome) = true) :
    (fs.mapM fun f => do pure (f.offset, ← sizeOf f.type) : Sem (Array (Nat × Nat))).run P w = .ok (fs.map fun f => (f.offset, P.cellsOf f.type)) w := by
  obtain ⟨l⟩ := fs
  have gen : ∀ l : List Field, l.all (fun f => (P.info? f.type).isSome) = true → (l.mapM fun f => do pure (f.offset, ← sizeOf f.type) : Sem (List (Nat × Nat))).run P w = .ok (l.map fun f => (f.offset, P.cellsOf f.type)) w := by
    intro l
    induction l with
    | nil => intro _; rfl
    | cons f l ih =>
      intro h
      simp only [List.all_cons, Bool.and_eq_true] at h
      obtain ⟨t, ht⟩ := Option.isSome_iff_exists.1 h.1
      rw [List.mapM_cons]
      have hsz : (sizeOf f.type).run P w = .ok t.size w := by simp [sizeOf, info_run ht]
      simp only [Sem.run_bind, hsz, Result.andThen_ok, Sem.run_pure]
      rw [ih h.2]
      simp [Program.cellsOf, ht]
  rw [List.mapM_toArray]
  simp only [Sem.run_map, gen l h, Result.andThen_ok]
  simp

theorem ok_build {t : TypeId} {i : TypeInfo} {d : TypeDesc} {zv : Value} {zs : List SV} {xs : Array (Nat × Operand)} {ps : List (Nat × Nat)} {ys : List Opd} (hop : o.op = .build t xs) (hi : P.info? t = some i) (hz : i.zero = some zv)
    (hzs : eqVL zv.cells.toList zs = true) (hu : P.underlying t = some d) (hpl : placesB P d (xs.toList.map (·.1)) ps = true) (hl : xs.size = ys.length) (hx : (((xs.toList.map (·.2)).zip ys).all fun (x, y) => chkOpd x y) = true) (hd : ∀ d, o.dst = some d → d < N) :
    CoreOk ρ P N o (tBuild zs ps ys) := by
  intro F c D s a w K Q hs hsafe hK
  obtain ⟨vs, hvs, s1, p1⟩ := rdL_elim (xs.toList.map (·.2)) (by simpa using hl) hx hs hsafe
  have hlv : vs.length = xs.size := by have := congrArg List.length hvs; simp [denL_eq] at this; exact this.symm
  simp only [placesB, Bool.and_eq_true, beq_iff_eq, List.length_map] at hpl
  obtain ⟨hlp, hpl⟩ := hpl
  have hlp' : ps.length = xs.size := by simpa using hlp.symm
  have main : ∀ place : Nat → Option (Nat × Nat), (∀ (j : Nat) (x : Nat × Operand) (p : Nat × Nat), xs.toList[j]? = some x → ps[j]? = some p → place x.1 = some p) →
      ∃ l, Instr.fill place zv.cells (xs.toList.map fun x => (x.1, a.eval x.2)) = some (cellsL l).toArray ∧ ∃ α β, Path (tBuild zs ps ys : R U) s α β (.agg l, []) := by
    intro place hplace
    have hz2 : zv.cells = (cellsL zs).toArray := by rw [← eqVL_den hzs]
    rw [hz2]
    obtain ⟨l, h1, h2, h3⟩ := fill_run (place := place) (s := s) (xs.toList.map fun x => (x.1, a.eval x.2)) (List.zipWith (fun (p : Nat × Nat) v => (p.1, p.2, v)) ps vs) zs (by
        simp only [List.map_map, List.map_zipWith]
        have e1 : List.zipWith (fun (x : Nat × Nat) (y : SV) => (x.1, x.2, y).2.2.den) ps vs = denL vs := by
          rw [denL_eq]
          apply List.ext_getElem?
          intro j
          by_cases hj : j < vs.length
          · simp [List.getElem?_zipWith, List.getElem?_eq_getElem hj, List.getElem?_eq_getElem (show j < ps.length by omega)]
          · simp [List.getElem?_zipWith, List.getElem?_eq_none (show vs.length ≤ j by omega)]
        rw [e1, ← hvs]
        simp) (by
        intro j i p hi hp'
        rw [List.getElem?_map] at hi
        rw [List.getElem?_zipWith] at hp'
        cases hxj : xs.toList[j]? with
        | none => simp [hxj] at hi
        | some x =>
          cases hpj : ps[j]? with
          | none => simp [hpj] at hp'
          | some pp =>
            cases hvj : vs[j]? with
            | none => simp [hpj, hvj] at hp'
            | some v =>
              simp [hpj, hvj] at hp'
              simp [hxj] at hi
              subst hi; subst hp'
              have := hplace j x pp hxj hpj
              simpa using this) s1
    obtain ⟨_, _, q⟩ := h3 _ _ _ .ret
    obtain ⟨_, _, q'⟩ := p1 _ _ _ q
    exact ⟨l, h1, _, _, q'⟩
  have fin : ∀ l, (∃ α β, Path (tBuild zs ps ys : R U) s α β (.agg l, [])) → (execOp a.eval o).run P w = .ok (.value (SV.agg l).den) w → o.wp P a w K Q := by
    intro l ⟨_, _, q⟩ hrun
    exact core_value hs hd hK q hrun hs.same_heap hs.same
  have e2 : ∀ l : List SV, (SV.agg l).den = .agg (cellsL l).toArray := fun l => by simp [SV.den, cellsL]
  split at hpl
  next fs =>
    simp only [Bool.and_eq_true] at hpl
    obtain ⟨l, h1, h2⟩ := main (fun j => (fs.map fun f => (f.offset, P.cellsOf f.type))[j]?) (by
      intro j x p hxj hpj
      have := List.all_eq_true.1 hpl.1 (x.1, p) (by
        apply List.mem_of_getElem? (i := j)
        simp only [List.getElem?_zip_eq_some, List.getElem?_map]
        exact ⟨by rw [hxj]; rfl, hpj⟩)
      simp only at this
      cases hf : fs[x.1]? with
      | none => simp [hf] at this
      | some f =>
        simp only [hf] at this
        cases ht : P.info? f.type with
        | none => simp [ht] at this
        | some ti =>
          simp only [ht, Bool.and_eq_true, beq_iff_eq] at this
          simp [hf, Program.cellsOf, ht, this.1, this.2])
    refine fin l h2 ?_
    have hrun := mapM_places (P := P) (w := w) hpl.2
    simp only [execOp, hop, Instr.build, zeroValue, Sem.run_bind, info_run hi, Result.andThen_ok, hz, Sem.run_pure, run_underlying hu, e2]
    rw [hrun]
    simp only [Result.andThen_ok]
    have e3 : (Array.map (fun x => (x.1, a.eval x.2)) xs).toList = xs.toList.map fun x => (x.1, a.eval x.2) := by simp
    rw [e3, h1]
    rfl
  next n e =>
    cases ht : P.info? e with
    | none => simp [ht] at hpl
    | some ti =>
      simp only [ht] at hpl
      obtain ⟨l, h1, h2⟩ := main (fun j => some (j * ti.size, ti.size)) (by
        intro j x p hxj hpj
        have := List.all_eq_true.1 hpl (x.1, p) (by
          apply List.mem_of_getElem? (i := j)
          simp only [List.getElem?_zip_eq_some, List.getElem?_map]
          exact ⟨by rw [hxj]; rfl, hpj⟩)
        simp only [Bool.and_eq_true, beq_iff_eq] at this
        rw [this.1, this.2])
      refine fin l h2 ?_
      simp only [execOp, hop, Instr.build, zeroValue, Sem.run_bind, info_run hi, Result.andThen_ok, hz, Sem.run_pure, run_underlying hu, e2, sizeOf, info_run ht]
      have e3 : (Array.map (fun x => (x.1, a.eval x.2)) xs).toList = xs.toList.map fun x => (x.1, a.eval x.2) := by simp
      rw [e3, h1]
      rfl
  next => exact absurd hpl (by simp)

/-! ## calls -/
abbrev Spec (U : Type) := Nat → List SV → R U

/-- a call comes to a value at once, or enters a function that comes to an end so -/
def Does (P : Program) (f : Nat) (args : Array Value) (w : World) (R : Ending → World → Prop) : Prop :=
  (∃ v w', (callFunc f args).run P w = .ok (.value v) w' ∧ R (.returned v) w') ∨ ((callFunc f args).run P w = .ok (.enter f args) w ∧ Calls P f args w R)
def Callable (P : Program) (f : Nat) : Prop := ∃ fn, P.funcs[f]? = some fn ∧ fn.body.isSome = true ∧ (fn.name == "runtime.NumGoroutine") = false
theorem Callable.run {f : Nat} (h : Callable P f) (args : Array Value) (w : World) : (callFunc f args).run P w = .ok (.enter f args) w := by
  obtain ⟨fn, h1, h2, h3⟩ := h
  have hb : fn.body.isNone = false := by cases hb : fn.body <;> simp_all
  simp only [callFunc, Sem.run_bind, run_program, Result.andThen_ok, h1, h3, Bool.false_eq_true, if_false, hb]
  rfl
theorem Callable.does {f : Nat} (h : Callable P f) {args : Array Value} {w : World} {R : Ending → World → Prop} (hc : Calls P f args w R) : Does P f args w R := .inr ⟨h.run args w, hc⟩
/-- how a call ends that does what a tree says -/
def Ends (ρ : U → Nat → Hp → Prop) (F : Hp → Prop) (c : World) (r : R U) (s : St U) (e : Ending) (w' : World) : Prop :=
  ∃ α β eff, Path r s α β eff ∧ e = .returned eff.1.den ∧ satH ρ F (putH s.h eff.2) (hp w') ∧ Same c w'
/-- a function of the program does what a tree says -/
structure SpecOk (ρ : U → Nat → Hp → Prop) (P : Program) (f : Nat) (sp : Spec U) : Prop where
  calls : ∀ (F : Hp → Prop) (c : World) (d : Nat) (vs : List SV) (s : St U) (w : World), satH ρ F s.h (hp w) → Same c w → Safe (sp d vs) s →
    Does P f (denL vs).toArray w (Ends ρ F c (sp d vs) s)
/-- the same, of one that has a body; and where it is called as a deferred one -/
structure SpecDOk (ρ : U → Nat → Hp → Prop) (P : Program) (f : Nat) (sp : Spec U) : Prop where
  callable : Callable P f
  calls : ∀ (F : Hp → Prop) (c : World) (d : Nat) (vs : List SV) (s : St U) (w : World), satH ρ F s.h (hp w) → Same c w → Safe (sp d vs) s →
    Calls P f (denL vs).toArray w (Ends ρ F c (sp d vs) s)
  callsD : ∀ (F : Hp → Prop) (c : World) (d : Nat) (vs : List SV) (s : St U) (w : World) (n : Nat) (u : FrameMode), satH ρ F s.h (hp w) → Same c w → Safe (sp d vs) s →
    CallsDIn Fence.wide n P f (denL vs).toArray u w fun e u' w' => u' = u ∧ Ends ρ F c (sp d vs) s e w'

/-- an operation for which a tree is handed in: its kind, without what it takes -/
inductive XTag where
  | bin (op : BinOp) (T T' : TypeId)
  | un (op : UnOp) (T : TypeId)
  | conv (S T : TypeId)
  | lookup (T : TypeId) (ok : Bool)
  | update (T : TypeId)
  | mkmap (T : TypeId)
  | mksl (T : TypeId)
  | slice (T : TypeId) (lo hi : Bool)
  | bsl (T : TypeId) (n : Nat) (is : List Nat)
  | idx (T : TypeId)
  | nil
  | bi (b : Builtin) (ts : List TypeId)
  | range (T : TypeId)
  | next (str : Bool)
  deriving DecidableEq

/-- what of an operation is its kind, and what it takes -/
def tagOf : Op → Option (XTag × List Operand)
  | .binOp op T x y T' => some (.bin op T T', [x, y])
  | .unOp op T x => some (.un op T, [x])
  | .convert S T x => some (.conv S T, [x])
  | .lookup T x i ok => some (.lookup T ok, [x, i])
  | .mapUpdate T m k v => some (.update T, [m, k, v])
  | .makeMap T none => some (.mkmap T, [])
  | .makeSlice T a b => some (.mksl T, [a, b])
  | .slice T x (some l) (some h) none => some (.slice T true true, [x, l, h])
  | .slice T x (some l) none none => some (.slice T true false, [x, l])
  | .slice T x none (some h) none => some (.slice T false true, [x, h])
  | .slice T x none none none => some (.slice T false false, [x])
  | .buildSlice T n ps => some (.bsl T n (ps.toList.map (·.1)), ps.toList.map (·.2))
  | .index T x i => some (.idx T, [x, i])
  | .nilCheck x => some (.nil, [x])
  | .call { callee := .builtin b, args, argTypes } => some (.bi b argTypes.toList, args.toList)
  | .range T x => some (.range T, [x])
  | .next x str => some (.next str, [x])
  | _ => none

/-- a tree is right for an operation of that kind, whatever it takes its values from -/
def XOk (ρ : U → Nat → Hp → Prop) (P : Program) (t : XTag) (sp : Spec U) : Prop :=
  ∀ (o : Oper) (xs : List Operand) (d : Nat) (vs : List SV) (F : Hp → Prop) (c : World) (s : St U) (a : Act) (w : World), tagOf o.op = some (t, xs) → xs.map a.eval = denL vs →
    satH ρ F s.h (hp w) → Same c w → Safe (sp d vs) s →
    ∃ α β eff w', Path (sp d vs) s α β eff ∧ ((execOp a.eval o).run P w = .ok (.value eff.1.den) w' ∨ ((execOp a.eval o).run P w = .ok .skip w' ∧ eff.1 = .und)) ∧ satH ρ F (putH s.h eff.2) (hp w') ∧ Same c w'

structure Specs (U : Type) where
  f : Nat → Option (Spec U)
  x : XTag → Option (Spec U)
  d : Nat → Option (Spec U) := fun _ => none
structure SgOk (ρ : U → Nat → Hp → Prop) (P : Program) (Sg : Specs U) : Prop where
  f : ∀ f sp, Sg.f f = some sp → SpecOk ρ P f sp
  x : ∀ t sp, Sg.x t = some sp → XOk ρ P t sp
  d : ∀ f sp, Sg.d f = some sp → SpecDOk ρ P f sp
def specR (sp : Option (Spec U)) (d : Nat) (vs : List SV) : R U := match sp with | some sp => sp d vs | none => .fail
def tCall (Sg : Specs U) (d f : Nat) (xs : List Opd) : R U := rdL (fun vs => specR (Sg.f f) d vs) xs
def tCallv (Sg : Specs U) (d : Nat) (x : Opd) (xs : List Opd) : R U := x.rd fun fv => rdL (fun vs => match fv with | .fn f caps => specR (Sg.f f) d (vs ++ caps) | _ => .fail) xs

theorem denL_append (a b : List SV) : denL (a ++ b) = denL a ++ denL b := by simp [denL_eq]

theorem call_wp {F : Hp → Prop} {c : World} {D : List Deferred} {s : St U} {a : Act} {w : World} {K : Act → World → Prop} {Q : Exit → Act → World → Prop} {r : R U} {f d : Nat} {sp : Spec U} {vs : List SV}
    (hsp : SpecOk ρ P f sp) (hs : Sat ρ F N c D s a w) (hd : ∀ x, o.dst = some x → x < N) (hK : ∀ α β e a' w', Path r s α β e → Sat ρ F N c D (s.put o.dst e) a' w' → K a' w')
    (hsafe : Safe (sp d vs) s) (hpa : ∀ α β e, Path (sp d vs) s α β e → ∃ α' β', Path r s α' β' e)
    (hrun : (execOp a.eval o).run P w = (callFunc f (denL vs).toArray).run P w) : o.wp P a w K Q := by
  have fin : ∀ e w', Ends ρ F c (sp d vs) s e w' → ∃ v, e = .returned v ∧ K (a.put o.dst v) w' := by
    rintro e w' ⟨α, β, eff, hp', rfl, hh, hw⟩
    obtain ⟨α', β', hp''⟩ := hpa _ _ _ hp'
    exact ⟨_, rfl, hK _ _ _ _ _ hp'' (hs.put hd hh hw)⟩
  unfold Oper.wp
  rw [hrun]
  rcases hsp.calls F c d vs s w hs.heap hs.same hsafe with ⟨v, w', hr, he⟩ | ⟨hr, hc⟩
  · rw [hr]
    obtain ⟨v', e1, h1⟩ := fin _ _ he
    injection e1 with e1
    subst e1
    exact h1
  · rw [hr]
    refine Calls.mono hc ?_
    intro e' w' he
    obtain ⟨v', rfl, h1⟩ := fin _ _ he
    exact h1

theorem specR_elim {Sg : Specs U} {f d : Nat} {vs : List SV} {s : St U} (hSg : SgOk ρ P Sg) (h : Safe (specR (Sg.f f) d vs) s) :
    ∃ sp, Sg.f f = some sp ∧ SpecOk ρ P f sp ∧ Safe (sp d vs) s ∧ specR (Sg.f f) d vs = sp d vs := by
  cases hq : Sg.f f with
  | none => rw [hq] at h; exact h.elim
  | some sp => rw [hq] at h; exact ⟨sp, rfl, hSg.f f sp hq, h, rfl⟩

theorem ok_call {Sg : Specs U} {f d : Nat} {xs : Array Operand} {ts : Array TypeId} {ys : List Opd} (hSg : SgOk ρ P Sg) (hop : o.op = .call { callee := .value (.func f), args := xs, argTypes := ts })
    (hl : xs.size = ys.length) (hx : ((xs.toList.zip ys).all fun (x, y) => chkOpd x y) = true) (hd : ∀ d, o.dst = some d → d < N) : CoreOk ρ P N o (tCall Sg d f ys) := by
  intro F c D s a w K Q hs hsafe hK
  obtain ⟨vs, hvs, s1, p1⟩ := rdL_elim xs.toList (by simpa using hl) hx hs hsafe
  obtain ⟨sp, h1, h2, h3, h4⟩ := specR_elim hSg s1
  refine call_wp h2 hs hd hK h3 (fun α β e q => p1 α β e (by rw [h4]; exact q)) ?_
  have : xs.map a.eval = (denL vs).toArray := by rw [← hvs, ← List.map_toArray]
  simp [execOp, hop, resolve, Act.eval, Deferred.ofValue, invoke, this]

theorem ok_callv {Sg : Specs U} {d : Nat} {x : Operand} {y : Opd} {xs : Array Operand} {ts : Array TypeId} {ys : List Opd} (hSg : SgOk ρ P Sg) (hop : o.op = .call { callee := .value x, args := xs, argTypes := ts })
    (hx0 : chkOpd x y = true) (hl : xs.size = ys.length) (hx : ((xs.toList.zip ys).all fun (x, y) => chkOpd x y) = true) (hd : ∀ d, o.dst = some d → d < N) : CoreOk ρ P N o (tCallv Sg d y ys) := by
  intro F c D s a w K Q hs hsafe hK
  obtain ⟨v0, hv0, s0, p0⟩ := rd_elim hx0 hs hsafe
  obtain ⟨vs, hvs, s1, p1⟩ := rdL_elim xs.toList (by simpa using hl) hx hs s0
  cases v0 <;> try exact s1.elim
  case fn f caps =>
    obtain ⟨sp, h1, h2, h3, h4⟩ := specR_elim hSg s1
    refine call_wp h2 hs hd hK h3 (fun α β e q => by
      obtain ⟨α', β', q'⟩ := p1 α β e (by show Path (specR (Sg.f f) d (vs ++ caps)) s α β e; rw [h4]; exact q)
      exact p0 _ _ _ q') ?_
    have : xs.map a.eval = (denL vs).toArray := by rw [← hvs, ← List.map_toArray]
    simp [execOp, hop, resolve, hv0, SV.den, Deferred.ofValue, invoke, this, denL_append]


/-! ## operations whose trees are handed in -/
def tX (Sg : Specs U) (d : Nat) (t : XTag) (xs : List Opd) : R U := rdL (fun vs => specR (Sg.x t) d vs) xs

theorem ok_x {Sg : Specs U} {d : Nat} {t : XTag} {xs : List Operand} {ys : List Opd} (hSg : SgOk ρ P Sg) (hop : tagOf o.op = some (t, xs))
    (hl : xs.length = ys.length) (hx : ((xs.zip ys).all fun (x, y) => chkOpd x y) = true) (hd : ∀ d, o.dst = some d → d < N) : CoreOk ρ P N o (tX Sg d t ys) := by
  intro F c D s a w K Q hs hsafe hK
  obtain ⟨vs, hvs, s1, p1⟩ := rdL_elim xs hl hx hs hsafe
  cases hq : Sg.x t with
  | none => rw [hq] at s1; exact s1.elim
  | some sp =>
    rw [hq] at s1
    obtain ⟨α, β, eff, w', h1, h2, h3, h4⟩ := hSg.x t sp hq o xs d vs F c s a w hop hvs hs.heap hs.same s1
    obtain ⟨_, _, q1⟩ := p1 α β eff (by show Path (specR (Sg.x t) d vs) s α β eff; rw [hq]; exact h1)
    rcases h2 with h2 | ⟨h2, h5⟩
    · exact core_value hs hd hK q1 h2 h3 h4
    · obtain ⟨e1, e2⟩ := eff
      simp only at h5
      subst h5
      exact core_skip hs hd hK q1 h2 h3 h4

end Go.Eng
