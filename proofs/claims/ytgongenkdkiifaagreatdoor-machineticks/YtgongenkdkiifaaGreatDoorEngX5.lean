/- Families: maps, whose keys are whole numbers, or structs and arrays of such. -/
import Derived.Test.YtgongenkdkiifaaGreatDoorEngX4
import Derived.WideKeyRuns
set_option linter.unusedSimpArgs false
set_option linter.unusedVariables false
namespace Go.Eng
variable {P : Program}

/-- a map: its entries, in the order of their coming -/
structure MapC where
  es : List (SV × SV)
def rhoM (m : MapC) (n : Nat) (g : Hp) : Prop := ∃ (xs : List MapEntry) (clock : Nat), g = one n (.map xs.toArray clock) ∧ xs.map (fun e => (e.key, e.val)) = m.es.map fun e => (e.1.den, e.2.den)

/-- what keys are like -/
structure KK where
  agg : Bool
  ks : List (IK × Nat)
def segsK (v : SV) : List SV := match segsOf v with | some cs => cs | none => [v]
def vk (K : KK) (v : SV) : Bool := (match segsOf v, K.agg with | some _, true => true | none, false => true | _, _ => false) && eatL K.ks (segsK v)
def eqKey (K : KK) (x y : SV) : Option Bool := match vk K x, vk K y with | true, true => eqSegs (segsK x) (segsK y) | _, _ => none
def KK.Ok (P : Program) (K : KK) (T : TypeId) : Prop := ∃ d m, leafAt P d T = some (expand K.ks) ∧ m + 1 ≤ 10000 ∧ P.keyTypeAt (m + 1) T = true ∧ isAggT (P.underlying T) = K.agg ∧ (expand K.ks).length = P.cellsOf T ∧
  (K.agg = false → ∃ q, K.ks = [(.int q, 1)] ∧ P.underlying T = some (.int q))

theorem vk_ok {K : KK} {T : TypeId} {v : SV} (hK : K.Ok P T) (h : vk K v = true) : v.den.formed P T = true ∧ (∃ d, P.keyLits d T v.den.cells.toList = some (litL (segsK v))) ∧ Fit (expand K.ks) v.cells (litL (segsK v)) := by
  obtain ⟨d, m, hl, hm, hk, ha, hsz, hp⟩ := hK
  simp only [vk, Bool.and_eq_true] at h
  obtain ⟨h1, h2⟩ := h
  have hf := fit_eat h2
  cases hs : segsOf v with
  | some cs =>
    rw [hs] at h1
    cases hag : K.agg with
    | false => simp [hag] at h1
    | true =>
      have hd := segsOf_den hs
      have e1 : segsK v = cs := by simp [segsK, hs]
      rw [e1] at hf ⊢
      have e2 : v.cells = cellsL cs := by simp [SV.cells, hd, Value.cells]
      refine ⟨?_, ⟨d, ?_⟩, by rw [e2]; exact hf⟩
      · rw [hd]
        have := fit_len hf
        rw [hag] at ha
        unfold Value.formed
        revert ha
        unfold isAggT
        cases P.underlying T with
        | none => simp
        | some td => cases td <;> simp [this, hsz]
      · rw [show v.den.cells.toList = cellsL cs from e2]
        exact keyLits_leaf d T _ _ _ hl hf
  | none =>
    rw [hs] at h1
    cases hag : K.agg with
    | true => simp [hag] at h1
    | false =>
      obtain ⟨q, hq, hu⟩ := hp hag
      have e1 : segsK v = [v] := by simp [segsK, hs]
      rw [e1] at hf ⊢ h2
      have e2 : cellsL [v] = v.cells := by simp [cellsL_cons, cellsL_nil]
      rw [e2] at hf
      refine ⟨?_, ⟨d, keyLits_leaf d T _ _ _ hl hf⟩, hf⟩
      rw [hq] at h2
      simp only [eatL] at h2
      cases v <;> simp only [segK, reduceCtorEq] at h2 <;> first
        | (simp [segsOf] at hs; done)
        | (simp only [SV.den, Value.formed, hu])
        | (simp at h2)

theorem fit_inj : ∀ {ks : List IK} {c1 c2 : List Value} {ls : List Lit}, Fit ks c1 ls → Fit ks c2 ls → c1 = c2 := by
  intro ks
  induction ks with
  | nil => intro c1 c2 ls h1 h2; cases c1 <;> cases c2 <;> cases ls <;> simp [Fit] at h1 h2 ⊢
  | cons k ks ih =>
    intro c1 c2 ls h h2
    cases k <;> cases c1 <;> try (simp [Fit] at h; done)
    all_goals (rename_i c c1; cases c <;> try (simp [Fit] at h; done))
    all_goals (cases ls <;> try (simp [Fit] at h; done))
    all_goals (rename_i l ls; cases l <;> try (simp [Fit] at h; done))
    all_goals (cases c2 <;> try (simp [Fit] at h2; done))
    all_goals (rename_i c c2; cases c <;> try (simp [Fit] at h2; done))
    · simp only [Fit] at h h2
      rw [h.1, h2.1, ih h.2 h2.2]
    · simp only [Fit] at h h2
      rw [h.1, h2.1, h.2.2.1, h2.2.2.1, ih h.2.2.2.2 h2.2.2.2.2]

theorem eqKey_run {K : KK} {T : TypeId} {x y : SV} {r : Bool} (hK : K.Ok P T) (h : eqKey K x y = some r) (w : World) :
    (Op.equal T x.den y.den).run P w = .ok r w ∧ vk K x = true ∧ vk K y = true ∧ (r = true → x.cells = y.cells) ∧ (r = true ↔ litL (segsK x) = litL (segsK y)) := by
  unfold eqKey at h
  split at h
  · rename_i hx hy
    obtain ⟨f1, ⟨d1, l1⟩, t1⟩ := vk_ok hK hx
    obtain ⟨f2, ⟨d2, l2⟩, t2⟩ := vk_ok hK hy
    have hiff := eqSegs_iff h
    refine ⟨?_, hx, hy, ?_, hiff⟩
    · obtain ⟨d, m, hl, hm, hk, _⟩ := hK
      obtain ⟨r', h1, h2⟩ := run_equalIn_deep (P := P) (10000 - (m + 1)) (m + 1) T hk w d1 d2 _ _ _ _ f1 f2 l1 l2
      rw [show 10000 - (m + 1) + (m + 1) = 10000 by omega] at h1
      unfold Op.equal Op.maxDepth
      rw [h1]
      congr 1
      cases r <;> cases r' <;> simp_all
    · intro hr
      have := hiff.1 hr
      rw [this] at t1
      exact fit_inj t1 t2
  · simp at h


theorem checkKey_run {K : KK} {T : TypeId} {x : SV} (hK : K.Ok P T) (h : vk K x = true) (em : Bool) (w : World) : (Instr.checkKey em 10000 T x.den).run P w = .ok () w := by
  obtain ⟨f1, ⟨d1, l1⟩, _⟩ := vk_ok hK h
  obtain ⟨d, m, hl, hm, hk, _⟩ := hK
  have := run_checkKey_deep (P := P) em (10000 - (m + 1)) (m + 1) T hk w d1 _ _ f1 l1
  rw [show 10000 - (m + 1) + (m + 1) = 10000 by omega] at this
  exact this

variable {ρ : MapC → Nat → Hp → Prop}
/-- the entry under a key, and its place -/
def mlookT (K : KK) (kk : Option (Nat × SV) → R MapC) (key : SV) : List (SV × SV) → Nat → R MapC
  | [], _ => kk none
  | (k, v) :: es, i => match eqKey K key k with
    | some b => .br b (kk (some (i, v))) (mlookT K kk key es (i + 1))
    | none => .fail

theorem look_elim {K : KK} {T : TypeId} (hK : K.Ok P T) {kk : Option (Nat × SV) → R MapC} {key : SV} {s : St MapC} {w : World} : ∀ {es : List (SV × SV)} {i : Nat} {xs : List MapEntry},
    xs.map (fun e => (e.key, e.val)) = es.map (fun e => (e.1.den, e.2.den)) → Safe (mlookT K kk key es i) s →
    ∃ r : Option (Nat × SV), Safe (kk r) s ∧ (∀ α β e, Path (kk r) s α β e → Path (mlookT K kk key es i) s α β e) ∧
      (Instr.findAsking T key.den xs i).run P w = .ok (r.map fun x => (x.1, x.2.den)) w ∧
      (∀ q, P.underlying T = some (.int q) → K.ks = [(.int q, 1)] → K.agg = false → Instr.findNow (.int q) key.den xs i = some (r.map fun x => (x.1, x.2.den))) ∧
      (∀ j v, r = some (j, v) → ∃ m k', j = i + m ∧ es[m]? = some (k', v) ∧ k'.cells = key.cells ∧ vk K k' = true ∧ vk K key = true) := by
  intro es
  induction es with
  | nil =>
    intro i xs hx h
    have : xs = [] := by cases xs <;> simp at hx ⊢
    subst this
    exact ⟨none, h, fun α β e p => p, by simp [Instr.findAsking], fun q _ _ _ => by simp [Instr.findNow], by simp⟩
  | cons e es ih =>
    intro i xs hx h
    obtain ⟨k, v⟩ := e
    cases xs with
    | nil => simp at hx
    | cons x xs =>
      simp only [List.map_cons, List.cons.injEq, Prod.mk.injEq] at hx
      obtain ⟨⟨hx1, hx2⟩, hx3⟩ := hx
      simp only [mlookT] at h
      cases hq : eqKey K key k with
      | none => rw [hq] at h; exact h.elim
      | some b =>
        rw [hq] at h
        obtain ⟨e1, e2, e3, e4, e5⟩ := eqKey_run hK hq w
        have now : ∀ q, P.underlying T = some (.int q) → K.ks = [(.int q, 1)] → K.agg = false → Instr.sameNow (.int q) key.den k.den = some b := by
          intro q hu hks hag
          have sh : ∀ {z : SV}, vk K z = true → ∃ n, z.den = .int q n ∧ litL (segsK z) = [.int q n] := by
            intro z hz
            simp only [vk, hag, hks, Bool.and_eq_true] at hz
            obtain ⟨hz1, hz2⟩ := hz
            cases hs : segsOf z with
            | some cs => simp [hs] at hz1
            | none =>
              have e1 : segsK z = [z] := by simp [segsK, hs]
              rw [e1] at hz2 ⊢
              simp only [eatL] at hz2
              cases z <;> simp only [segK, reduceCtorEq, Bool.false_eq_true] at hz2 <;> try (simp [segsOf] at hs; done)
              all_goals
                simp only [eat] at hz2
                split at hz2
                · rename_i hc
                  split at hc
                  · rename_i hh
                    obtain ⟨hh, _⟩ := hh
                    first
                      | (injection hh with hh; subst hh; exact ⟨_, rfl, rfl⟩)
                      | (simp at hh)
                  · simp at hc
                · simp at hz2
          obtain ⟨n1, d1, l1⟩ := sh e2
          obtain ⟨n2, d2, l2⟩ := sh e3
          rw [d1, d2]
          simp only [Instr.sameNow, if_true]
          rw [l1, l2] at e5
          congr 1
          cases b
          · simp only [Bool.false_eq_true, false_iff, List.cons.injEq, Lit.int.injEq, and_true, true_and] at e5
            simpa using e5
          · have := e5.1 rfl
            simp only [List.cons.injEq, Lit.int.injEq, and_true, true_and] at this
            simp [this]
        cases b with
        | true =>
          refine ⟨some (i, v), h, fun α β e p => ?_, ?_, ?_, ?_⟩
          · simp only [mlookT, hq]; exact .brT rfl p
          · simp only [Instr.findAsking, Sem.run_bind, hx1, e1, Result.andThen_ok, if_true, Sem.run_pure, hx2, Option.map_some]
          · intro q hu hks hag
            simp only [Instr.findNow, hx1, now q hu hks hag, hx2, Option.map_some]
          · intro j u hj
            simp only [Option.some.injEq, Prod.mk.injEq] at hj
            obtain ⟨rfl, rfl⟩ := hj
            exact ⟨0, k, rfl, rfl, (e4 rfl).symm, e3, e2⟩
        | false =>
          obtain ⟨r, r1, r2, r3, r4, r5⟩ := ih (i := i + 1) (xs := xs) hx3 h
          refine ⟨r, r1, fun α β e p => ?_, ?_, ?_, ?_⟩
          · simp only [mlookT, hq]; exact .brF rfl (r2 _ _ _ p)
          · simp only [Instr.findAsking, Sem.run_bind, hx1, e1, Result.andThen_ok, Bool.false_eq_true, if_false, r3]
          · intro q hu hks hag
            simp only [Instr.findNow, hx1, now q hu hks hag, r4 q hu hks hag]
          · intro j u hj
            obtain ⟨m, k', h1, h2, h3⟩ := r5 j u hj
            exact ⟨m + 1, k', by omega, by simpa using h2, h3⟩

theorem findKey_run {K : KK} {T : TypeId} (hK : K.Ok P T) {kk : Option (Nat × SV) → R MapC} {key : SV} {s : St MapC} {w : World} {es : List (SV × SV)} {xs : List MapEntry}
    (hx : xs.map (fun e => (e.key, e.val)) = es.map (fun e => (e.1.den, e.2.den))) (h : Safe (mlookT K kk key es 0) s) :
    ∃ r : Option (Nat × SV), Safe (kk r) s ∧ (∀ α β e, Path (kk r) s α β e → Path (mlookT K kk key es 0) s α β e) ∧
      (Instr.findKey T key.den xs).run P w = .ok (r.map fun x => (x.1, x.2.den)) w ∧
      (∀ j v, r = some (j, v) → ∃ k', es[j]? = some (k', v) ∧ k'.cells = key.cells ∧ vk K k' = true ∧ vk K key = true) := by
  obtain ⟨r, h1, h2, h3, h4, h5⟩ := look_elim (w := w) hK hx h
  refine ⟨r, h1, h2, ?_, ?_⟩
  · obtain ⟨d, m, _, _, _, hagg, _, hp⟩ := hK
    unfold Instr.findKey
    cases hag : K.agg with
    | false =>
      obtain ⟨q, hq, hu⟩ := hp hag
      simp only [Sem.run_bind, run_underlying hu, Result.andThen_ok, h4 q hu hq hag, Sem.run_pure]
    | true =>
      rw [hag] at hagg
      cases hu : P.underlying T with
      | none => rw [hu] at hagg; simp [isAggT] at hagg
      | some td =>
        simp only [Sem.run_bind, run_underlying hu, Result.andThen_ok]
        cases xs with
        | nil =>
          have : es = [] := by cases es <;> simp at hx ⊢
          subst this
          simp only [Instr.findNow]
          simp only [Instr.findAsking, Sem.run_pure] at h3 ⊢
          exact h3
        | cons x xs =>
          have : Instr.findNow td key.den (x :: xs) 0 = none := by
            rw [hu] at hagg
            cases td <;> simp [isAggT] at hagg <;> simp [Instr.findNow, Instr.sameNow]
          rw [this]
          exact h3
  · intro j v hj
    obtain ⟨m, k', e1, e2, e3, e4, e5⟩ := h5 j v hj
    rw [Nat.zero_add] at e1
    subst e1
    exact ⟨k', e2, e3, e4, e5⟩

theorem satH.map {F : Hp → Prop} {h : Nat → Option (Nat × CH MapC)} {g : Hp} (x : satH rhoM F h g) {k n : Nat} {m : MapC} (hk : h k = some (n, .obj m)) :
    ∃ (xs : List MapEntry) (clock : Nat), g n = some (.map xs.toArray clock) ∧ xs.map (fun e => (e.key, e.val)) = m.es.map (fun e => (e.1.den, e.2.den)) ∧
      ∀ (m' : MapC) (xs' : List MapEntry) (clock' : Nat), xs'.map (fun e => (e.key, e.val)) = m'.es.map (fun e => (e.1.den, e.2.den)) →
        satH rhoM F (fun j => if j = k then some (n, .obj m') else h j) (fun b => if b = n then some (.map xs'.toArray clock') else g b) := by
  obtain ⟨gk, gr, h1, h2, h3, h4, h5, h6⟩ := x.focus k
  rw [hk] at h1
  obtain ⟨xs, clock, e1, e2⟩ : rhoM m n gk := h1
  subst e1
  refine ⟨xs, clock, h3 n _ (one_self _ _), e2, ?_⟩
  intro m' xs' clock' he
  have hn : gr n = none := by rw [h5]; simp [one_self]
  refine h6 n (.obj m') (one n (.map xs'.toArray clock')) _ ⟨xs', clock', rfl, he⟩ (Dj_one.2 hn) ?_ ?_
  · intro b o hb; obtain ⟨rfl, rfl⟩ := one_some hb; simp
  · intro b o hb
    have hbn : b ≠ n := by intro e; subst e; rw [hn] at hb; exact absurd hb (by simp)
    simp [hbn, h4 b o hb]

theorem run_setObj_map {w : World} {r : Nat} {es : Array MapEntry} {c : Nat} (hr : w.heap[r]? = some (.map es c)) (o' : Obj) : (setObj r o').run P w = .ok () { w with heap := w.heap.setIfInBounds r o' } := by
  simp [setObj, Sem.run, hr]
theorem run_getObj_map {w : World} {r : Nat} {es : Array MapEntry} {c : Nat} (hr : w.heap[r]? = some (.map es c)) : (getObj r).run P w = .ok (.map es c) w := by
  simp [getObj, Sem.run, hr]
theorem hp_setObj {w : World} {r : Nat} {o : Obj} (hr : w.heap[r]? = some o) (o' : Obj) : hp { w with heap := w.heap.setIfInBounds r o' } = fun b => if b = r then some o' else hp w b := by
  have hlt : r < w.heap.size := by
    rcases Nat.lt_or_ge r w.heap.size with h | h
    · exact h
    · rw [Array.getElem?_eq_none h] at hr; simp at hr
  funext b
  simp only [hp, Array.getElem?_setIfInBounds]
  by_cases e : b = r
  · subst e; simp [hlt]
  · simp [e, Ne.symm e]

/-! ## a new map -/
def mkmapR : Spec MapC := fun d vs => match vs with | [] => .all Nat 0 fun n => .ret (.mp d n, [(d, some (n, .obj ⟨[]⟩))]) | _ => .fail
theorem xok_mkmap {T : TypeId} : XOk rhoM P (.mkmap T) mkmapR := by
  intro o xs d vs F c s a w ht hv hsat hsame hsafe
  have h1 : o.op = .makeMap T none ∧ xs = [] := by
    revert ht
    unfold tagOf
    split <;> simp only [Option.some.injEq, Prod.mk.injEq, reduceCtorEq, XTag.mkmap.injEq, false_and, and_false, false_implies]
    rintro ⟨rfl, rfl⟩
    exact ⟨by assumption, rfl⟩
  obtain ⟨h1, rfl⟩ := h1
  unfold mkmapR at hsafe
  split at hsafe
  case h_2 => exact hsafe.elim
  refine ⟨[], [], (.mp d w.heap.size, [(d, some (w.heap.size, .obj ⟨[]⟩))]), { w with heap := w.heap.push (.map #[] 0) }, .all w.heap.size .ret, .inl ?_, ?_, ⟨hsame.tape, hsame.os, hsame.output⟩⟩
  · have hex : execOp a.eval o = (do let q ← Instr.makeMap T none; pure (.value q)) := by unfold execOp; rw [h1]; rfl
    rw [hex]
    simp [Instr.makeMap, SV.den]
  · rw [hp_push]
    exact hsat.new (hp_size w) ⟨[], 0, rfl, rfl⟩

/-! ## an entry read -/
theorem tag_lookup {o : Op} {T : TypeId} {ok : Bool} {xs : List Operand} (h : tagOf o = some (.lookup T ok, xs)) : ∃ x y, o = .lookup T x y ok ∧ xs = [x, y] := by
  unfold tagOf at h
  split at h <;> simp only [Option.some.injEq, Prod.mk.injEq, reduceCtorEq, XTag.lookup.injEq, false_and, and_false] at h
  obtain ⟨⟨rfl, rfl⟩, rfl⟩ := h
  exact ⟨_, _, rfl, rfl⟩
def gotV (zero : SV) (ok : Bool) (r : Option (Nat × SV)) : SV :=
  match ok, r with
  | true, some (_, v) => .tup [v, .b true]
  | true, none => .tup [zero, .b false]
  | false, some (_, v) => v
  | false, none => zero
def lookupR (K : KK) (zero : SV) (ok : Bool) : Spec MapC := fun d vs =>
  match vs with
  | [.mp k n, key] => .rdH k fun c => match c with
    | some (n', .obj m) => .asame n n' (match vk K key with | true => mlookT K (fun r => .ret (gotV zero ok r, [])) key m.es 0 | false => .fail)
    | _ => .fail
  | _ => .fail
theorem xok_lookup {T k e : TypeId} {ok : Bool} {K : KK} {i : TypeInfo} {zv : Value} {zero : SV} (hT : P.underlying T = some (.map k e)) (hK : K.Ok P k) (hi : P.info? e = some i) (hz : i.zero = some zv) (hzd : zv = zero.den) :
    XOk rhoM P (.lookup T ok) (lookupR K zero ok) := by
  intro o xs d vs F c s a w ht hv hsat hsame hsafe
  obtain ⟨x, y, h1, rfl⟩ := tag_lookup ht
  unfold lookupR at hsafe
  split at hsafe
  case h_2 => exact hsafe.elim
  rename_i kk n key
  simp only [denL_eq, List.map_cons, List.map_nil, List.cons.injEq, and_true] at hv
  obtain ⟨hx, hy⟩ := hv
  have hsafe : Safe _ s := hsafe
  cases hk : s.h kk with
  | none => simp [Safe, R.T, hk] at hsafe
  | some q =>
    obtain ⟨n', ch⟩ := q
    cases ch with
    | cells => simp [Safe, R.T, hk] at hsafe
    | ro => simp [Safe, R.T, hk] at hsafe
    | sy => simp [Safe, R.T, hk] at hsafe
    | obj m =>
      simp only [Safe, R.T, hk] at hsafe
      obtain ⟨h2, hsafe⟩ := hsafe
      have h2 : n = n' := h2
      subst h2
      cases hvk : vk K key with
      | false => simp [hvk, R.T] at hsafe
      | true =>
        simp only [hvk] at hsafe
        obtain ⟨es, clock, g1, g2, _⟩ := hsat.map hk
        obtain ⟨r, r1, r2, r3, r4⟩ := findKey_run (w := w) hK g2 (R.T_mono _ (fun _ _ _ _ => trivial) hsafe)
        refine ⟨[], [kk], (gotV zero ok r, []), w, ?_, .inl ?_, hsat, hsame⟩
        · unfold lookupR
          refine .rdH ?_
          rw [hk]
          refine .same rfl ?_
          simp only [hvk]
          exact r2 _ _ _ .ret
        · have hex : execOp a.eval o = (do let q ← Instr.lookup T (a.eval x) (a.eval y) ok; pure (.value q)) := by unfold execOp; rw [h1]
          rw [hex, hx, hy]
          have g1' : w.heap[n]? = some (.map es.toArray clock) := g1
          simp only [SV.den, Instr.lookup, Sem.run_bind, run_underlying hT, Result.andThen_ok, run_getObj_map g1', Sem.run_pure, checkKey_run hK hvk, r3, zeroValue, info_run hi, hz]
          cases r with
          | none => cases ok <;> simp [gotV, hzd, SV.den, denL, zeroValue, info_run hi, hz]
          | some p => obtain ⟨j, v⟩ := p; cases ok <;> simp [gotV, SV.den, denL]

/-! ## an entry written, an entry taken out -/
def esSet : List (SV × SV) → Nat → (SV × SV) → List (SV × SV)
  | [], _, _ => []
  | _ :: l, 0, e => e :: l
  | x :: l, i + 1, e => x :: esSet l i e
def esDel : List (SV × SV) → Nat → List (SV × SV)
  | [], _ => []
  | _ :: l, 0 => l
  | x :: l, i + 1 => x :: esDel l i
theorem modify_den {k v : Value} {key val : SV} (hk : k = key.den) (hv : v = val.den) : ∀ {es : List (SV × SV)} {xs : List MapEntry} (i : Nat), xs.map (fun e => (e.key, e.val)) = es.map (fun e => (e.1.den, e.2.den)) →
    (xs.modify i fun e => { e with key := k, val := v }).map (fun e => (e.key, e.val)) = (esSet es i (key, val)).map fun e => (e.1.den, e.2.den) := by
  intro es
  induction es with
  | nil => intro xs i h; cases xs <;> simp at h; cases i <;> simp [esSet]
  | cons e es ih =>
    intro xs i h
    cases xs with
    | nil => simp at h
    | cons x xs =>
      simp only [List.map_cons, List.cons.injEq] at h
      cases i with
      | zero => simp [esSet, h.2, hk, hv]
      | succ i => simp [esSet, h.1, ih i h.2]
theorem erase_den : ∀ {es : List (SV × SV)} {xs : List MapEntry} (i : Nat), xs.map (fun e => (e.key, e.val)) = es.map (fun e => (e.1.den, e.2.den)) →
    (xs.eraseIdx i).map (fun e => (e.key, e.val)) = (esDel es i).map fun e => (e.1.den, e.2.den) := by
  intro es
  induction es with
  | nil => intro xs i h; cases xs <;> simp at h; cases i <;> simp [esDel]
  | cons e es ih =>
    intro xs i h
    cases xs with
    | nil => simp at h
    | cons x xs =>
      simp only [List.map_cons, List.cons.injEq] at h
      cases i with
      | zero => simp [esDel, h.2]
      | succ i => simp [esDel, h.1, ih i h.2]
theorem sameBits_fit {n : Nat} : ∀ {ks : List IK} {cs : List Value} {ls : List Lit}, Fit ks cs ls → ((cs.zip cs).all fun (x, y) => Instr.sameBits n x y) = true := by
  intro ks
  induction ks with
  | nil => intro cs ls h; cases cs <;> cases ls <;> simp [Fit] at h ⊢
  | cons k ks ih =>
    intro cs ls h
    cases k <;> cases cs <;> try (simp [Fit] at h; done)
    all_goals (rename_i c cs; cases c <;> try (simp [Fit] at h; done))
    all_goals (cases ls <;> try (simp [Fit] at h; done))
    all_goals (rename_i l ls; cases l <;> try (simp [Fit] at h; done))
    · simp only [Fit] at h
      have := ih h.2
      simp only [List.zip_cons_cons, List.all_cons, this, Bool.and_true]
      cases n <;> simp [Instr.sameBits]
    · simp only [Fit] at h
      have := ih h.2.2.2.2
      simp only [List.zip_cons_cons, List.all_cons, this, Bool.and_true]
      cases n <;> simp [Instr.sameBits]
theorem vk_same {K : KK} {T : TypeId} {x y : SV} (hK : K.Ok P T) (hx : vk K x = true) (hy : vk K y = true) (h : x.cells = y.cells) : x.den = y.den ∧ Instr.sameBits 10000 x.den y.den = true := by
  have form : ∀ {z : SV}, vk K z = true → (K.agg = true → z.den = .agg z.cells.toArray) ∧ (K.agg = false → ∃ q n, z.den = .int q n ∧ z.cells = [z.den]) := by
    intro z hz
    have hz0 := hz
    simp only [vk, Bool.and_eq_true] at hz
    obtain ⟨hz1, hz2⟩ := hz
    constructor
    · intro hag
      rw [hag] at hz1
      cases hs : segsOf z with
      | none => simp [hs] at hz1
      | some cs =>
        have := segsOf_den hs
        rw [this]; simp [SV.cells, this, Value.cells]
    · intro hag
      obtain ⟨_, _, _, _, _, _, _, hp⟩ := hK
      obtain ⟨q, hq, hu⟩ := hp hag
      rw [hag] at hz1
      rw [hq] at hz2
      cases hs : segsOf z with
      | some cs => simp [hs] at hz1
      | none =>
        have e1 : segsK z = [z] := by simp [segsK, hs]
        rw [e1] at hz2
        simp only [eatL] at hz2
        cases z <;> simp only [segK, reduceCtorEq, Bool.false_eq_true] at hz2 <;> try (simp [segsOf] at hs; done)
        all_goals first
          | exact ⟨_, _, rfl, rfl⟩
          | (simp [eat] at hz2)
  have hxy : x.den = y.den := by
    cases hag : K.agg with
    | true => rw [(form hx).1 hag, (form hy).1 hag, h]
    | false =>
      obtain ⟨q, n, e1, e2⟩ := (form hx).2 hag
      obtain ⟨q', n', e3, e4⟩ := (form hy).2 hag
      rw [e2, e4] at h
      simpa using h
  refine ⟨hxy, ?_⟩
  rw [← hxy]
  cases hag : K.agg with
  | false =>
    obtain ⟨q, n, e1, e2⟩ := (form hx).2 hag
    rw [e1]; simp [Instr.sameBits]
  | true =>
    obtain ⟨_, _, hf⟩ := vk_ok hK hx
    rw [(form hx).1 hag]
    simp only [Instr.sameBits, beq_self_eq_true, Bool.true_and]
    exact sameBits_fit hf

theorem tag_update {o : Op} {T : TypeId} {xs : List Operand} (h : tagOf o = some (.update T, xs)) : ∃ m k v, o = .mapUpdate T m k v ∧ xs = [m, k, v] := by
  unfold tagOf at h
  split at h <;> simp only [Option.some.injEq, Prod.mk.injEq, reduceCtorEq, XTag.update.injEq, false_and, and_false] at h
  obtain ⟨rfl, rfl⟩ := h
  exact ⟨_, _, _, rfl, rfl⟩
def putM (m : MapC) (key val : SV) (r : Option (Nat × SV)) : MapC := match r with | some (j, _) => ⟨esSet m.es j (key, val)⟩ | none => ⟨m.es ++ [(key, val)]⟩
def updateR (K : KK) : Spec MapC := fun d vs =>
  match vs with
  | [.mp k n, key, val] => .rdH k fun c => match c with
    | some (n', .obj m) => .asame n n' (match vk K key with | true => mlookT K (fun r => .ret (.und, [(k, some (n, .obj (putM m key val r)))])) key m.es 0 | false => .fail)
    | _ => .fail
  | _ => .fail
theorem xok_update {T k e : TypeId} {K : KK} (hT : P.underlying T = some (.map k e)) (hK : K.Ok P k) : XOk rhoM P (.update T) (updateR K) := by
  intro o xs d vs F c s a w ht hv hsat hsame hsafe
  obtain ⟨x, y, z, h1, rfl⟩ := tag_update ht
  unfold updateR at hsafe
  split at hsafe
  case h_2 => exact hsafe.elim
  rename_i kk n key val
  simp only [denL_eq, List.map_cons, List.map_nil, List.cons.injEq, and_true] at hv
  obtain ⟨hx, hy, hz⟩ := hv
  have hsafe : Safe _ s := hsafe
  cases hk : s.h kk with
  | none => simp [Safe, R.T, hk] at hsafe
  | some q =>
    obtain ⟨n', ch⟩ := q
    cases ch with
    | cells => simp [Safe, R.T, hk] at hsafe
    | ro => simp [Safe, R.T, hk] at hsafe
    | sy => simp [Safe, R.T, hk] at hsafe
    | obj m =>
      simp only [Safe, R.T, hk] at hsafe
      obtain ⟨h2, hsafe⟩ := hsafe
      have h2 : n = n' := h2
      subst h2
      cases hvk : vk K key with
      | false => simp [hvk, R.T] at hsafe
      | true =>
        simp only [hvk] at hsafe
        obtain ⟨es, clock, g1, g2, g3⟩ := hsat.map hk
        obtain ⟨r, r1, r2, r3, r4⟩ := findKey_run (w := w) hK g2 (R.T_mono _ (fun _ _ _ _ => trivial) hsafe)
        have g1' : w.heap[n]? = some (.map es.toArray clock) := g1
        have pth : Path (updateR K d [.mp kk n, key, val]) s [] [kk] (.und, [(kk, some (n, .obj (putM m key val r)))]) := by
          unfold updateR
          refine .rdH ?_
          rw [hk]
          refine .same rfl ?_
          simp only [hvk]
          exact r2 _ _ _ .ret
        have hex : execOp a.eval o = (do Instr.mapUpdate T (a.eval x) (a.eval y) (a.eval z); pure .skip) := by unfold execOp; rw [h1]
        have fin : ∀ (xs' : List MapEntry) (clock' : Nat), xs'.map (fun e => (e.key, e.val)) = (putM m key val r).es.map (fun e => (e.1.den, e.2.den)) →
            (Instr.mapUpdate T (a.eval x) (a.eval y) (a.eval z)).run P w = .ok () { w with heap := w.heap.setIfInBounds n (.map xs'.toArray clock') } →
            ∃ α β eff w', Path (updateR K d [.mp kk n, key, val]) s α β eff ∧ ((execOp a.eval o).run P w = .ok (.value eff.1.den) w' ∨ ((execOp a.eval o).run P w = .ok .skip w' ∧ eff.1 = .und)) ∧ satH rhoM F (putH s.h eff.2) (hp w') ∧ Same c w' := by
          intro xs' clock' he hr
          refine ⟨_, _, _, { w with heap := w.heap.setIfInBounds n (.map xs'.toArray clock') }, pth, .inr ⟨?_, rfl⟩, ?_, ?_⟩
          · rw [hex]; simp only [Sem.run_bind, hr, Result.andThen_ok, Sem.run_pure]
          · rw [hp_setObj g1']
            exact g3 _ _ clock' he
          · exact ⟨hsame.tape, hsame.os, hsame.output⟩
        cases r with
        | none =>
          refine fin (es ++ [{ key := key.den, val := val.den, born := clock }]) (clock + 1) (by simp [putM, g2]) ?_
          rw [hx, hy, hz]
          simp only [SV.den, Instr.mapUpdate, Sem.run_bind, run_underlying hT, Result.andThen_ok, run_getObj_map g1', checkKey_run hK hvk, r3, Option.map_none, run_setObj_map g1']
          simp
        | some p =>
          obtain ⟨j, v⟩ := p
          obtain ⟨k', e1, e2, e3, e4⟩ := r4 j v rfl
          obtain ⟨e5, e6⟩ := vk_same hK e3 e4 e2
          have hj : es[j]?.map (fun e => (e.key, e.val)) = some (k'.den, v.den) := by
            rw [← List.getElem?_map, g2, List.getElem?_map, e1]; rfl
          obtain ⟨ej, hej, hke⟩ : ∃ ej, es[j]? = some ej ∧ ej.key = k'.den := by
            cases hh : es[j]? with
            | none => simp [hh] at hj
            | some ej => simp [hh] at hj; exact ⟨ej, rfl, hj.1⟩
          refine fin (es.modify j fun e => { e with key := key.den, val := val.den }) clock (modify_den rfl rfl j g2) ?_
          rw [hx, hy, hz]
          have hold : ((es.toArray[j]?).map (·.key)).getD key.den = k'.den := by simp [hej, hke]
          simp only [SV.den, Instr.mapUpdate, Sem.run_bind, run_underlying hT, Result.andThen_ok, run_getObj_map g1', checkKey_run hK hvk, r3, Option.map_some, hold, Instr.keyThatStays, e6, if_true, Sem.run_pure, run_setObj_map g1']
          simp
end Go.Eng
