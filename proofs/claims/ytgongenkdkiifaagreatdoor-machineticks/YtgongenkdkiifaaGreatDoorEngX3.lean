/- Families of operations on slices: cut, made of parts, grown. -/
import Derived.Test.YtgongenkdkiifaaGreatDoorEngX2
set_option linter.unusedSimpArgs false
set_option linter.unusedVariables false
namespace Go.Eng
variable {U : Type} {ρ : U → Nat → Hp → Prop} {P : Program}

/-! ## a part of a slice -/
theorem tag_slice {o : Op} {T : TypeId} {lo hi : Bool} {xs : List Operand} (h : tagOf o = some (.slice T lo hi, xs)) :
    ∃ x l r, o = .slice T x l r none ∧ xs = x :: l.toList ++ r.toList ∧ l.isSome = lo ∧ r.isSome = hi := by
  unfold tagOf at h
  split at h <;> simp only [Option.some.injEq, Prod.mk.injEq, reduceCtorEq, XTag.slice.injEq, false_and, and_false] at h <;> obtain ⟨⟨rfl, rfl, rfl⟩, rfl⟩ := h
  all_goals exact ⟨_, _, _, rfl, rfl, rfl, rfl⟩
def cutS (sz : Nat) (k n b o cap l h : Nat) : SV := .slc k n b (cond (Nat.beq cap l) o (o + l * sz)) (h - l) (cap - l)
/-- decided without a look at how large c is -/
def decSl (l : Int) (c : Nat) : Decidable (0 ≤ l ∧ l ≤ (c : Int)) :=
  match l with
  | .ofNat k => match h : Nat.ble k c with
    | true => isTrue ⟨Int.natCast_nonneg k, Int.ofNat_le.2 (Nat.le_of_ble_eq_true h)⟩
    | false => isFalse fun e => by
        have := Int.ofNat_le.1 e.2
        rw [Nat.ble_eq_true_of_le this] at h
        exact absurd h (by simp)
  | .negSucc k => isFalse fun e => absurd e.1 (by simp)
def decSl2 (l h : Int) : Decidable (0 ≤ l ∧ l ≤ h) :=
  match h with
  | .ofNat k => decSl l k
  | .negSucc k => isFalse fun e => by have := Int.le_trans e.1 e.2; exact absurd this (by simp)
def sliceF (sz : Nat) (lo hi : Bool) : List SV → Option (List DP × SV)
  | [.slc k n b o len cap, .i l] =>
    match lo, hi with
    | true, false => some ([⟨0 ≤ l ∧ l ≤ len, decSl l len⟩], cutS sz k n b o cap l.toNat len)
    | false, true => some ([⟨0 ≤ l ∧ l ≤ cap, decSl l cap⟩], .slc k n b o l.toNat cap)
    | _, _ => none
  | [.slc k n b o len cap, .i l, .i h] => match lo, hi with | true, true => some ([⟨0 ≤ h ∧ h ≤ cap, decSl h cap⟩, ⟨0 ≤ l ∧ l ≤ h, decSl2 l h⟩], cutS sz k n b o cap l.toNat h.toNat) | _, _ => none
  | [.nils, .i l] => match lo, hi with | true, false => some ([l = 0], .nils) | false, true => some ([l = 0], .nils) | _, _ => none
  | _ => none
theorem cutS_den (sz k n b o cap l h : Nat) : (cutS sz k n b o cap l h).den = .slice (if cap = l then some ⟨n, b + o, none⟩ else (some ⟨n, b + o, none⟩ : Option Addr).map (·.add (l * sz))) (h - l) (cap - l) := by
  unfold cutS
  by_cases e : cap = l
  · subst e; simp [SV.den]
  · have : Nat.beq cap l = false := by
      cases hb : Nat.beq cap l with
      | false => rfl
      | true => exact absurd (Nat.eq_of_beq_eq_true hb) e
    simp [this, e, SV.den, Addr.add, Nat.add_assoc]
theorem xok_slice {T e : TypeId} {lo hi : Bool} {i : TypeInfo} {sz : Nat} (hT : P.underlying T = some (.slice e)) (hi' : P.info? e = some i) (hsz : i.size = sz) : XOk ρ P (.slice T lo hi) (pureSp (U := U) (sliceF sz lo hi)) := by
  refine xok_pure ?_
  intro o xs a vs w p v ht hv hf hp
  obtain ⟨x, l, r, h1, rfl, rfl, rfl⟩ := tag_slice ht
  have hex : execOp a.eval o = (do let q ← Instr.sliceAt T (a.eval x) (l.map a.eval) (r.map a.eval) none; pure (.value q)) := by unfold execOp; rw [h1]; rfl
  rw [hex]
  rw [denL_eq] at hv
  have hs1 : ∀ (ad : Option Addr) (len cap : Nat) (z : Int), 0 ≤ z → z ≤ len → (Instr.sliceAt T (.slice ad len cap) (some (.int .i64 z)) none none).run P w = .ok (.slice (if cap = z.toNat then ad else ad.map (·.add (z.toNat * sz))) (len - z.toNat) (cap - z.toNat)) w := by
    intro ad len cap z h0 h1
    simp [Instr.sliceAt, run_underlying hT, Instr.slice, Instr.sliceBounds, Instr.sliceBound, asIntOf, h0, h1, sizeOf, info_run hi', hsz]
  have hs2 : ∀ (ad : Option Addr) (len cap : Nat) (z : Int), 0 ≤ z → z ≤ cap → (Instr.sliceAt T (.slice ad len cap) none (some (.int .i64 z)) none).run P w = .ok (.slice (if cap = 0 then ad else ad.map (·.add 0)) z.toNat cap) w := by
    intro ad len cap z h0 h1
    simp [Instr.sliceAt, run_underlying hT, Instr.slice, Instr.sliceBounds, Instr.sliceBound, asIntOf, h0, h1, sizeOf, info_run hi', hsz]
  have hs3 : ∀ (ad : Option Addr) (len cap : Nat) (y z : Int), 0 ≤ z → z ≤ cap → 0 ≤ y → y ≤ z → (Instr.sliceAt T (.slice ad len cap) (some (.int .i64 y)) (some (.int .i64 z)) none).run P w = .ok (.slice (if cap = y.toNat then ad else ad.map (·.add (y.toNat * sz))) (z.toNat - y.toNat) (cap - y.toNat)) w := by
    intro ad len cap y z h0 h1 h2 h3
    have h4 : y ≤ (z.toNat : Int) := by omega
    simp only [Instr.sliceAt, Sem.run_bind, run_underlying hT, Result.andThen_ok, Instr.slice, Instr.sliceBounds, Instr.sliceBound, asIntOf, Sem.run_pure, h0, h1, h2, h4, and_self, if_true, sizeOf, info_run hi', hsz]
  have add0 : ∀ (n o : Nat), (⟨n, o, none⟩ : Addr).add 0 = ⟨n, o, none⟩ := by intro n o; simp [Addr.add]
  unfold sliceF at hf
  split at hf
  · rename_i k n b off len cap z
    cases l with
    | none =>
      cases r with
      | none => simp at hf
      | some r =>
        simp only [Option.isSome_none, Option.isSome_some, Option.some.injEq, Prod.mk.injEq] at hf
        obtain ⟨rfl, rfl⟩ := hf
        obtain ⟨h2, h3⟩ := hp
        simp only [Option.toList_none, Option.toList_some, List.append_nil, List.singleton_append, List.map_cons, List.map_nil, List.cons.injEq, and_true] at hv
        simp [hv.1, hv.2, SV.den, hs2 _ _ _ _ h2 h3, add0]
    | some l =>
      cases r with
      | none =>
        simp only [Option.isSome_none, Option.isSome_some, Option.some.injEq, Prod.mk.injEq] at hf
        obtain ⟨rfl, rfl⟩ := hf
        obtain ⟨h2, h3⟩ := hp
        simp only [Option.toList_none, Option.toList_some, List.append_nil, List.singleton_append, List.map_cons, List.map_nil, List.cons.injEq, and_true] at hv
        rw [cutS_den]
        simp [hv.1, hv.2, SV.den, hs1 _ _ _ _ h2 h3]
      | some r => simp at hf
  · rename_i k n b off len cap z y
    cases l with
    | none => simp at hf
    | some l =>
      cases r with
      | none => simp at hf
      | some r =>
        simp only [Option.isSome_some, Option.some.injEq, Prod.mk.injEq] at hf
        obtain ⟨rfl, rfl⟩ := hf
        have hp : (0 ≤ y ∧ y ≤ cap) ∧ (0 ≤ z ∧ z ≤ y) := hp
        obtain ⟨⟨h2, h3⟩, h4, h5⟩ := hp
        simp only [Option.toList_some, List.singleton_append, List.cons_append, List.nil_append, List.map_cons, List.map_nil, List.cons.injEq, and_true] at hv
        rw [cutS_den]
        simp [hv.1, hv.2.1, hv.2.2, SV.den, hs3 _ _ _ _ _ h2 h3 h4 h5]
  · rename_i z
    cases l with
    | none =>
      cases r with
      | none => simp at hf
      | some r =>
        simp only [Option.isSome_none, Option.isSome_some, Option.some.injEq, Prod.mk.injEq] at hf
        obtain ⟨rfl, rfl⟩ := hf
        have hp : z = 0 := hp
        subst hp
        simp only [Option.toList_none, Option.toList_some, List.append_nil, List.singleton_append, List.map_cons, List.map_nil, List.cons.injEq, and_true] at hv
        simp [hv.1, hv.2, SV.den, hs2 none 0 0 0 (by decide) (by decide)]
    | some l =>
      cases r with
      | none =>
        simp only [Option.isSome_none, Option.isSome_some, Option.some.injEq, Prod.mk.injEq] at hf
        obtain ⟨rfl, rfl⟩ := hf
        have hp : z = 0 := hp
        subst hp
        simp only [Option.toList_none, Option.toList_some, List.append_nil, List.singleton_append, List.map_cons, List.map_nil, List.cons.injEq, and_true] at hv
        simp [hv.1, hv.2, SV.den, hs1 none 0 0 0 (by decide) (by decide)]
      | some r => simp at hf
  · simp at hf

/-! ## a slice of parts -/
theorem tag_bsl {o : Op} {T : TypeId} {n : Nat} {is : List Nat} {xs : List Operand} (h : tagOf o = some (.bsl T n is, xs)) : ∃ ps : Array (Nat × Operand), o = .buildSlice T n ps ∧ is = ps.toList.map (·.1) ∧ xs = ps.toList.map (·.2) := by
  unfold tagOf at h
  split at h <;> simp only [Option.some.injEq, Prod.mk.injEq, reduceCtorEq, XTag.bsl.injEq, false_and, and_false] at h
  obtain ⟨⟨rfl, rfl, rfl⟩, rfl⟩ := h
  exact ⟨_, rfl, rfl, rfl⟩
def bslR (sz n : Nat) (is : List Nat) (zs : List SV) (e : TypeId) : Spec U := fun d vs =>
  .asrt (vs.length = is.length) (buildR (fun l => .all Nat 0 fun b => .ret (.slc d b 0 0 n n, [(d, some (b, .cells l e))])) zs (List.zipWith (fun i v => (i * sz, sz, v)) is vs))
def zeroRow (P : Program) (e : TypeId) (k : Nat) : List Value :=
  match P.info? e with
  | some i => match i.zero with | some z => if k * i.size = 0 then [] else (List.range (k * i.size)).map fun j => z.cells[j % z.cells.size]! | none => []
  | none => []
theorem xok_bsl {T e : TypeId} {n sz : Nat} {is : List Nat} {i : TypeInfo} {z : Value} {zs : List SV} (hT : P.underlying T = some (.slice e)) (hi : P.info? e = some i) (hz : i.zero = some z) (hsz : i.size = sz) (hsm : n * sz ≤ 2 ^ 24)
    (hzs : eqVL (zeroRow P e n) zs = true) : XOk ρ P (.bsl T n is) (bslR (U := U) sz n is zs e) := by
  intro o xs d vs F c s a w ht hv hsat hsame hsafe
  obtain ⟨ps, h1, rfl, rfl⟩ := tag_bsl ht
  have hex : execOp a.eval o = (do let q ← Instr.buildSlice T n (ps.map fun (i, x) => (i, a.eval x)); pure (.value q)) := by unfold execOp; rw [h1]
  obtain ⟨hlen, hsafe⟩ := hsafe
  replace hsafe : Safe (buildR (fun l => .all Nat 0 fun b => .ret (.slc d b 0 0 n n, [(d, some (b, .cells l e))])) zs (List.zipWith (fun i v => (i * sz, sz, v)) (ps.toList.map fun x => x.1) vs) : R U) s := hsafe
  rw [denL_eq, List.map_map] at hv
  have hl2 : vs.length = ps.toList.length := by simpa using hlen
  obtain ⟨l, g1, _, g3⟩ := fill_run (place := fun i => some (i * sz, sz)) (kk := fun l => .all Nat 0 fun b => .ret (.slc d b 0 0 n n, [(d, some (b, .cells l e))])) (s := s) (ps.toList.map fun x => (x.1, a.eval x.2)) (List.zipWith (fun i v => (i * sz, sz, v)) (ps.toList.map fun x => x.1) vs) zs (by
      have e1 : (List.map (fun x => (x.1, a.eval x.2)) ps.toList).map (·.2) = vs.map SV.den := by rw [← hv, List.map_map]; rfl
      rw [e1]
      apply List.ext_getElem?
      intro j
      simp only [List.getElem?_map, List.getElem?_zipWith]
      by_cases hj : j < vs.length
      · have : j < ps.size := by simpa [hl2] using hj
        simp [hj, this]
      · simp [List.getElem?_eq_none (show vs.length ≤ j by omega)]) (by
      intro j x p hx hp
      simp only [List.getElem?_map, List.getElem?_zipWith, Option.map_eq_some_iff] at hx hp
      obtain ⟨y, hy, rfl⟩ := hx
      rw [hy] at hp
      simp only [Option.map_some] at hp
      cases hvj : vs[j]? with
      | none => simp [hvj] at hp
      | some v => simp only [hvj, Option.some.injEq] at hp; subst hp; rfl) hsafe
  obtain ⟨α, β, q⟩ := g3 _ _ _ (.all w.heap.size .ret)
  have hzc : cellsL zs = zeroRow P e n := (eqVL_den hzs).symm
  refine ⟨α, β, _, { w with heap := w.heap.push (.cells (cellsL l).toArray e) }, .need hlen q, .inl ?_, ?_, ⟨hsame.tape, hsame.os, hsame.output⟩⟩
  · rw [hex]
    have e2 : (ps.map fun (i, x) => (i, a.eval x)).toList = ps.toList.map fun x => (x.1, a.eval x.2) := by simp
    have e3 : zeroRow P e n = if n * i.size = 0 then [] else (List.range (n * i.size)).map fun j => z.cells[j % z.cells.size]! := by simp [zeroRow, hi, hz]
    rw [hzc, e3] at g1
    unfold Instr.buildSlice
    simp only [Sem.run_bind, run_underlying hT, Result.andThen_ok, sizeOf, info_run hi, Sem.run_pure, hsz]
    rw [if_neg (by omega)]
    rw [hsz] at g1
    by_cases h0 : n * sz = 0
    · simp only [h0, if_true] at g1 ⊢
      simp only [Sem.run_bind, Sem.run_pure, Result.andThen_ok, e2]
      have e4 : ((Array.range 0).map (fun x => (#[] : Array Value)[x % (#[] : Array Value).size]!)) = ([] : List Value).toArray := by simp
      rw [e4, g1]
      simp [newRow, SV.den]
    · simp only [h0, if_false] at g1 ⊢
      have e4 : ((Array.range (n * sz)).map (fun x => z.cells[x % z.cells.size]!)) = ((List.range (n * sz)).map fun j => z.cells[j % z.cells.size]!).toArray := by
        apply Array.ext'; simp
      simp only [Sem.run_bind, Sem.run_pure, Result.andThen_ok, e2, zeroValue, info_run hi, hz]
      rw [e4, g1]
      simp [newRow, SV.den]
  · rw [hp_push]
    exact hsat.new (hp_size w) rfl

/-! ## a slice that grows -/
def SV.cl : SV → Nat
  | .r8 n _ => n
  | .r32 n _ => n
  | .r64 n _ => n
  | .ri n _ => n
  | .rv n _ => n
  | .any n _ => n
  | .agg cs => (cellsL cs).length
  | _ => 1
theorem cl_den (v : SV) : v.cells.length = v.cl := by
  cases v
  case und => rfl
  case val v => simp only [SV.cl, SV.cells, SV.den]; rw [cells_of_one (oneV_one v)]; rfl
  case agg cs => simp [SV.cl, SV.cells, SV.den, Value.cells, cellsL]
  all_goals (simp [SV.cl, SV.cells, SV.den, Value.cells]; done)
def lenS : List SV → Nat
  | [] => 0
  | v :: vs => v.cl + lenS vs
theorem lenS_den (vs : List SV) : (cellsL vs).length = lenS vs := by
  induction vs with
  | nil => simp [lenS, cellsL_nil]
  | cons v vs ih => rw [cellsL_cons, List.length_append, ih, cl_den, lenS]
theorem lenS_append (a b : List SV) : lenS (a ++ b) = lenS a + lenS b := by
  rw [← lenS_den, cellsL_append, List.length_append, lenS_den, lenS_den]

/-- m cells from pos on, as parts -/
def cutB (cs : List SV) (pos m : Nat) : Option (List SV) := match dropC cs pos with | some r => takeC r m | none => none
def cutC (cs : List SV) (pos m : Nat) : Option (List SV) := match cutB cs pos m with | some l => some l | none => cutB (explode cs) pos m
theorem cutC_den {cs : List SV} {pos m : Nat} {l : List SV} (h : cutC cs pos m = some l) : cellsL l = ((cellsL cs).drop pos).take m ∧ pos + m ≤ (cellsL cs).length := by
  have aux : ∀ {cs : List SV}, cutB cs pos m = some l → cellsL l = ((cellsL cs).drop pos).take m ∧ pos + m ≤ (cellsL cs).length := by
    intro cs h
    unfold cutB at h
    split at h
    · rename_i r hr
      obtain ⟨d1, d2⟩ := dropC_den hr
      obtain ⟨t1, t2⟩ := takeC_den h
      rw [d1] at t1 t2
      exact ⟨t1, by simp at t2; omega⟩
    · simp at h
  unfold cutC at h
  split at h
  · rename_i l' hl
    simp only [Option.some.injEq] at h
    subst h
    exact aux hl
  · have := aux h
    rw [explode_den] at this
    exact this
/-- what is appended -/
def srcR (sz : Nat) (x : SV) (kk : List SV → Nat → R U) : R U :=
  match x with
  | .nils => kk [] 0
  | .slc k n b o m _ =>
    match m with
    | 0 => kk [] 0
    | m + 1 => .rdH k fun c => match c with
      | some (n', .cells cs _) => .asame n n' (match cutC cs (b + o) ((m + 1) * sz) with
        | some new => match okSegs new with | true => kk new (m + 1) | false => .fail
        | none => .fail)
      | some (n', .ro cs _) => .asame n n' (match cutC cs (b + o) ((m + 1) * sz) with
        | some new => match okSegs new with | true => kk new (m + 1) | false => .fail
        | none => .fail)
      | _ => .fail
  | _ => .fail
/-- values of which nothing is told -/
def anyL (l : List Value) : SV := .any l.length fun j => l.getD j (.bool false)
theorem anyL_cells (l : List Value) : (anyL l).cells = l := by
  simp only [anyL, SV.cells, SV.den, Value.cells]
  apply List.ext_getElem
  · simp
  · intro j h1 h2; simp [List.getD, h2]
/-- a new row behind it, or the old one, longer -/
def growR (sz by' : Nat) (e : TypeId) (d m : Nat) (used : List SV) (pre : List (Nat × Option (Nat × CH U))) : R U :=
  .asrt (m * by' ≤ 140737488355328 ∧ m ≤ maxLen) (.asrt (lenS used = m * sz)
    (.all (Nat × Nat × (Nat → Value)) (0, 0, fun _ => .bool false) fun x =>
      .ret (.slc d x.1 0 0 m (x.2.1 + m), pre ++ [(d, some (x.1, .cells (used ++ [.any (x.2.1 * sz) x.2.2]) e))])))
/-- is the rest of a row as long as it should be? -/
def spareR (sz len cap : Nat) (rest : List SV) (kk : R U) : R U :=
  match rest with
  | [.any g _] => .asrt (Nat.ble len cap = true) (.asame g ((cap - len) * sz) kk)
  | rest => .asrt (Nat.ble len cap = true ∧ lenS rest = (cap - len) * sz) kk
theorem spareR_elim {sz len cap : Nat} {rest : List SV} {kk : R U} {s : St U} (h : Safe (spareR sz len cap rest kk) s) :
    len ≤ cap ∧ lenS rest = (cap - len) * sz ∧ Safe kk s ∧ ∀ α β e, Path kk s α β e → Path (spareR sz len cap rest kk) s α β e := by
  unfold spareR at h ⊢
  split at h
  · obtain ⟨h1, h2, h3⟩ := h
    exact ⟨Nat.le_of_ble_eq_true h1, by simp [lenS, SV.cl]; exact h2, h3, fun α β e p => .need h1 (.same h2 p)⟩
  · obtain ⟨h1, h3⟩ := h
    exact ⟨Nat.le_of_ble_eq_true h1.1, h1.2, h3, fun α β e p => .need h1 p⟩
def appK (sz by' : Nat) (e : TypeId) (d : Nat) (s : SV) (new : List SV) (m : Nat) : R U :=
  match m with
  | 0 => (match s with | .nils => .ret (s, []) | .slc _ _ _ _ len cap => .asrt (len ≤ cap) (.ret (s, [])) | _ => .fail)
  | m + 1 => match s with
    | .nils => growR sz by' e d (m + 1) new []
    | .slc k n 0 0 len cap => .rdH k fun c => match c with
      | some (n', .cells cs T) => .asame n n' (.asrt (T = e) (match takeC cs (len * sz), dropC cs (len * sz) with
        | some used, some rest => spareR sz len cap rest (growR sz by' e d (len + (m + 1)) (used ++ new) [(k, none)])
        | _, _ => .fail))
      | _ => .fail
    | _ => .fail
def appR (sz by' : Nat) (e : TypeId) : Spec U := fun d vs =>
  match vs with
  | [s, x] => srcR sz x fun new m => appK sz by' e d s new m
  | _ => .fail

theorem srcR_elim {sz : Nat} {x : SV} {kk : List SV → Nat → R U} {s : St U} {F : Hp → Prop} {w : World} (hs : satH ρ F s.h (hp w)) (h : Safe (srcR sz x kk) s) :
    ∃ new m, Safe (kk new m) s ∧ (cellsL new).length = m * sz ∧ (∀ u ∈ cellsL new, u.oneCell' = true) ∧ (∀ α β e, Path (kk new m) s α β e → ∃ α' β', Path (srcR sz x kk) s α' β' e) ∧
      ((m = 0 ∧ (∃ ao c, x.den = .slice ao 0 c)) ∨ (∃ b o c, x.den = .slice (some ⟨b, o, none⟩) m c ∧ ∀ j u, (cellsL new)[j]? = some u → w.cell? ((⟨b, o, none⟩ : Addr).add j) = some u)) := by
  unfold srcR at h
  split at h
  · exact ⟨[], 0, h, by simp [cellsL_nil], by simp [cellsL_nil], fun α β e p => ⟨α, β, p⟩, .inl ⟨rfl, _, _, rfl⟩⟩
  · rename_i k n b o m c
    split at h
    · exact ⟨[], 0, h, by simp [cellsL_nil], by simp [cellsL_nil], fun α β e p => ⟨α, β, p⟩, .inl ⟨rfl, _, _, rfl⟩⟩
    · rename_i m
      have h : Safe _ s := h
      cases hk : s.h k with
      | none => simp [Safe, R.T, hk] at h
      | some q =>
        obtain ⟨n', ch⟩ := q
        have body : ∀ {cs : List SV} {T : TypeId}, (∃ fr : Nat × Nat, w.heap[n']? = some (.cells (cellsL cs).toArray T fr)) → (ch = .cells cs T ∨ ∃ R, ch = .ro cs R) →
            Safe (R.asame n n' (match cutC cs (b + o) ((m + 1) * sz) with
              | some new => match okSegs new with | true => kk new (m + 1) | false => .fail
              | none => .fail) : R U) s → _ := fun {cs T} hcell hch h => by
          obtain ⟨h1, h⟩ := h
          have h1 : n = n' := h1
          subst h1
          cases h3 : cutC cs (b + o) ((m + 1) * sz) with
          | none => simp [h3, R.T] at h
          | some new =>
            cases h4 : okSegs new with
            | false => simp [h3, h4, R.T] at h
            | true =>
              simp only [h3, h4] at h
              obtain ⟨t1, t2⟩ := cutC_den h3
              refine (⟨new, m + 1, R.T_mono _ (fun _ _ _ _ => trivial) h, by rw [t1]; simp; omega, okSegs_one h4, ?_, .inr ⟨n, b + o, c, rfl, ?_⟩⟩ :
                ∃ new m', Safe (kk new m') s ∧ (cellsL new).length = m' * sz ∧ (∀ u ∈ cellsL new, u.oneCell' = true) ∧ (∀ α β e, Path (kk new m') s α β e → ∃ α' β', Path (srcR sz (.slc k n b o (m + 1) c) kk) s α' β' e) ∧
                  ((m' = 0 ∧ (∃ ao c0, (SV.slc k n b o (m + 1) c).den = .slice ao 0 c0)) ∨ (∃ b0 o0 c0, (SV.slc k n b o (m + 1) c).den = .slice (some ⟨b0, o0, none⟩) m' c0 ∧ ∀ j u, (cellsL new)[j]? = some u → w.cell? ((⟨b0, o0, none⟩ : Addr).add j) = some u)))
              · intro α β e p
                refine ⟨α, k :: β, .rdH ?_⟩
                rw [hk]
                rcases hch with rfl | ⟨_, rfl⟩
                · refine .same rfl ?_
                  simp only [h3, h4]
                  exact p
                · refine .same rfl ?_
                  simp only [h3, h4]
                  exact p
              · intro j u hj
                obtain ⟨fr, hcell⟩ := hcell
                rw [add_none, cell_of hcell]
                rw [t1, List.getElem?_take] at hj
                split at hj
                · rw [List.getElem?_drop] at hj; exact hj
                · simp at hj
        cases ch with
        | obj u => simp [Safe, R.T, hk] at h
        | sy => simp [Safe, R.T, hk] at h
        | ro cs T =>
          simp only [Safe, R.T, hk] at h
          exact body (hs.roCells hk) (.inr ⟨_, rfl⟩) (R.T_mono _ (fun _ _ _ _ => trivial) h)
        | cells cs T =>
          simp only [Safe, R.T, hk] at h
          exact body ⟨_, hs.cells hk⟩ (.inl rfl) (R.T_mono _ (fun _ _ _ _ => trivial) h)
  · exact h.elim

theorem satH.move {F : Hp → Prop} {h : Nat → Option (Nat × CH U)} {g : Hp} (x : satH ρ F h g) {k d n : Nat} {c : CH U} (hk : h k = some (n, c)) :
    satH ρ F (fun j => if j = d then some (n, c) else if j = k then none else h j) g := by
  obtain ⟨p, r, h1, h2, h3, h4, h5, h6⟩ := x
  refine ⟨fun j => if j = d then p k else if j = k then emp else p j, r, ?_, ?_, ?_, h4, ?_, h6⟩
  · intro j
    have hkk := h1 k
    rw [hk] at hkk
    by_cases e : j = d
    · simpa [e] using hkk
    · by_cases e2 : j = k
      · subst e2; simp [e]
      · simpa [e, e2] using h1 j
  · intro i j hij
    dsimp only
    by_cases ei : i = d
    · by_cases ej : j = d
      · exact absurd (ei.trans ej.symm) hij
      · rw [if_pos ei, if_neg ej]
        by_cases ej2 : j = k
        · rw [if_pos ej2]; exact Dj.emp_right _
        · rw [if_neg ej2]; exact h2 k j (fun e => ej2 e.symm)
    · rw [if_neg ei]
      by_cases ei2 : i = k
      · rw [if_pos ei2]; exact Dj.emp_left _
      · rw [if_neg ei2]
        by_cases ej : j = d
        · rw [if_pos ej]; exact h2 i k ei2
        · rw [if_neg ej]
          by_cases ej2 : j = k
          · rw [if_pos ej2]; exact Dj.emp_right _
          · rw [if_neg ej2]; exact h2 i j hij
  · intro j; dsimp only; split
    · exact h3 k
    · split
      · exact Dj.emp_left _
      · exact h3 j
  · intro j; dsimp only; split
    · exact h5 k
    · split
      · intro b o hb; exact absurd hb (by simp [emp])
      · exact h5 j

theorem hp_alloc (w : World) (o : Obj) : hp (w.drew.alloc o) = fun b => if b = w.heap.size then some o else hp w b := hp_push w.drew o

theorem cellsL_any (used : List SV) (l : List Value) : cellsL (used ++ [anyL l]) = cellsL used ++ l := by
  rw [cellsL_append, cellsL_cons, cellsL_nil, anyL_cells, List.append_nil]

theorem grow_elim {sz by' : Nat} {e : TypeId} {d m : Nat} {used : List SV} {pre : List (Nat × Option (Nat × CH U))} {s : St U} (h : Safe (growR sz by' e d m used pre) s) :
    m * by' ≤ 140737488355328 ∧ m ≤ maxLen ∧ lenS used = m * sz ∧ ∀ (b cap : Nat) (l : List Value), m ≤ cap → lenS used + l.length = cap * sz →
      Path (growR sz by' e d m used pre) s [] [] (.slc d b 0 0 m cap, pre ++ [(d, some (b, .cells (used ++ [anyL l]) e))]) := by
  obtain ⟨⟨h1, h2⟩, h3, h4⟩ := h
  refine ⟨h1, h2, h3, fun b cap l hm hl => ?_⟩
  have e1 : cap - m + m = cap := by omega
  have e2 : (cap - m) * sz = l.length := by rw [Nat.sub_mul]; omega
  have := Path.all (s := s) (x := (0, 0, fun _ => Value.bool false)) (k := fun x : Nat × Nat × (Nat → Value) => R.ret (.slc d x.1 0 0 m (x.2.1 + m), pre ++ [(d, some (x.1, CH.cells (U := U) (used ++ [.any (x.2.1 * sz) x.2.2]) e))])) (b, cap - m, fun j => l.getD j (.bool false)) .ret
  simp only [e1, e2] at this
  exact .need ⟨h1, h2⟩ (.need h3 this)

theorem xok_append {T e : TypeId} {i : TypeInfo} {z : Value} {sz by' : Nat} (hT : P.underlying T = some (.slice e)) (hi : P.info? e = some i) (hz : i.zero = some z) (hsz : i.size = sz) (hby : i.bytes = by') (hzs : z.cells.size = sz) (h0 : 0 < sz) :
    XOk ρ P (.bi .append [T, T]) (appR (U := U) sz by' e) := by
  intro o xs d vs F c s a w ht hv hsat hsame hsafe
  obtain ⟨cs0, hex⟩ := run_bi ht hv
  unfold appR at hsafe
  split at hsafe
  case h_2 => exact hsafe.elim
  rename_i s1 x
  obtain ⟨new, m, hs2, hlen, hone, hpa, hx⟩ := srcR_elim hsat hsafe
  have fin : ∀ {α β : List Nat} {eff : Eff U} {w' : World}, Path (appK sz by' e d s1 new m) s α β eff →
      (Builtin.append_ #[T, T] o.type #[s1.den, x.den]).run P w = .ok eff.1.den w' → satH ρ F (putH s.h eff.2) (hp w') → Same c w' →
      ∃ α β eff w', Path (appR sz by' e d [s1, x]) s α β eff ∧ ((execOp a.eval o).run P w = .ok (.value eff.1.den) w' ∨ ((execOp a.eval o).run P w = .ok .skip w' ∧ eff.1 = .und)) ∧ satH ρ F (putH s.h eff.2) (hp w') ∧ Same c w' := by
    intro α β eff w' p hr hh hsm
    obtain ⟨α', β', p'⟩ := hpa _ _ _ p
    refine ⟨α', β', eff, w', p', .inl ?_, hh, hsm⟩
    rw [hex]
    have : (denL [s1, x]).toArray = #[s1.den, x.den] := by simp [denL]
    rw [this]
    simp only [builtin, Sem.run_bind, hr, Result.andThen_ok, Sem.run_pure]
  clear hpa hsafe hv hex
  have hsz0 := hsz
  subst hsz
  subst hby
  cases m with
  | zero =>
    have hx0 : ∃ ao cx, x.den = .slice ao 0 cx ∧ (Builtin.firstCells i.size 0 x.den).run P w = .ok #[] w := by
      rcases hx with ⟨_, ao, cx, hxd⟩ | ⟨b, o', c', hxd, _⟩
      · refine ⟨ao, cx, hxd, ?_⟩
        rw [hxd]
        cases ao with
        | none => exact run_firstCells_none w i.size 0 0 cx
        | some ad => exact run_firstCells_some w i.size 0 ad 0 cx [] (by simp) (by simp)
      · refine ⟨_, _, hxd, ?_⟩
        rw [hxd]
        exact run_firstCells_some w i.size 0 _ 0 _ [] (by simp) (by simp)
    obtain ⟨ao, cx, hxd, hfc⟩ := hx0
    rw [hxd] at hfc
    have hu := run_underlying (P := P) (w := w) hT
    unfold appK at hs2
    simp only at hs2
    split at hs2
    · refine fin (eff := (.nils, [])) (w' := w) .ret ?_ hsat hsame
      rw [hxd]
      simp [Builtin.append_, SV.den, run_underlying hT, sizeOf, info_run hi, Builtin.lenOf, hfc]
    · rename_i k n b o' len cap
      obtain ⟨hle, _⟩ := hs2
      refine fin (eff := (.slc k n b o' len cap, [])) (w' := w) (.need hle .ret) ?_ hsat hsame
      rw [hxd]
      have hle : len ≤ cap := hle
      simp [Builtin.append_, SV.den, run_underlying hT, sizeOf, info_run hi, Builtin.lenOf, hfc, hle, storeCells]
    · exact hs2.elim
  | succ m =>
    obtain ⟨b2, o2, c2, hxd, hcell⟩ := hx.resolve_left (by simp)
    unfold appK at hs2
    simp only at hs2
    split at hs2
    · obtain ⟨g1, g2, g3, g4⟩ := grow_elim hs2
      have hmb : m + 1 ≤ 9223372036854775807 := by simp only [maxLen] at g2; omega
      have hr := run_append_nil (P := P) w T o.type e i z hT hi hz ⟨b2, o2, none⟩ (m + 1) c2 (cellsL new) hlen hcell (by omega) (by omega) (by omega)
      have hge := grownCap_ge w (m + 1) 0 e
      refine fin (g4 w.heap.size (grownCap w (m + 1) 0 e) (Builtin.zeroCells z.cells (grownCap w (m + 1) 0 e - (m + 1))).toList hge ?_) (w' := w.drew.alloc (.cells ((cellsL new).toArray ++ Builtin.zeroCells z.cells (grownCap w (m + 1) 0 e - (m + 1))) e)) ?_ ?_ ⟨hsame.tape, hsame.os, hsame.output⟩
      · rw [g3]
        simp only [Array.length_toList, size_zeroCells, hzs, ← Nat.add_mul]
        congr 1; omega
      · rw [hxd]
        simpa [SV.den] using hr
      · rw [hp_alloc]
        have e1 : ((cellsL new).toArray ++ Builtin.zeroCells z.cells (grownCap w (m + 1) 0 e - (m + 1))) = (cellsL (new ++ [anyL (Builtin.zeroCells z.cells (grownCap w (m + 1) 0 e - (m + 1))).toList])).toArray := by
          rw [cellsL_any]; apply Array.ext'; simp
        rw [e1]
        exact hsat.new (hp_size w) rfl
    · rename_i k n len cap
      have hs2 : Safe _ s := hs2
      cases hk : s.h k with
      | none => simp [Safe, R.T, hk] at hs2
      | some q =>
        obtain ⟨n', ch⟩ := q
        cases ch with
        | obj u => simp [Safe, R.T, hk] at hs2
        | sy => simp [Safe, R.T, hk] at hs2
        | ro => simp [Safe, R.T, hk] at hs2
        | cells cs T0 =>
          simp only [Safe, R.T, hk] at hs2
          obtain ⟨hnn, rfl, hs2⟩ := hs2
          have hnn : n = n' := hnn
          subst hnn
          cases h2 : takeC cs (len * i.size) with
          | none => simp [h2, R.T] at hs2
          | some used =>
           cases h3 : dropC cs (len * i.size) with
           | none => simp [h2, h3, R.T] at hs2
           | some rest =>
            simp only [h2, h3] at hs2
            obtain ⟨t1, t2⟩ := takeC_den h2
            obtain ⟨t3, _⟩ := dropC_den h3
            obtain ⟨hlc, hrest, hs3, hsp⟩ := spareR_elim (s := s) (R.T_mono _ (fun _ _ _ _ => trivial) hs2)
            have hcap : lenS cs = cap * i.size := by
              rw [← lenS_den] at hrest ⊢
              rw [t3, List.length_drop, Nat.sub_mul] at hrest
              have := Nat.mul_le_mul_right i.size hlc
              omega
            obtain ⟨g1, g2, g3, g4⟩ := grow_elim (s := s) hs3
            have hcs : w.heap[n]? = some (.cells (cellsL cs).toArray T0) := hsat.cells hk
            have pth : ∀ {eff : Eff U}, Path (growR i.size i.bytes T0 d (len + (m + 1)) (used ++ new) [(k, none)]) s [] [] eff → Path (appK i.size i.bytes T0 d (.slc k n 0 0 len cap) new (m + 1)) s [] [k] eff := by
              intro eff p
              unfold appK
              refine .rdH ?_
              rw [hk]
              refine .same rfl (.need rfl ?_)
              simp only [h2, h3]
              exact hsp _ _ _ p
            have hul : (cellsL used).length = len * i.size := by rw [t1]; simp; omega
            by_cases hroom : len + (m + 1) ≤ cap
            · have hfit : len * i.size + (cellsL new).length ≤ (cellsL cs).toArray.size := by
                rw [hlen, List.size_toArray, lenS_den, hcap, ← Nat.add_mul]; exact Nat.mul_le_mul_right _ hroom
              have hr := run_append_room (P := P) w T o.type T0 i hT hi n len cap (cellsL cs).toArray hcs ⟨b2, o2, none⟩ (m + 1) c2 (cellsL new) hlen hcell hone hroom hfit
              have hcl : (cellsL cs).length = cap * i.size := by rw [lenS_den, hcap]
              refine fin (pth (g4 n cap ((cellsL cs).drop (len * i.size + (cellsL new).length)) hroom ?_)) (w' := w.setRow n ((cellsL cs).take (len * i.size) ++ cellsL new ++ (cellsL cs).drop (len * i.size + (cellsL new).length)).toArray) ?_ ?_ ⟨hsame.tape, hsame.os, hsame.output⟩
              · rw [g3, List.length_drop, hcl, hlen, ← Nat.add_mul]
                have := Nat.mul_le_mul_right i.size hroom
                omega
              · rw [hxd]
                simpa [SV.den] using hr
              · rw [hp_setRow _ hcs]
                have e1 : (cellsL cs).take (len * i.size) ++ cellsL new ++ (cellsL cs).drop (len * i.size + (cellsL new).length) = cellsL ((used ++ new) ++ [anyL ((cellsL cs).drop (len * i.size + (cellsL new).length))]) := by
                  rw [cellsL_any, cellsL_append, t1]
                rw [e1]
                have := (hsat.setCells (cs' := (used ++ new) ++ [anyL ((cellsL cs).drop (len * i.size + (cellsL new).length))]) (T' := T0) hk).move (k := k) (d := d) (n := n) (c := CH.cells ((used ++ new) ++ [anyL ((cellsL cs).drop (len * i.size + (cellsL new).length))]) T0) (if_pos rfl)
                have e2 : (fun j => if j = d then some (n, CH.cells ((used ++ new) ++ [anyL ((cellsL cs).drop (len * i.size + (cellsL new).length))]) T0) else if j = k then none else if j = k then some (n, CH.cells ((used ++ new) ++ [anyL ((cellsL cs).drop (len * i.size + (cellsL new).length))]) T0) else s.h j) = putH s.h ([(k, none)] ++ [(d, some (n, CH.cells ((used ++ new) ++ [anyL ((cellsL cs).drop (len * i.size + (cellsL new).length))]) T0))]) := by
                  funext j
                  simp only [List.singleton_append, putH]
                  by_cases e : j = d
                  · simp [e]
                  · by_cases e' : j = k
                    · simp [e']
                    · simp [e, e']
                rw [← e2]
                exact this
            · have hn63 : ((len + (m + 1) : Nat) : Int) ≤ 9223372036854775807 := by simp only [maxLen] at g2; omega
              have holds : ∀ j v, (cellsL used)[j]? = some v → w.cell? ((⟨n, 0, none⟩ : Addr).add j) = some v := by
                intro j v hj
                rw [add_none, cell_of hcs, Nat.zero_add]
                rw [t1, List.getElem?_take] at hj
                split at hj
                · exact hj
                · simp at hj
              have hr := run_append_grow (P := P) w T o.type T0 i z hT hi hz ⟨n, 0, none⟩ len cap (cellsL used) hul holds ⟨b2, o2, none⟩ (m + 1) c2 (cellsL new) hlen hcell (by omega) hn63 (growslice_fits (by omega) g1)
              have hge := grownCap_ge w (len + (m + 1)) cap T0
              refine fin (pth (g4 w.heap.size (grownCap w (len + (m + 1)) cap T0) (Builtin.zeroCells z.cells (grownCap w (len + (m + 1)) cap T0 - (len + (m + 1)))).toList hge ?_)) (w' := w.drew.alloc (.cells ((cellsL used).toArray ++ (cellsL new).toArray ++ Builtin.zeroCells z.cells (grownCap w (len + (m + 1)) cap T0 - (len + (m + 1)))) T0)) ?_ ?_ ⟨hsame.tape, hsame.os, hsame.output⟩
              · rw [g3]
                simp only [Array.length_toList, size_zeroCells, hzs, ← Nat.add_mul]
                congr 1; omega
              · rw [hxd]
                simpa [SV.den] using hr
              · rw [hp_alloc]
                have e1 : ((cellsL used).toArray ++ (cellsL new).toArray ++ Builtin.zeroCells z.cells (grownCap w (len + (m + 1)) cap T0 - (len + (m + 1)))) = (cellsL ((used ++ new) ++ [anyL (Builtin.zeroCells z.cells (grownCap w (len + (m + 1)) cap T0 - (len + (m + 1)))).toList])).toArray := by
                  rw [cellsL_any, cellsL_append]; apply Array.ext'; simp
                rw [e1]
                have := (hsat.drop k).new (k := d) (c := .cells ((used ++ new) ++ [anyL (Builtin.zeroCells z.cells (grownCap w (len + (m + 1)) cap T0 - (len + (m + 1)))).toList]) T0) (hp_size w) rfl
                exact this
    · exact hs2.elim
end Go.Eng
