/- Families: slices made, bytes out of texts, maps. -/
import Derived.Test.YtgongenkdkiifaaGreatDoorEngX3
import Derived.Laws.IdiomStrings
set_option linter.unusedSimpArgs false
set_option linter.unusedVariables false
namespace Go.Eng
variable {U : Type} {ρ : U → Nat → Hp → Prop} {P : Program}

/-! ## bytes out of a text -/
/-- the bytes of a text, as cells -/
def strSegs : List UInt8 → List SV
  | [] => []
  | b :: l => .u8 b.toBitVec :: strSegs l
theorem strSegs_den (l : List UInt8) : cellsL (strSegs l) = l.map fun b => Value.int .u8 b.toNat := by
  induction l with
  | nil => simp [strSegs, cellsL_nil]
  | cons b l ih => rw [strSegs, cellsL_cons, ih]; simp [SV.cells, SV.den, Value.cells]
def s2bR (e : TypeId) : Spec U := fun d vs =>
  match vs with
  | [.str s] => .all (Nat × Nat × (Nat → Value)) (0, 0, fun _ => .bool false) fun x =>
      .ret (.slc d x.1 0 0 s.data.toList.length (x.2.1 + s.data.toList.length), [(d, some (x.1, .ro (strSegs s.data.toList ++ [.any x.2.1 x.2.2]) (e, x.2.1 + s.data.toList.length, x.2.1 + s.data.toList.length + 1)))])
  | _ => .fail
theorem xok_s2b {S T e : TypeId} (hS : P.underlying S = some .string) (hT : P.underlying T = some (.slice e)) (he : P.underlying e = some (.int .u8)) : XOk ρ P (.conv S T) (s2bR (U := U) e) := by
  intro o xs d vs F c s a w ht hv hsat hsame hsafe
  obtain ⟨u, rfl, hex⟩ := run_conv ht hv
  unfold s2bR at hsafe
  split at hsafe
  case h_2 => exact hsafe.elim
  rename_i st heq
  simp only [List.cons.injEq, and_true] at heq
  subst heq
  have hr := run_bytes_of_string (P := P) w S T e st hS hT he
  have hge := grownCap_ge w st.size 0 e
  have hl : st.data.toList.length = st.size := Array.length_toList
  refine ⟨[], [], (.slc d w.heap.size 0 0 st.data.toList.length (grownCap w st.size 0 e), [(d, some (w.heap.size, .ro (strSegs st.data.toList ++ [anyL (List.replicate (grownCap w st.size 0 e - st.size) (.int .u8 0))]) (e, grownCap w st.size 0 e, grownCap w st.size 0 e + 1)))]), w.drew.alloc (.cells (bytesRow st (grownCap w st.size 0 e)) e ((bytesRow st (grownCap w st.size 0 e)).size, (bytesRow st (grownCap w st.size 0 e)).size + 1)), ?_, .inl ?_, ?_, ⟨hsame.tape, hsame.os, hsame.output⟩⟩
  · unfold s2bR
    have := Path.all (s := s) (x := (0, 0, fun _ => .bool false)) (k := fun x : Nat × Nat × (Nat → Value) => R.ret (.slc d x.1 0 0 st.data.toList.length (x.2.1 + st.data.toList.length), [(d, some (x.1, CH.ro (U := U) (strSegs st.data.toList ++ [.any x.2.1 x.2.2]) (e, x.2.1 + st.data.toList.length, x.2.1 + st.data.toList.length + 1)))]))
      (w.heap.size, grownCap w st.size 0 e - st.size, fun j => (List.replicate (grownCap w st.size 0 e - st.size) (Value.int .u8 0)).getD j (.bool false)) .ret
    have e1 : grownCap w st.size 0 e - st.size + st.data.toList.length = grownCap w st.size 0 e := by rw [hl]; omega
    have e2 : (List.replicate (grownCap w st.size 0 e - st.size) (Value.int .u8 0)).length = grownCap w st.size 0 e - st.size := by simp
    simp only [e1] at this
    simp only [anyL, e2]
    exact this
  · rw [hex]
    simp only [SV.den, Sem.run_bind, hr, Result.andThen_ok, Sem.run_pure, hl, Nat.add_zero]
  · rw [hp_alloc]
    refine hsat.new (k := d) (c := .ro (strSegs st.data.toList ++ [anyL (List.replicate (grownCap w st.size 0 e - st.size) (.int .u8 0))]) (e, grownCap w st.size 0 e, grownCap w st.size 0 e + 1)) (hp_size w) ?_
    have e3 : (bytesRow st (grownCap w st.size 0 e)).size = grownCap w st.size 0 e := by simp [bytesRow]; omega
    show one _ (Obj.cells _ _ _) = one _ (Obj.cells _ _ _)
    rw [e3]
    congr 2
    rw [cellsL_any, strSegs_den]
    apply Array.ext'
    simp [bytesRow]

/-! ## a slice made -/
def repS (z : List SV) : Nat → List SV
  | 0 => []
  | n + 1 => z ++ repS z n
theorem repS_den {z : List SV} {zc : Array Value} (h : zc.toList = cellsL z) (h0 : 0 < zc.size) : ∀ n, (madeCells zc (n * zc.size)).toList = cellsL (repS z n) := by
  intro n
  induction n with
  | zero => simp [madeCells, repS, cellsL_nil]
  | succ n ih =>
    rw [repS, cellsL_append, ← ih, ← h]
    simp only [madeCells, Array.toList_map, Array.toList_range]
    rw [show (n + 1) * zc.size = zc.size + n * zc.size by rw [Nat.succ_mul]; omega, List.range_add, List.map_append, List.map_map]
    congr 1
    · apply List.ext_getElem
      · simp
      · intro j h1 h2
        have : j < zc.size := by simpa using h1
        simp [Nat.mod_eq_of_lt this, this]
    · apply List.map_congr_left
      intro j _
      simp [Function.comp]
theorem tag_mksl {o : Op} {T : TypeId} {xs : List Operand} (h : tagOf o = some (.mksl T, xs)) : ∃ x y, o = .makeSlice T x y ∧ xs = [x, y] := by
  unfold tagOf at h
  split at h <;> simp only [Option.some.injEq, Prod.mk.injEq, reduceCtorEq, XTag.mksl.injEq, false_and, and_false] at h
  obtain ⟨rfl, rfl⟩ := h
  exact ⟨_, _, rfl, rfl⟩
def mkslR (z : List SV) (by' : Nat) (e : TypeId) : Spec U := fun d vs =>
  match vs with
  | [.i l, .i c] => .asrt (0 ≤ l ∧ l ≤ c ∧ (by' : Int) * c ≤ 281474976710656 ∧ c ≤ 9223372036854775807) (.all Nat 0 fun b =>
      .ret (.slc d b 0 0 l.toNat c.toNat, [(d, some (b, .cells (repS z c.toNat) e))]))
  | _ => .fail
theorem xok_mksl {T e : TypeId} {i : TypeInfo} {zv : Value} {zs : List SV} {by' : Nat} (hT : P.underlying T = some (.slice e)) (hi : P.info? e = some i) (hz : i.zero = some zv) (hby : i.bytes = by') (hzc : zv.cells.size = i.size) (h0 : 0 < i.size) (hzs : eqVL zv.cells.toList zs = true) :
    XOk ρ P (.mksl T) (mkslR (U := U) zs by' e) := by
  intro o xs d vs F c s a w ht hv hsat hsame hsafe
  obtain ⟨x, y, h1, rfl⟩ := tag_mksl ht
  unfold mkslR at hsafe
  split at hsafe
  case h_2 => exact hsafe.elim
  rename_i l cp
  obtain ⟨⟨h2, h3, h4, h5⟩, _⟩ := hsafe
  simp only [denL_eq, List.map_cons, List.map_nil, List.cons.injEq, and_true] at hv
  obtain ⟨hx, hy⟩ := hv
  subst hby
  have hr := run_make (P := P) w T e i zv hT hi hz .i64 .i64 l cp h2 h3 h4 h5
  refine ⟨[], [], (.slc d w.heap.size 0 0 l.toNat cp.toNat, [(d, some (w.heap.size, .cells (repS zs cp.toNat) e))]), w.alloc (.cells (madeCells zv.cells (cp.toNat * i.size)) e), .need ⟨h2, h3, h4, h5⟩ (.all w.heap.size .ret), .inl ?_, ?_, ⟨hsame.tape, hsame.os, hsame.output⟩⟩
  · have hex : execOp a.eval o = (do let q ← Instr.makeSlice T (a.eval x) (a.eval y); pure (.value q)) := by unfold execOp; rw [h1]
    rw [hex, hx, hy]
    simp only [SV.den, Sem.run_bind, hr, Result.andThen_ok, Sem.run_pure, Nat.add_zero]
  · have e1 : madeCells zv.cells (cp.toNat * i.size) = (cellsL (repS zs cp.toNat)).toArray := by
      have := repS_den (eqVL_den hzs) (by rw [hzc]; exact h0) cp.toNat
      rw [hzc] at this
      rw [← this]
    rw [e1]
    have : hp (w.alloc (.cells (cellsL (repS zs cp.toNat)).toArray e)) = fun b => if b = w.heap.size then some (.cells (cellsL (repS zs cp.toNat)).toArray e) else hp w b := hp_push w _
    rw [this]
    exact hsat.new (hp_size w) rfl
end Go.Eng
