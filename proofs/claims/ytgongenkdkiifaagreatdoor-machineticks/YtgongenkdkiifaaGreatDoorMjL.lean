/- What a listed array of one-cell elements holds: plain laws for the join. -/
import Derived.Test.YtgongenkdkiifaaGreatDoorEngJ
import Derived.OpenShut
import Derived.LaidMore
import Derived.ChangeSlices
namespace Go.Proofs
open Go.Eng Go.ChangeShapes
variable {H : Type} {enc : TypeId × Value → H} {P : Program} {w : World} {base : Nat} {spare : Nat → Bool} {held : Bool}

theorem arr_cells {t e : TypeId} {n fuel : Nat} {cs : List Value} {ds : List (DataW H)} {p : List MemPlace} (ht : P.underlying t = some (.array n e)) (hce : P.cellsOf e = 1) (hct : P.cellsOf t = n)
    (h : DataW.trod enc P w base spare held fuel t cs = some (.agg ds, p)) :
    cs.length = n ∧ ds.length = n ∧ ∀ i, i < n → ∃ m c d q, cs[i]? = some c ∧ ds[i]? = some d ∧ DataW.trod enc P w base spare held m e [c] = some (d, q) := by
  obtain ⟨xs, m, _, ex, hlen, hl, hel⟩ := DataW.trod_array ht h
  rw [hct] at hlen
  simp only [Prod.mk.injEq, DataW.agg.injEq] at ex
  obtain ⟨rfl, _⟩ := ex
  refine ⟨hlen, by simpa using hl, fun i hi => ?_⟩
  have h1 := hel i hi
  rw [hce, Nat.mul_one] at h1
  have hc : i < cs.length := by omega
  have hx : i < xs.length := by omega
  have e1 : (cs.drop i).take 1 = [cs[i]] := by
    rw [List.drop_eq_getElem_cons hc]; rfl
  rw [e1, List.getElem?_eq_getElem hx] at h1
  exact ⟨m, cs[i], xs[i].1, xs[i].2, List.getElem?_eq_getElem hc, by simp [hx], h1⟩

theorem var_block {nm : String} {g : Nat} {cs : Array Value} (hg : P.globalNamed nm = some g) (h : w.var? P nm = some cs) : ∃ T fr, w.heap[g]? = some (.cells cs T fr) := by
  unfold World.var? at h
  rw [hg] at h
  have h : (match w.heap[g]? with | some (.cells cs _ _) => some cs | _ => none) = some cs := h
  split at h
  · rename_i c T fr e
    simp only [Option.some.injEq] at h
    subst h
    exact ⟨T, fr, e⟩
  · cases h

/-- a row of numbers of 32 bits -/
def f32 (cs : List Value) (j : Nat) : BitVec 32 := BitVec.ofNat 32 (match cs.getD j (.bool false) with | .int _ n => n.toNat | _ => 0)
theorem u32_cells {cs : List Value} {n : Nat} (hl : cs.length = n) (h : ∀ i, i < n → ∃ a, cs[i]? = some (.int .u32 a) ∧ (Lit.int .u32 a).wf = true) : cellsL [.r32 n (f32 cs)] = cs := by
  simp only [cellsL, denL, flat, SV.den, List.flatMap_cons, List.flatMap_nil, List.append_nil, Value.cells]
  apply List.ext_getElem?
  intro i
  by_cases hi : i < n
  · obtain ⟨a, h1, h2⟩ := h i hi
    have hf : f32 cs i = BitVec.ofNat 32 a.toNat := by simp [f32, List.getD, h1]
    have hw : 0 ≤ a ∧ a ≤ 4294967295 := by simpa [Lit.wf, IntKind.min, IntKind.max, IntKind.signed, IntKind.bits] using h2
    rw [h1]
    simp only [List.getElem?_map, List.getElem?_range hi, Option.map_some, hf, BitVec.toNat_ofNat]
    congr 2
    omega
  · rw [List.getElem?_eq_none (by simp; omega), List.getElem?_eq_none (by omega)]
theorem arr_u32 {t e : TypeId} {n fuel : Nat} {cs : List Value} {ds : List (DataW H)} {p : List MemPlace} (ht : P.underlying t = some (.array n e)) (he : P.underlying e = some (.int .u32)) (hce : P.cellsOf e = 1) (hct : P.cellsOf t = n)
    (h : DataW.trod enc P w base spare held fuel t cs = some (.agg ds, p)) : cellsL [.r32 n (f32 cs)] = cs := by
  obtain ⟨h1, _, h3⟩ := arr_cells ht hce hct h
  refine u32_cells h1 fun i hi => ?_
  obtain ⟨m, c, d, q, e1, _, e3⟩ := h3 i hi
  obtain ⟨a, e4, _, e5⟩ := DataW.trod_int he e3
  simp only [List.cons.injEq, and_true] at e4
  exact ⟨a, by rw [e1, e4], e5⟩
theorem arr_str {t e : TypeId} {n fuel : Nat} {cs : List Value} {ss : List (List UInt8)} {p : List MemPlace} (ht : P.underlying t = some (.array n e)) (he : P.underlying e = some .string) (hce : P.cellsOf e = 1) (hct : P.cellsOf t = n)
    (h : DataW.trod enc P w base spare held fuel t cs = some (.agg (ss.map fun s => .lit (.string s)), p)) : cellsL (ss.map fun s => .str ⟨s.toArray⟩) = cs := by
  obtain ⟨h1, h2, h3⟩ := arr_cells ht hce hct h
  have e0 : cellsL (ss.map fun s => .str ⟨s.toArray⟩) = ss.map fun s => .string ⟨s.toArray⟩ := by
    clear h h1 h2 h3
    induction ss with
    | nil => rfl
    | cons s ss ih => rw [List.map_cons, cellsL_cons, ih]; rfl
  rw [e0]
  apply List.ext_getElem?
  intro i
  by_cases hi : i < n
  · obtain ⟨m, c, d, q, e1, e2, e3⟩ := h3 i hi
    obtain ⟨s, e4, e5, _⟩ := DataW.trod_string he e3
    simp only [List.cons.injEq, and_true] at e4
    simp only [Prod.mk.injEq] at e5
    rw [e1, e4]
    rw [List.getElem?_map] at e2 ⊢
    cases hs : ss[i]? with
    | none => rw [hs] at e2; cases e2
    | some x =>
      rw [hs] at e2
      simp only [Option.map_some, Option.some.injEq] at e2
      rw [← e2] at e5
      have e6 := e5.1
      simp only [DataW.lit.injEq, Lit.string.injEq] at e6
      simp [e6]
  · simp only [List.length_map] at h2
    rw [List.getElem?_eq_none (by simp; omega), List.getElem?_eq_none (by omega)]
theorem cell_block {W : World} {b off : Nat} {v : Value} (h : W.cell? ⟨b, off, none⟩ = some v) : ∃ c T fr, W.heap[b]? = some (.cells c T fr) ∧ c[off]? = some v := by
  unfold World.cell? at h
  cases hb : W.heap[b]? with
  | none => simp [hb] at h
  | some o =>
    cases o with
    | cells c T fr => exact ⟨c, T, fr, rfl, by simpa [hb] using h⟩
    | _ => simp [hb] at h
theorem r32_cells (n : Nat) (f : Nat → BitVec 32) : cellsL [.r32 n f] = (List.range n).map fun j => .int .u32 (f j).toNat := by
  simp [cellsL, denL, flat, SV.den, Value.cells]
theorem ri_cells (n : Nat) (f : Nat → Int) : cellsL [.ri n f] = (List.range n).map fun j => .int .i64 (f j) := by
  simp [cellsL, denL, flat, SV.den, Value.cells]
/-- a part of a block, of whole numbers -/
theorem row_ints {W : World} {b off len : Nat} {zs : List Int} (h0 : 0 < len) (hlen : len ≤ zs.length) (hcell : ∀ i, i < zs.length → W.cell? ((⟨b, off, none⟩ : Addr).add i) = some (.int .i64 (zs.getD i 0))) :
    ∃ (o : Obj) (pre post : List Value) (T : TypeId) (fr : Nat × Nat), W.heap[b]? = some o ∧ pre.length = off ∧ o = .cells (pre ++ cellsL [.ri len fun i => zs.getD i 0] ++ post).toArray T fr := by
  obtain ⟨c, T, fr, hb, hc⟩ := cell_block (off := off + 0) (by have := hcell 0 (by omega); rw [add_none] at this; exact this)
  have each : ∀ i, i < len → c.toList[off + i]? = some (.int .i64 (zs.getD i 0)) := by
    intro i hi
    obtain ⟨c', T', fr', hb', hc'⟩ := cell_block (b := b) (off := off + i) (by have := hcell i (by omega); rw [add_none] at this; exact this)
    rw [hb] at hb'
    simp only [Option.some.injEq, Obj.cells.injEq] at hb'
    obtain ⟨rfl, _, _⟩ := hb'
    simpa using hc'
  have hsz : ∀ i, i < len → off + i < c.toList.length := by
    intro i hi
    exact (List.getElem?_eq_some_iff.1 (each i hi)).1
  have hs := hsz (len - 1) (by omega)
  refine ⟨_, c.toList.take off, c.toList.drop (off + len), T, fr, hb, by simp at hs ⊢; omega, ?_⟩
  congr 1
  apply Array.toList_inj.1
  rw [ri_cells]
  apply List.ext_getElem?
  intro i
  by_cases h1 : i < off
  · rw [List.append_assoc, List.getElem?_append_left (by simp at hs ⊢; omega), List.getElem?_take, if_pos h1]
  · by_cases h2 : i < off + len
    · have e := each (i - off) (by omega)
      rw [show off + (i - off) = i by omega] at e
      have hl : (c.toList.take off).length = off := by simp at hs ⊢; omega
      rw [e, List.append_assoc, List.getElem?_append_right (by omega), List.getElem?_append_left (by simp at hs ⊢; omega)]
      rw [hl]
      simp [List.getElem?_range (show i - off < len by omega)]
    · have hl : (c.toList.take off).length = off := by simp at hs ⊢; omega
      rw [List.getElem?_append_right (by simp at hs ⊢; omega), List.getElem?_drop]
      congr 1
      simp at hs ⊢
      omega
end Go.Proofs
