/- The join: the walk of MachineTicks to its row and its card. -/
import Derived.Test.YtgongenkdkiifaaGreatDoorMg5
import Derived.Test.YtgongenkdkiifaaGreatDoorMjL
import Derived.Test.YtgongenkdkiifaaGreatDoorMkE
import Derived.Test.YtgongenkdkiifaaGreatDoorTie
import Derived.Test.YtgongenkdkiifaaGreatDoorCards
import Derived.Lay
import Derived.LaidOnce
import Derived.SevenTiedAt
import Derived.Carry
import Derived.JoinedOf
import Derived.ProofKit
import Derived.MakeChecks
set_option linter.unusedVariables false
set_option maxRecDepth 100000
namespace Go.Proofs.YtgongenkdkiifaaGreatDoor
open Go.ChangeShapes Go.WideShapes Go.RowKit Go.Eng

theorem own : ownKnob Tryz.prog.godebug = none := by kernel_rfl
theorem cells3 : Tryz.prog.cellsOf 3 = 1 := by kernel_rfl
theorem cells9 : Tryz.prog.cellsOf 9 = 1 := by kernel_rfl
theorem cells38 : Tryz.prog.cellsOf 38 = 1 := by kernel_rfl
theorem cells177 : Tryz.prog.cellsOf 177 = 17 := by kernel_rfl
theorem cells524 : Tryz.prog.cellsOf 524 = 8 := by kernel_rfl
theorem cells537 : Tryz.prog.cellsOf 537 = 64 := by kernel_rfl
theorem und38 : Tryz.prog.underlying 38 = some (.int .u32) := by kernel_rfl
theorem nm0 : Tryz.prog.globalNamed "sponsion/call.signs" = some 0 := by kernel_rfl
theorem nm3 : Tryz.prog.globalNamed "sponsion/digest.begin" = some 3 := by kernel_rfl
theorem nm4 : Tryz.prog.globalNamed "sponsion/digest.rounds" = some 4 := by kernel_rfl
theorem ty0 : (Tryz.prog.globals[0]?).map (·.type) = some 177 := by kernel_rfl
theorem ty3 : (Tryz.prog.globals[3]?).map (·.type) = some 524 := by kernel_rfl
theorem ty4 : (Tryz.prog.globals[4]?).map (·.type) = some 537 := by kernel_rfl

/-- what the row lays: the three variables' blocks -/
theorem blocks_of_laid {W : World} (h : laidMetH Tryz.prog Rows.machineTicksRow.laid W) : ∃ (c1 c2 : List Value) (T0 T1 T2 : RT),
    W.heap[0]? = some (.cells (cellsL (signsL.map .str)).toArray T0.1 T0.2) ∧ W.heap[3]? = some (.cells (cellsL [.r32 8 (f32 c1)]).toArray T1.1 T1.2) ∧ W.heap[4]? = some (.cells (cellsL [.r32 64 (f32 c2)]).toArray T2.1 T2.2) := by
  rw [MakeChecks.laidMetH_plain _ _ _ (by kernel_rfl)] at h
  obtain ⟨ps, ⟨g1, t1, cs1, n1, p1, q1, hg1, ht1, hv1, hd1, ⟨g2, t2, cs2, n2, p2, q2, hg2, ht2, hv2, hd2, ⟨g0, t0, cs0, n0, p0, q0, hg0, ht0, hv0, hd0, _, _⟩, _⟩, _⟩, _, _⟩ := h
  obtain rfl := Option.some.inj (nm3.symm.trans hg1)
  obtain rfl := Option.some.inj (nm4.symm.trans hg2)
  obtain rfl := Option.some.inj (nm0.symm.trans hg0)
  obtain rfl := Option.some.inj (ty3.symm.trans ht1)
  obtain rfl := Option.some.inj (ty4.symm.trans ht2)
  obtain rfl := Option.some.inj (ty0.symm.trans ht0)
  obtain ⟨T1, f1, b1⟩ := var_block nm3 hv1
  obtain ⟨T2, f2, b2⟩ := var_block nm4 hv2
  obtain ⟨T0, f0, b0⟩ := var_block nm0 hv0
  have e1 := arr_u32 Tryz.underlying524 und38 cells38 cells524 hd1
  have e2 := arr_u32 Tryz.underlying537 und38 cells38 cells537 hd2
  have e0 := arr_str (ss := signsL.map fun b => b.data.toList) Tryz.underlying177 Tryz.underlying9 cells9 cells177 hd0
  refine ⟨cs1.toList, cs2.toList, (T0, f0), (T1, f1), (T2, f2), ?_, ?_, ?_⟩
  · rw [b0]
    have : (signsL.map fun b => b.data.toList).map (fun s => SV.str ⟨s.toArray⟩) = signsL.map .str := by simp
    rw [this] at e0
    rw [e0]
  · rw [b1, e1]
  · rw [b2, e2]

theorem call_ok {W : World} (v : SV) {args : Array Value} (hargs : args = (denL [v]).toArray) {l : List (Nat × Option (Nat × CH MapC))} {Iv : Invs MapC}
    (h1 : ∀ k n c, (k, some (n, c)) ∈ l → ∃ o, W.heap[n]? = some o ∧ c.holds rhoM n (one n o) ∧ ∀ g, c.holds rhoM n g → g n = some o)
    (h2 : ∀ j n c k n' c', (j, some (n, c)) ∈ l → (k, some (n', c')) ∈ l → j ≠ k → n ≠ n')
    {Post : SV → St MapC → Prop} (hT : fnT Sg_5 Iv rc_sponsionlaw26_MachineTicks rv_sponsionlaw26_MachineTicks [v] l Post) (hP : ∀ r s, Post r s → r = .b true ∧ ∀ k n c, (k, some (n, c)) ∈ l → s.h k = some (n, c)) :
    Calls Tryz.prog 3 args W fun e w' => e = .returned (.bool true) ∧ Same W w' ∧ ∀ i, i < W.heap.size → w'.heap[i]? = W.heap[i]? := by
  subst hargs
  exact run_exact sg_5 (fn := Tryz.f3) Tryz.func3 ck_sponsionlaw26_MachineTicks (by show (1 : Nat) ≤ 76; omega) h1 h2 hT hP

theorem below_of {W w' : World} (hs : Same W w') (h : ∀ i, i < W.heap.size → w'.heap[i]? = W.heap[i]?) : Below W.heap.size W w' := by
  refine ⟨hs.os, hs.tape, hs.output, ?_, h⟩
  by_cases hz : W.heap.size = 0
  · omega
  · have h1 := h (W.heap.size - 1) (by omega)
    rw [Array.getElem?_eq_getElem (show W.heap.size - 1 < W.heap.size by omega)] at h1
    have := (Array.getElem?_eq_some_iff.1 h1).1
    omega
/-- whatever the argument: true, and what was there is as it was -/
theorem law_calls {W : World} {a0 : Option Addr} {len cap : Nat} {zs : List Int} (hL : laidMetH Tryz.prog Rows.machineTicksRow.laid W)
    (h : (a0 = none ∧ len = 0 ∧ cap = 0) ∨ ∃ b off, a0 = some ⟨b, off, none⟩ ∧ len ≤ zs.length ∧ ∀ i, i < zs.length → W.cell? ((⟨b, off, none⟩ : Addr).add i) = some (.int .i64 (zs.getD i 0))) :
    Calls Tryz.prog 3 #[.slice a0 len cap] W fun e w' => e = .returned (.bool true) ∧ Below W.heap.size W w' := by
  obtain ⟨c1, c2, T0, T1, T2, b0, b1, b2⟩ := blocks_of_laid hL
  have x0 := ro_exact (ρ := rhoM) (cs := signsL.map .str) (T := T0) b0 rfl
  have x1 := ro_exact (ρ := rhoM) (cs := [.r32 8 (f32 c1)]) (T := T1) b1 rfl
  have x2 := ro_exact (ρ := rhoM) (cs := [.r32 64 (f32 c2)]) (T := T2) b2 rfl
  rcases h with ⟨rfl, rfl, rfl⟩ | ⟨b, off, rfl, hlen, hcell⟩
  · refine (call_ok .nils rfl (l := [(1000000, some (0, .ro (signsL.map .str) T0)), (1000003, some (3, .ro [.r32 8 (f32 c1)] T1)), (1000004, some (4, .ro [.r32 64 (f32 c2)] T2))]) ?_ ?_ (law_T0 (f32 c1) (f32 c2) T0 T1 T2) ?_).mono fun e w' ⟨he, hs, hk⟩ => ⟨he, below_of hs hk⟩
    · intro k n c hm
      simp only [List.mem_cons, Prod.mk.injEq, Option.some.injEq, List.not_mem_nil, or_false] at hm
      rcases hm with ⟨_, rfl, rfl⟩ | ⟨_, rfl, rfl⟩ | ⟨_, rfl, rfl⟩
      · exact x0
      · exact x1
      · exact x2
    · intro j n c k n' c' hj hk hjk
      simp only [List.mem_cons, Prod.mk.injEq, Option.some.injEq, List.not_mem_nil, or_false] at hj hk
      rcases hj with ⟨rfl, rfl, _⟩ | ⟨rfl, rfl, _⟩ | ⟨rfl, rfl, _⟩ <;> rcases hk with ⟨rfl, rfl, _⟩ | ⟨rfl, rfl, _⟩ | ⟨rfl, rfl, _⟩ <;> first | (exact absurd rfl hjk) | decide
    · rintro r s ⟨hr, hl⟩
      refine ⟨hr, fun k n c hm => ?_⟩
      simp only [List.map_cons, List.map_nil, List.cons.injEq, and_true] at hl
      simp only [List.mem_cons, Prod.mk.injEq, Option.some.injEq, List.not_mem_nil, or_false] at hm
      rcases hm with ⟨rfl, rfl, rfl⟩ | ⟨rfl, rfl, rfl⟩ | ⟨rfl, rfl, rfl⟩
      · exact hl.1
      · exact hl.2.1
      · exact hl.2.2
  · by_cases h0 : len = 0
    · subst h0
      refine (call_ok (.slc 1 b off 0 0 cap) rfl (l := [(1000000, some (0, .ro (signsL.map .str) T0)), (1000003, some (3, .ro [.r32 8 (f32 c1)] T1)), (1000004, some (4, .ro [.r32 64 (f32 c2)] T2))]) ?_ ?_ (law_TE b off cap (f32 c1) (f32 c2) T0 T1 T2) ?_).mono fun e w' ⟨he, hs, hk⟩ => ⟨he, below_of hs hk⟩
      · intro k n c hm
        simp only [List.mem_cons, Prod.mk.injEq, Option.some.injEq, List.not_mem_nil, or_false] at hm
        rcases hm with ⟨_, rfl, rfl⟩ | ⟨_, rfl, rfl⟩ | ⟨_, rfl, rfl⟩
        · exact x0
        · exact x1
        · exact x2
      · intro j n c k n' c' hj hk hjk
        simp only [List.mem_cons, Prod.mk.injEq, Option.some.injEq, List.not_mem_nil, or_false] at hj hk
        rcases hj with ⟨rfl, rfl, _⟩ | ⟨rfl, rfl, _⟩ | ⟨rfl, rfl, _⟩ <;> rcases hk with ⟨rfl, rfl, _⟩ | ⟨rfl, rfl, _⟩ | ⟨rfl, rfl, _⟩ <;> first | (exact absurd rfl hjk) | decide
      · rintro r s ⟨hr, hl⟩
        refine ⟨hr, fun k n c hm => ?_⟩
        simp only [List.map_cons, List.map_nil, List.cons.injEq, and_true] at hl
        simp only [List.mem_cons, Prod.mk.injEq, Option.some.injEq, List.not_mem_nil, or_false] at hm
        rcases hm with ⟨rfl, rfl, rfl⟩ | ⟨rfl, rfl, rfl⟩ | ⟨rfl, rfl, rfl⟩
        · exact hl.1
        · exact hl.2.1
        · exact hl.2.2
    · obtain ⟨o, pre, post, T, fr, ho, hpl, heo⟩ := row_ints (by omega) hlen hcell
      have x3 := row_exact (ρ := rhoM) (cs := [.ri len fun i => zs.getD i 0]) ho pre post T fr hpl heo
      obtain ⟨c, Tc, fc, hb, hc⟩ := cell_block (off := off + 0) (by have := hcell 0 (by omega); rw [add_none] at this; exact this)
      have ne : ∀ {g : Nat} {cs : List Value} {R : RT}, W.heap[g]? = some (.cells cs.toArray R.1 R.2) → (∀ z, Value.int .i64 z ∉ cs) → b ≠ g := by
        intro g cs R hg hz e
        subst e
        rw [hb] at hg
        simp only [Option.some.injEq, Obj.cells.injEq] at hg
        rw [hg.1] at hc
        exact hz _ (by simpa using Array.mem_of_getElem? hc)
      have n0 : b ≠ 0 := ne b0 (by intro z hz; rw [show cellsL (signsL.map .str) = signsL.map Value.string by rfl] at hz; obtain ⟨_, _, e⟩ := List.mem_map.1 hz; cases e)
      have n3 : b ≠ 3 := ne b1 (by intro z hz; rw [r32_cells] at hz; obtain ⟨_, _, e⟩ := List.mem_map.1 hz; cases e)
      have n4 : b ≠ 4 := ne b2 (by intro z hz; rw [r32_cells] at hz; obtain ⟨_, _, e⟩ := List.mem_map.1 hz; cases e)
      refine (call_ok (.slc 1 b off 0 len cap) rfl (l := [(1, some (b, .sy (.row off [.ri len fun i => zs.getD i 0] o))), (1000000, some (0, .ro (signsL.map .str) T0)), (1000003, some (3, .ro [.r32 8 (f32 c1)] T1)), (1000004, some (4, .ro [.r32 64 (f32 c2)] T2))]) ?_ ?_ (law_T b off len cap (fun i => zs.getD i 0) o (f32 c1) (f32 c2) T0 T1 T2) ?_).mono fun e w' ⟨he, hs, hk⟩ => ⟨he, below_of hs hk⟩
      · intro k n c hm
        simp only [List.mem_cons, Prod.mk.injEq, Option.some.injEq, List.not_mem_nil, or_false] at hm
        rcases hm with ⟨_, rfl, rfl⟩ | ⟨_, rfl, rfl⟩ | ⟨_, rfl, rfl⟩ | ⟨_, rfl, rfl⟩
        · exact x3
        · exact x0
        · exact x1
        · exact x2
      · intro j n c k n' c' hj hk hjk
        simp only [List.mem_cons, Prod.mk.injEq, Option.some.injEq, List.not_mem_nil, or_false] at hj hk
        rcases hj with ⟨rfl, rfl, _⟩ | ⟨rfl, rfl, _⟩ | ⟨rfl, rfl, _⟩ | ⟨rfl, rfl, _⟩ <;> rcases hk with ⟨rfl, rfl, _⟩ | ⟨rfl, rfl, _⟩ | ⟨rfl, rfl, _⟩ | ⟨rfl, rfl, _⟩ <;> first | (exact absurd rfl hjk) | (exact n0) | (exact n3) | (exact n4) | (exact n0.symm) | (exact n3.symm) | (exact n4.symm) | decide
      · rintro r s ⟨hr, hl⟩
        refine ⟨hr, fun k n c hm => ?_⟩
        simp only [List.map_cons, List.map_nil, List.cons.injEq, and_true] at hl
        simp only [List.mem_cons, Prod.mk.injEq, Option.some.injEq, List.not_mem_nil, or_false] at hm
        rcases hm with ⟨rfl, rfl, rfl⟩ | ⟨rfl, rfl, rfl⟩ | ⟨rfl, rfl, rfl⟩ | ⟨rfl, rfl, rfl⟩
        · exact hl.1
        · exact hl.2.1
        · exact hl.2.2.1
        · exact hl.2.2.2
set_option maxRecDepth 100000 in
theorem law_lifted (os : Os) (started : os.Started) (H : Type) (enc : TypeId × Value → H) :
    ReturnsInHanded {} Tryz.checked os 3 .any (fun w args => (Rows.machineTicksSpec.pre enc Tryz.prog Tryz.f3 [] false w args ∧ laidMetH Tryz.prog Rows.machineTicksRow.laid w) ∧ sizedMet enc Tryz.prog Tryz.f3 (OpenSpec.ofChange Rows.machineTicksSpec) false w args)
      (Rows.machineTicksSpec.post enc Tryz.prog Tryz.f3 false true false false) := by
  refine returnsInHanded_of_change_and (C := Tryz.checked) (X := fun w _ => laidMetH Tryz.prog Rows.machineTicksRow.laid w) (fun _ _ _ hh h => h.of_heap hh) own started (by kernel_rfl) Tryz.func3
    (ChangeSpec.witness_at (enc := enc) (C := Tryz.checked) (os := os) (X := fun w _ => laidMetH Tryz.prog Rows.machineTicksRow.laid w) false (World.laidAll Tryz.prog os Rows.machineTicksRow.laid) #[.slice none 0 0] 8 (World.laidAll_os _ _ _) (by kernel_rfl) (by kernel_rfl) (by kernel_rfl) (by kernel_rfl) (by kernel_rfl)
      (by rw [MakeChecks.laidMetH_plain _ _ _ (by kernel_rfl)]; exact laidMet_laidAll _ (by kernel_rfl) (by kernel_rfl))) ?_
  intro W base args ds gs before hval0 hW _ _ hL _
  have hval : ∀ (j : Nat) t v, Tryz.f3.params[j]? = some t → args[j]? = some v → Value.okWide Tryz.prog W .any base t v := hval0
  have hW' := hW
  obtain ⟨p, q, hA0, hV, rfl, _, _⟩ := hW
  have hA : DataW.TrodAll enc Tryz.prog W 0 (fun _ => true) true Tryz.f3.params.toList args.toList ds p := hA0
  rw [Tryz.params3] at hA hval
  obtain ⟨v0, d0, rfl, rfl, h0⟩ := trodAll_one hA
  obtain ⟨rfl, rfl⟩ := trodVars_none hV
  have h0k := h0
  obtain ⟨fuel, hf⟩ := h0
  clear hA0 hval0
  simp only [List.append_nil] at hW'
  have hlt : ∀ x ∈ p, x.block < W.heap.size := fun x hx => by simpa using hW'.lt x hx
  have hargs : ∀ (W' : World), Below W.heap.size W W' → DataW.Trod enc Tryz.prog W' 0 (fun b => decide (b < W.heap.size)) true 22 v0 d0 p :=
    fun W' hn => Below.trod laidOut (by kernel_rfl) (of_decide_eq_true (by kernel_rfl)) h0k hn hlt
  have hok := hval 0 22 v0 rfl rfl
  obtain ⟨a0, len, cap, rfl⟩ := okWide_slice Tryz.underlying22 hok
  have hcalls : Calls Tryz.prog 3 #[.slice a0 len cap] W fun e w' => e = .returned (.bool true) ∧ Below W.heap.size W w' := by
    rcases open_ints Tryz.underlying22 Tryz.underlying3 cells3 hf with ⟨hcs, hx⟩ | ⟨a, len', cap', zs, hcs, _, hl, hm, hz, hx, hcell, hwz⟩
    · simp [Value.cells] at hcs
      obtain ⟨rfl, rfl, rfl⟩ := hcs
      exact law_calls (zs := []) hL (.inl ⟨rfl, rfl, rfl⟩)
    · simp [Value.cells] at hcs
      obtain ⟨rfl, rfl, rfl⟩ := hcs
      simp only [if_true] at hz
      obtain ⟨b, off, spot⟩ := a
      have hspot : spot = none := by
        simp only [Value.okWide, Tryz.underlying22, Cell.okWide, Cell.ok, World.has] at hok
        exact hok.2.2.2.1
      subst hspot
      exact law_calls (zs := zs) hL (.inr ⟨b, off, rfl, by omega, hcell⟩)
  refine hcalls.mono fun e W' ⟨he, hb⟩ => ?_
  subst he
  exact ⟨_, rfl, ⟨_, _, _, [], _, [], hW', trodAll_mk1 (shut_bool Tryz.underlying4 _), trodAll_mk1 (hargs _ hb), rfl, hb.frame _, fun h => by cases h⟩⟩

end Go.Proofs.YtgongenkdkiifaaGreatDoor
