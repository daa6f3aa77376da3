/- The contracts of the two hashes. -/
import Derived.Test.YtgongenkdkiifaaGreatDoorMda
import Derived.Test.YtgongenkdkiifaaGreatDoorMdb
import Derived.Test.YtgongenkdkiifaaGreatDoorMdc
set_option linter.unusedVariables false
set_option maxRecDepth 100000
namespace Go.Proofs
open Go.Eng
theorem ev_Empty (ν : Nu) (f1 f2 : Nat → BitVec 32) (T1 T2 : RT) : evB okH ((specR ((SgR Sg_h tabH 60).f 244) 0 [.i 0]).ev ν 0 (tabs2 f1 f2 T1 T2) []) = true ∧ evL ((specR ((SgR Sg_h tabH 60).f 244) 0 [.i 0]).ev ν 0 (tabs2 f1 f2 T1 T2) []) = evR ((specR ((SgR Sg_h tabH 60).f 244) 0 [.i 0]).ev ν 0 (tabs2 f1 f2 T1 T2) []) := ⟨ev_Empty_1 ν f1 f2 T1 T2, ev_Empty_2 ν f1 f2 T1 T2⟩
theorem ev_Node (ν : Nu) (x y : Nat → BitVec 8) (f1 f2 : Nat → BitVec 32) (T1 T2 : RT) : evB okH ((specR ((SgR Sg_h tabH 60).f 245) 0 [.r8 32 x, .r8 32 y]).ev ν 0 (tabs2 f1 f2 T1 T2) []) = true ∧ evL ((specR ((SgR Sg_h tabH 60).f 245) 0 [.r8 32 x, .r8 32 y]).ev ν 0 (tabs2 f1 f2 T1 T2) []) = evR ((specR ((SgR Sg_h tabH 60).f 245) 0 [.r8 32 x, .r8 32 y]).ev ν 0 (tabs2 f1 f2 T1 T2) []) := ⟨ev_Node_1 ν x y f1 f2 T1 T2, ev_Node_2 ν x y f1 f2 T1 T2⟩
theorem some_of {f : Nat} {vs : List SV} {ν : Nu} {h : Nat → Option (Nat × CH MapC)} {Sg : Specs MapC} {G : Eff MapC → Bool} (x : evB G ((specR (Sg.f f) 0 vs).ev ν 0 h []) = true) : ∃ sp, Sg.f f = some sp := by
  cases hs : Sg.f f with
  | some sp => exact ⟨sp, rfl⟩
  | none =>
    rw [hs] at x
    exact absurd x (by simp [specR, R.ev, evB])
theorem sums_ok {f : Nat} {g : Nat → List SV → List (Nat × CH MapC) → Option (Out MapC)}
    (hg : ∀ d vs cs o, g d vs cs = some o → ∃ f1 f2 n1 n2 T1 T2, cs = [(n1, .ro [.r32 8 f1] T1), (n2, .ro [.r32 64 f2] T2)] ∧ o = outH f1 f2 n1 n2 T1 T2 ∧
      ∀ ν : Nu, evB okH ((specR ((SgR Sg_h tabH 60).f f) 0 vs).ev ν 0 (tabs2 f1 f2 T1 T2) []) = true ∧ evL ((specR ((SgR Sg_h tabH 60).f f) 0 vs).ev ν 0 (tabs2 f1 f2 T1 T2) []) = evR ((specR ((SgR Sg_h tabH 60).f f) 0 vs).ev ν 0 (tabs2 f1 f2 T1 T2) []))
    (hd : ∀ sp, (SgR Sg_h tabH 60).f f = some sp → ∀ d vs, sp d vs = sp 0 vs) (hsome : ∃ sp, (SgR Sg_h tabH 60).f f = some sp) : SpecOk rhoM Tryz.prog f (hSp kH g) := by
  obtain ⟨sp, hsp⟩ := hsome
  refine hrun_ok (sgH.f f sp hsp) ?_
  intro d vs cs o _ ho hp
  obtain ⟨f1, f2, n1, n2, T1, T2, rfl, rfl, hev⟩ := hg d vs cs o ho
  obtain ⟨hn1, hn2⟩ : n1 = 3 ∧ n2 = 4 := hp
  subst hn1; subst hn2
  refine ⟨show nodupB [1000003, 1000004] = true from by decide, [1000003, 1000004], by decide, ?_⟩
  rw [hd sp hsp]
  have := closed_T0 (t := fun _ => none) (r := sp 0 vs) (h := tabs2 f1 f2 T1 T2) (G := okH) (fun ν => by have := (hev ν).1; rw [hsp] at this; exact this) (fun ν => by have := (hev ν).2; rw [hsp] at this; exact this)
  exact R.T_mono _ (fun _ _ e h => okH_end h f1 f2 T1 T2) this
theorem fnK_d {K : RK MapC} {Sg : Specs MapC} {nt : Nat} {rc : RC} (d : Nat) (vs : List SV) : fnK K Sg nt rc d vs = fnK K Sg nt rc 0 vs := rfl
theorem ok_Empty : SpecOk rhoM Tryz.prog 244 (hSp kH sp_Empty) := by
  refine sums_ok ?_ ?_ (some_of (ev_Empty (fun _ _ x => x) (fun _ => 0) (fun _ => 0) (0, 0, 0) (0, 0, 0)).1)
  · intro d vs cs o ho
    unfold sp_Empty at ho
    split at ho
    · split at ho
      · simp only [Option.some.injEq] at ho
        subst ho
        exact ⟨_, _, _, _, _, _, rfl, rfl, fun ν => ev_Empty ν _ _ _ _⟩
      · simp at ho
    · simp at ho
  · intro sp hs d vs
    have : (SgR Sg_h tabH 60).f 244 = some (fnR (SgR Sg_h tabH 59) 15 rc_domain_Empty rv_domain_Empty) := by kernel_rfl
    rw [this] at hs
    injection hs with hs
    subst hs
    rfl
theorem ok_Node : SpecOk rhoM Tryz.prog 245 (hSp kH sp_Node) := by
  refine sums_ok ?_ ?_ (some_of (ev_Node (fun _ _ x => x) (fun _ => 0) (fun _ => 0) (fun _ => 0) (fun _ => 0) (0, 0, 0) (0, 0, 0)).1)
  · intro d vs cs o ho
    unfold sp_Node at ho
    split at ho
    · simp only [Option.some.injEq] at ho
      subst ho
      exact ⟨_, _, _, _, _, _, rfl, rfl, fun ν => ev_Node ν _ _ _ _ _ _⟩
    · simp at ho
  · intro sp hs d vs
    have : (SgR Sg_h tabH 60).f 245 = some (fnR (SgR Sg_h tabH 59) 9 rc_domain_Node rv_domain_Node) := by kernel_rfl
    rw [this] at hs
    injection hs with hs
    subst hs
    rfl
end Go.Proofs
