/- Contracts of functions that only reckon; the words by which simp reckons what must be so. -/
import Derived.Test.YtgongenkdkiifaaGreatDoorEng10
namespace Go.Eng
variable {U : Type} {ρ : U → Nat → Hp → Prop} {P : Program}

/-- a function that only reckons: precondition and result -/
def pureSp (f : List SV → Option (List DP × SV)) : Spec U := fun _ vs => optR (f vs)

theorem pure_ok {Sg : Specs U} {Iv : Invs U} (hSg : SgOk ρ P Sg) {fi : Nat} {fn : Func} (hf : P.funcs[fi]? = some fn) {rc : RC} {rvs : List RV} (hc : chkFn P fn rc rvs = true) (n : Nat) (hn : n ≤ fn.ntmps)
    {f : List SV → Option (List DP × SV)} (h : ∀ vs p v, f vs = some (p, v) → allP p → vs.length ≤ n ∧ fnT Sg Iv rc rvs vs [] fun r _ => r = v) : SpecOk ρ P fi (pureSp f) := by
  refine ⟨?_⟩
  intro F c d vs s w hsat hsame hsafe
  obtain ⟨p, v, h1, h2, h3⟩ := optR_elim (s := s) hsafe
  obtain ⟨h4, h5⟩ := h vs p v h1 h2
  refine (callable_of hf hc).does (Calls.mono (run_fn hSg hf hc (by omega) (h := []) hsat.shut hsame h5) ?_)
  rintro e w' ⟨r, s', rfl, rfl, h7, h8⟩
  exact ⟨_, _, _, h3, rfl, h7.reopen, h8⟩

end Go.Eng
