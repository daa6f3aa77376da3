/- Tables of contracts grow. -/
import Derived.Test.YtgongenkdkiifaaGreatDoorEng11
set_option linter.unusedVariables false
namespace Go.Eng
variable {U : Type} {ρ : U → Nat → Hp → Prop} {P : Program}
def Specs.none : Specs U := ⟨fun _ => Option.none, fun _ => Option.none, fun _ => Option.none⟩
theorem SgOk.none : SgOk ρ P (Specs.none : Specs U) := ⟨fun f sp h => by simp [Specs.none] at h, fun f sp h => by simp [Specs.none] at h, fun f sp h => by simp [Specs.none] at h⟩
def Specs.add (Sg : Specs U) (f : Nat) (sp : Spec U) : Specs U := ⟨fun g => match Nat.beq g f with | true => some sp | false => Sg.f g, Sg.x, Sg.d⟩
theorem SgOk.add {Sg : Specs U} (h : SgOk ρ P Sg) {f : Nat} {sp : Spec U} (hs : SpecOk ρ P f sp) : SgOk ρ P (Sg.add f sp) := by
  refine ⟨?_, h.x, h.d⟩
  intro g sp' hg
  simp only [Specs.add] at hg
  cases e : Nat.beq g f with
  | true => rw [e] at hg; have := Nat.eq_of_beq_eq_true e; subst this; simp at hg; subst hg; exact hs
  | false => rw [e] at hg; exact h.f g sp' hg
def Specs.addX (Sg : Specs U) (x : XTag → Option (Spec U)) : Specs U := ⟨Sg.f, fun t => match x t with | some sp => some sp | Option.none => Sg.x t, Sg.d⟩
theorem SgOk.addX {Sg : Specs U} (h : SgOk ρ P Sg) {x : XTag → Option (Spec U)} (hx : ∀ t sp, x t = some sp → XOk ρ P t sp) : SgOk ρ P (Sg.addX x) := by
  refine ⟨h.f, ?_, h.d⟩
  intro t sp ht
  simp only [Specs.addX] at ht
  cases e : x t with
  | some sp' => rw [e] at ht; simp at ht; subst ht; exact hx t sp' e
  | none => rw [e] at ht; exact h.x t sp ht
end Go.Eng
