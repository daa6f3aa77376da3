/- math.archTrunc: a function without a body; at the whole numbers that the examples use. -/
import Derived.Test.YtgongenkdkiifaaGreatDoorMa
set_option linter.unusedVariables false
set_option maxRecDepth 100000
namespace Go.Proofs
open Go.Eng
def wholeL : List Nat := [0, 4652007308841189376, 4696837146684686336, 4686111960511545344, 4695119159766286336, 4671226772094713856]
def truncF : List SV → Option (List DP × SV)
  | [.val (.float .f64 x)] => (match memB x wholeL with | true => some ([], .val (.float .f64 x)) | false => none)
  | _ => none
theorem memB_of {x : Nat} : ∀ {l : List Nat}, memB x l = true → x ∈ l := by
  intro l
  induction l with
  | nil => intro h; simp [memB] at h
  | cons y l ih =>
    intro h
    simp only [memB, Bool.or_eq_true] at h
    rcases h with h | h
    · have := Nat.eq_of_beq_eq_true h; subst this; simp
    · exact List.mem_cons_of_mem _ (ih h)
theorem trunc_run {x : Nat} (h : memB x wholeL = true) (w : World) : (Extern.MathFloor.toIntegral "math.archTrunc" .zero #[.float .f64 x]).run Tryz.prog w = .ok (.float .f64 x) w := by
  have := memB_of h
  simp only [wholeL, List.mem_cons, List.not_mem_nil, or_false] at this
  rcases this with rfl | rfl | rfl | rfl | rfl | rfl
  · rfl
  · rfl
  · rfl
  · rfl
  · rfl
  · rfl
theorem ok_trunc : SpecOk rhoM Tryz.prog 296 (pureSp truncF) := by
  refine ⟨?_⟩
  intro F c d vs s w hsat hsame hsafe
  obtain ⟨p, v, h1, h2, h3⟩ := optR_elim (s := s) hsafe
  unfold truncF at h1
  split at h1
  · rename_i x
    split at h1
    · rename_i hm
      simp only [Option.some.injEq, Prod.mk.injEq] at h1
      obtain ⟨rfl, rfl⟩ := h1
      have hf : Tryz.prog.funcs[296]? = some Tryz.f296 := by kernel_rfl
      have hn : (Tryz.f296.name == "runtime.NumGoroutine") = false := by kernel_rfl
      have hb : Tryz.f296.body.isNone = true := by kernel_rfl
      have hx : (Extern.findNext Tryz.f296).isNone = true := by kernel_rfl
      have hx : Extern.findNext Tryz.f296 = none := by simpa using hx
      have he : Extern.find Tryz.f296 = some (Extern.MathFloor.toIntegral "math.archTrunc" .zero) := by kernel_rfl
      refine .inl ⟨_, w, ?_, _, _, _, h3, rfl, hsat, hsame⟩
      simp only [callFunc, Sem.run_bind, run_program, Result.andThen_ok, hf, hn, Bool.false_eq_true, if_false, hb, if_true, hx, he]
      have hm' : (mark (Mark.extern 296)).run Tryz.prog w = .ok () w := rfl
      have ha : (denL [SV.val (Value.float FloatKind.f64 x)]).toArray = #[.float .f64 x] := by simp [denL, SV.den, oneV_of (show (Value.float FloatKind.f64 x).oneCell' = true from rfl)]
      have hv : (SV.val (Value.float FloatKind.f64 x)).den = .float .f64 x := oneV_of rfl
      rw [hm', ha, hv]
      simp only [Result.andThen_ok, trunc_run hm, Sem.run_pure]
    · simp at h1
  · simp at h1
end Go.Proofs
