/- The chapter's example is so, and what a machine is at the beginning. -/
import Derived.Test.YtgongenkdkiifaaGreatDoorMa2
import Derived.Test.YtgongenkdkiifaaGreatDoorMc1
import Derived.Test.YtgongenkdkiifaaGreatDoorMc2
import Derived.Test.YtgongenkdkiifaaGreatDoorMd1
set_option linter.unusedVariables false
set_option maxRecDepth 100000
namespace Go.Proofs
open Go.Eng
def Sg_1 : Specs MapC := ((Sg_0.add 296 (pureSp truncF)).add 244 (hSp kH sp_Empty)).add 245 (hSp kH sp_Node)
theorem sg_1 : SgOk rhoM Tryz.prog Sg_1 := ((sg_0.add ok_trunc).add ok_Empty).add ok_Node
noncomputable def tabL : List FE := tabC1 ++ (tabC2 ++ [⟨109, 8, rc_bytes_Clone, rv_bytes_Clone⟩])
theorem tabL_ok : ∀ e ∈ tabL, e.Ok Tryz.prog := by
  intro e he
  rcases List.mem_append.1 he with h | h
  · exact tabC1_ok e h
  · rcases List.mem_append.1 h with h | h
    · exact tabC2_ok e h
    · simp only [List.mem_cons, List.not_mem_nil, or_false] at h
      subst h
      exact ⟨Tryz.f109, by kernel_rfl, ck_bytes_Clone, by kernel_rfl⟩
noncomputable def SgL : Specs MapC := SgR Sg_1 tabL 60
theorem sgL : SgOk rhoM Tryz.prog SgL := SgR_ok sg_1 tabL_ok 60
/-- texts -/
def strsB : List SV → List ByteArray → Bool
  | [], [] => true
  | .str a :: l, b :: m => decide (a = b) && strsB l m
  | _, _ => false
theorem strsB_eq : ∀ {l : List SV} {m : List ByteArray}, strsB l m = true → l = m.map .str := by
  intro l
  induction l with
  | nil => intro m h; cases m <;> simp [strsB] at h; rfl
  | cons x l ih =>
    intro m h
    cases m with
    | nil => cases x <;> simp [strsB] at h
    | cons b m =>
      cases x <;> simp only [strsB, Bool.false_eq_true, Bool.and_eq_true, decide_eq_true_eq] at h
      obtain ⟨rfl, h⟩ := h
      rw [ih h]; rfl
def signsL : List ByteArray := [⟨#[116, 97, 110]⟩, ⟨#[115, 116, 97, 110]⟩, ⟨#[116, 97, 110]⟩, ⟨#[116, 97, 110]⟩, ⟨#[]⟩, ⟨#[105, 97]⟩, ⟨#[105, 110]⟩, ⟨#[105]⟩, ⟨#[105, 97]⟩, ⟨#[105, 98, 112]⟩, ⟨#[105, 97]⟩, ⟨#[105, 97, 111, 98, 112]⟩, ⟨#[105]⟩, ⟨#[105, 98, 112]⟩, ⟨#[105]⟩, ⟨#[116, 110]⟩, ⟨#[116, 110]⟩]
def kL : List SV → List Nat := fun _ => [1000000, 1000003, 1000004]
def outL (f1 f2 : Nat → BitVec 32) (n0 n1 n2 : Nat) (T0 T1 T2 : RT) : Out MapC :=
  ⟨[n0 = 0, n1 = 3, n2 = 4], Unit, (), fun _ => (.b true, [(1000000, some (n0, .ro (signsL.map .str) T0)), (1000003, some (n1, .ro [.r32 8 f1] T1)), (1000004, some (n2, .ro [.r32 64 f2] T2))])⟩
def sp_lives : Nat → List SV → List (Nat × CH MapC) → Option (Out MapC) := fun _ vs cs =>
  match vs, cs with
  | [], [(n0, .ro l T0), (n1, .ro [.r32 8 f1] T1), (n2, .ro [.r32 64 f2] T2)] => (match strsB l signsL with | true => some (outL f1 f2 n0 n1 n2 T0 T1 T2) | false => none)
  | _, _ => none
def tabs3 (f1 f2 : Nat → BitVec 32) (T0 T1 T2 : RT) : Nat → Option (Nat × CH MapC) := runH0 [1000000, 1000003, 1000004] [(0, .ro (signsL.map .str) T0), (3, .ro [.r32 8 f1] T1), (4, .ro [.r32 64 f2] T2)]
def okL : Eff MapC → Bool := fun e => match e.1 with | .b t => t | _ => false
noncomputable def livesQ (ν : Nu) (f1 f2 : Nat → BitVec 32) (T0 T1 T2 : RT) := (specR (SgL.f 4) 0 []).ev ν 0 (tabs3 f1 f2 T0 T1 T2) []
theorem ev_lives (ν : Nu) (f1 f2 : Nat → BitVec 32) (T0 T1 T2 : RT) : evB okL (livesQ ν f1 f2 T0 T1 T2) = true ∧ evL (livesQ ν f1 f2 T0 T1 T2) = evR (livesQ ν f1 f2 T0 T1 T2) ∧
    evHs (tabs3 f1 f2 T0 T1 T2) [1000000, 1000003, 1000004] (livesQ ν f1 f2 T0 T1 T2) = [some (0, .ro (signsL.map .str) T0), some (3, .ro [.r32 8 f1] T1), some (4, .ro [.r32 64 f2] T2)] := ⟨by kernel_rfl, by kernel_rfl, by kernel_rfl⟩
end Go.Proofs
