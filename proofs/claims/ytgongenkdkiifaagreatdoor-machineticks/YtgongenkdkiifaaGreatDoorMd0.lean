/- The sums of domain.Empty and domain.Node: some 32 bytes come, and nothing else turns. -/
import Derived.Test.YtgongenkdkiifaaGreatDoorMb
import Derived.Test.YtgongenkdkiifaaGreatDoorEngH
set_option linter.unusedVariables false
set_option maxRecDepth 100000
namespace Go.Proofs
open Go.Eng
theorem sgH : SgOk rhoM Tryz.prog (SgR Sg_h tabH 60) := SgR_ok sg_h tabH_ok 60
def kH : List SV → List Nat := fun _ => [1000003, 1000004]
/-- the two tables that a sum reads, and 32 bytes -/
def outH (f1 f2 : Nat → BitVec 32) (n1 n2 : Nat) (T1 T2 : RT) : Out MapC :=
  ⟨[n1 = 3, n2 = 4], Nat → BitVec 8, fun _ => 0, fun x => (.r8 32 x, [(1000003, some (n1, .ro [.r32 8 f1] T1)), (1000004, some (n2, .ro [.r32 64 f2] T2))])⟩
def sp_Empty : Nat → List SV → List (Nat × CH MapC) → Option (Out MapC) := fun _ vs cs =>
  match vs, cs with
  | [.i n], [(n1, .ro [.r32 8 f1] T1), (n2, .ro [.r32 64 f2] T2)] => (match n with | .ofNat 0 => some (outH f1 f2 n1 n2 T1 T2) | _ => none)
  | _, _ => none
def sp_Node : Nat → List SV → List (Nat × CH MapC) → Option (Out MapC) := fun _ vs cs =>
  match vs, cs with
  | [.r8 32 x, .r8 32 y], [(n1, .ro [.r32 8 f1] T1), (n2, .ro [.r32 64 f2] T2)] => some (outH f1 f2 n1 n2 T1 T2)
  | _, _ => none
def okH : Eff MapC → Bool := fun e => (match e.1 with | .r8 32 _ => true | _ => false) && !(memB 1000003 (e.2.map Prod.fst)) && !(memB 1000004 (e.2.map Prod.fst))
theorem okH_end {e : Eff MapC} (h : okH e = true) (f1 f2 : Nat → BitVec 32) (T1 T2 : RT) :
    EndP (outH f1 f2 3 4 T1 T2) e.1 ([1000003, 1000004].map (putH (runH0 [1000003, 1000004] [(3, .ro [.r32 8 f1] T1), (4, .ro [.r32 64 f2] T2)]) e.2)) := by
  simp only [okH, Bool.and_eq_true, Bool.not_eq_true'] at h
  obtain ⟨⟨h1, h2⟩, h3⟩ := h
  have h2 := memB_mem h2
  have h3 := memB_mem h3
  obtain ⟨v, ws⟩ := e
  split at h1
  · rename_i x he
    simp only at he
    subst he
    refine ⟨x, rfl, ?_⟩
    simp only [List.map_cons, List.map_nil]
    rw [putH_ne h2, putH_ne h3]
    simp [runH0, zipH, lookH, outH, OutsL, simC]
  · simp at h1
def tabs2 (f1 f2 : Nat → BitVec 32) (T1 T2 : RT) : Nat → Option (Nat × CH MapC) := runH0 [1000003, 1000004] [(3, .ro [.r32 8 f1] T1), (4, .ro [.r32 64 f2] T2)]
end Go.Proofs
