/- What a machine is at the beginning: the run. -/
import Derived.Test.YtgongenkdkiifaaGreatDoorMe0
set_option linter.unusedVariables false
set_option maxRecDepth 100000
namespace Go.Proofs
open Go.Eng
def knotsV : List SV := [.val (.complex .f64 0 0), .val (.complex .f64 4696837146684686336 0)]
def confV (n : Nat) : SV := .agg [.i 0, .i 0, .u64 0#64, .u64 0#64, .u64 0#64, .u64 0#64, .u64 0#64, .slc 3019 n 0 0 2 2]
def tabsB (n : Nat) (T : Nat) (f1 f2 : Nat → BitVec 32) (T1 T2 : RT) : Nat → Option (Nat × CH MapC) := runH0 [3019, 1000003, 1000004] [(n, .cells knotsV T), (3, .ro [.r32 8 f1] T1), (4, .ro [.r32 64 f2] T2)]
noncomputable def beginQ (ν : Nu) (n T : Nat) (f1 f2 : Nat → BitVec 32) (T1 T2 : RT) := (specR (SgL.f 5) 0 [confV n]).ev ν 0 (tabsB n T f1 f2 T1 T2) []
def isI0 : SV → Bool | .i n => decide (n = 0) | _ => false
def isU0 : SV → Bool | .u64 n => Nat.beq n.toNat 0 | _ => false
def isNils : SV → Bool | .nils => true | _ => false
def isPtr00 : SV → Bool | .ptr _ _ b o => Nat.beq b 0 && Nat.beq o 0 | _ => false
/-- a machine's chunk, at the beginning -/
def machB : Option (Nat × CH MapC) → Bool
  | some (_, .cells [p, b, l, d, r] T) => isPtr00 p && isU0 b && isNils l && isI0 d && isI0 r && Nat.beq T 91
  | _ => false
def okBeg (h : Nat → Option (Nat × CH MapC)) : Eff MapC → Bool := fun e => match e.1 with
  | .tup [.ptr k _ b o, .agg W, z] => Nat.beq k 2001598 && Nat.beq b 0 && Nat.beq o 0 && isI0 z && Nat.beq (SV.len.lenL W) 934 && okSegs W && machB (putH h e.2 2001598)
  | _ => false
def ptrN : SV → Nat | .tup (.ptr _ n _ _ :: _) => n | _ => 0
def chN : Option (Nat × CH MapC) → Nat | some (n, _) => n | none => 0
def begN : Option (List (Nat × Nat) × Eff MapC) → Nat | some (_, e) => ptrN e.1 | none => 0
def begM (h : Nat → Option (Nat × CH MapC)) : Option (List (Nat × Nat) × Eff MapC) → Nat | some (_, e) => chN (putH h e.2 2001598) | none => 0
theorem ev_begin (ν : Nu) (n T : Nat) (f1 f2 : Nat → BitVec 32) (T1 T2 : RT) : evB (okBeg (tabsB n T f1 f2 T1 T2)) (beginQ ν n T f1 f2 T1 T2) = true ∧ evL (beginQ ν n T f1 f2 T1 T2) = evR (beginQ ν n T f1 f2 T1 T2) ∧
    evHs (tabsB n T f1 f2 T1 T2) [1000003, 1000004] (beginQ ν n T f1 f2 T1 T2) = [some (3, .ro [.r32 8 f1] T1), some (4, .ro [.r32 64 f2] T2)] ∧ begN (beginQ ν n T f1 f2 T1 T2) = begM (tabsB n T f1 f2 T1 T2) (beginQ ν n T f1 f2 T1 T2) := ⟨by kernel_rfl, by kernel_rfl, by kernel_rfl, by kernel_rfl⟩
end Go.Proofs
