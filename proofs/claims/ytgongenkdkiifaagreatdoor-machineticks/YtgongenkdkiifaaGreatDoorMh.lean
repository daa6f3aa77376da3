/- Two functions of which nothing is told but that a number comes. -/
import Derived.Test.YtgongenkdkiifaaGreatDoorMa2
import Derived.Test.YtgongenkdkiifaaGreatDoorEngH
set_option linter.unusedVariables false
set_option linter.unusedSimpArgs false
set_option maxRecDepth 100000
namespace Go.Proofs
open Go.Eng
def iv_h : Invs MapC := fun _ => none
/- math/bits.RotateLeft32, [38, 3] -> [38], 17 slots -/
def rc_math_bits_RotateLeft32 : RC := (.seq (.reg false [] [⟨(some 4), none, (.mov (.c (.u32 0#32))), 360004⟩])
  (.seq (.reg false [] [⟨(some 6), none, (.mov (.t 1)), 360006⟩,
     ⟨(some 7), none, (.conv .u64 (.t 6)), 360007⟩,
     ⟨(some 8), none, (.bin .and (.t 7) (.c (.u64 31#64))), 360008⟩,
     ⟨(some 5), none, (.mov (.t 8)), 360005⟩])
  (.seq (.reg false [] [⟨(some 9), none, (.mov (.t 0)), 360009⟩,
     ⟨(some 10), none, (.mov (.t 5)), 360010⟩,
     ⟨(some 11), none, (.bin .shl (.t 9) (.t 10)), 360011⟩,
     ⟨(some 12), none, (.mov (.t 0)), 360012⟩,
     ⟨(some 13), none, (.mov (.t 5)), 360013⟩,
     ⟨(some 14), none, (.bin .sub (.c (.u64 32#64)) (.t 13)), 360014⟩,
     ⟨(some 15), none, (.bin .shr (.t 12) (.t 14)), 360015⟩,
     ⟨(some 16), none, (.bin .or (.t 11) (.t 15)), 360016⟩,
     ⟨(some 4), none, (.mov (.t 16)), 360004⟩])
  .ret)))
def rv_math_bits_RotateLeft32 : List RV := [.tmp 4]
theorem ck_math_bits_RotateLeft32 : chkFn Tryz.prog Tryz.f360 rc_math_bits_RotateLeft32 rv_math_bits_RotateLeft32 = true := by kernel_rfl

/- sponsion/digest.turned, [38, 3, 3, 3] -> [38], 23 slots -/
def rc_digest_turned : RC := (.seq (.reg false [] [⟨(some 8), none, (.mov (.c (.u32 0#32))), 356008⟩])
  (.seq (.reg false [] [⟨(some 9), none, (.mov (.t 0)), 356009⟩,
     ⟨(some 10), none, (.mov (.t 1)), 356010⟩,
     ⟨(some 11), none, (.un .neg (.t 10)), 356011⟩,
     ⟨(some 12), none, (.call 360 [(.t 9), (.t 11)]), 356012⟩,
     ⟨(some 13), none, (.mov (.t 0)), 356013⟩,
     ⟨(some 14), none, (.mov (.t 2)), 356014⟩,
     ⟨(some 15), none, (.un .neg (.t 14)), 356015⟩,
     ⟨(some 16), none, (.call 360 [(.t 13), (.t 15)]), 356016⟩,
     ⟨(some 17), none, (.bin .xor (.t 12) (.t 16)), 356017⟩,
     ⟨(some 18), none, (.mov (.t 0)), 356018⟩,
     ⟨(some 19), none, (.mov (.t 3)), 356019⟩,
     ⟨(some 20), none, (.un .neg (.t 19)), 356020⟩,
     ⟨(some 21), none, (.call 360 [(.t 18), (.t 20)]), 356021⟩,
     ⟨(some 22), none, (.bin .xor (.t 17) (.t 21)), 356022⟩,
     ⟨(some 8), none, (.mov (.t 22)), 356008⟩])
  .ret))
def rv_digest_turned : List RV := [.tmp 8]
theorem ck_digest_turned : chkFn Tryz.prog Tryz.f356 rc_digest_turned rv_digest_turned = true := by kernel_rfl

def kN : List SV → List Nat := fun _ => []
def sp_rot : Nat → List SV → List (Nat × CH MapC) → Option (Out MapC) := fun _ vs _ => match vs with | [.u32 _, .i _] => some ⟨[], BitVec 32, 0, fun y => (.u32 y, [])⟩ | _ => none
def sp_turned : Nat → List SV → List (Nat × CH MapC) → Option (Out MapC) := fun _ vs _ => match vs with | [.u32 _, .i _, .i _, .i _] => some ⟨[], BitVec 32, 0, fun y => (.u32 y, [])⟩ | _ => none
set_option maxRecDepth 100000 in
theorem sx_rot (x : BitVec 32) (k : Int) (Q : SV → List (Option (Nat × CH MapC)) → Prop) : (fnT Sg_0 iv_h rc_math_bits_RotateLeft32 rv_math_bits_RotateLeft32 [.u32 x, .i k] [] (fun r s => Q r ([].map s.h))) = (
  Q (SV.u32 (x <<< BitVec.toNat (BitVec.ofInt (64 : Nat) k &&& BitVec.ofNat (64 : Nat) (31 : Nat)) ||| x >>> BitVec.toNat (BitVec.ofNat (64 : Nat) (32 : Nat) - (BitVec.ofInt (64 : Nat) k &&& BitVec.ofNat (64 : Nat) (31 : Nat))))) []) := by kernel_rfl

theorem ok_rot : SpecOk rhoM Tryz.prog 360 (hSp kN sp_rot) := by
  refine hsp_ok (Iv := iv_h) sg_0 (fn := Tryz.f360) (by kernel_rfl) ck_math_bits_RotateLeft32 2 (by kernel_rfl) ?_
  intro d vs cs o hlen ho hp
  have hcs : cs = [] := by cases cs with | nil => rfl | cons => simp [kN] at hlen
  subst hcs
  unfold sp_rot at ho
  split at ho
  · rename_i x k
    simp only [Option.some.injEq] at ho
    subst ho
    refine ⟨rfl, rfl, [], rfl, ?_⟩
    exact (sx_rot x k (fun r qs => EndP (⟨[], BitVec 32, 0, fun y => (.u32 y, [])⟩ : Out MapC) r qs)).mpr ⟨_, rfl, trivial⟩
  · simp at ho
def Sg_h0 : Specs MapC := Sg_0.add 360 (hSp kN sp_rot)
theorem sg_h0 : SgOk rhoM Tryz.prog Sg_h0 := sg_0.add ok_rot
set_option maxRecDepth 100000 in
theorem sx_turned (x : BitVec 32) (a b c : Int) (Q : SV → List (Option (Nat × CH MapC)) → Prop) : (fnT Sg_h0 iv_h rc_digest_turned rv_digest_turned [.u32 x, .i a, .i b, .i c] [] (fun r s => Q r ([].map s.h))) = (
  ∀ (y y_1 y_2 : BitVec (32 : Nat)), Q (SV.u32 (y ^^^ y_1 ^^^ y_2)) []) := by kernel_rfl

theorem ok_turned : SpecOk rhoM Tryz.prog 356 (hSp kN sp_turned) := by
  refine hsp_ok (Iv := iv_h) sg_h0 (fn := Tryz.f356) (by kernel_rfl) ck_digest_turned 4 (by kernel_rfl) ?_
  intro d vs cs o hlen ho hp
  have hcs : cs = [] := by cases cs with | nil => rfl | cons => simp [kN] at hlen
  subst hcs
  unfold sp_turned at ho
  split at ho
  · rename_i x a b c
    simp only [Option.some.injEq] at ho
    subst ho
    refine ⟨rfl, rfl, [], rfl, ?_⟩
    refine (sx_turned x a b c (fun r qs => EndP (⟨[], BitVec 32, 0, fun y => (.u32 y, [])⟩ : Out MapC) r qs)).mpr ?_
    intro y y1 y2
    exact ⟨_, rfl, trivial⟩
  · simp at ho
def Sg_h : Specs MapC := Sg_h0.add 356 (hSp kN sp_turned)
theorem sg_h : SgOk rhoM Tryz.prog Sg_h := sg_h0.add ok_turned
end Go.Proofs
