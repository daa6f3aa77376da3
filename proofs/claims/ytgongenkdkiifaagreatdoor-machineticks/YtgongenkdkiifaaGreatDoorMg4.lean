import Derived.Test.YtgongenkdkiifaaGreatDoorMg3
set_option linter.unusedVariables false
set_option linter.unusedSimpArgs false
set_option maxRecDepth 100000
namespace Go.Proofs
open Go.Eng
theorem ok_step : SpecOk rhoM Tryz.prog 6 (hSp kM sp_step) := by
  refine hsp_ok (Iv := iv_0) sg_3 (fn := Tryz.f6) (by kernel_rfl) ck_machine_Machine_Step 2 (by kernel_rfl) ?_
  intro d vs cs o hlen ho hp
  unfold sp_step at ho
  split at ho
  · split at ho
    · rename_i n n' nb blk dn rf x hm hs
      obtain ⟨rfl, rfl⟩ := sp_mach_eq hm
      have := sp_stepA_eq hs
      subst this
      simp only [Option.some.injEq] at ho
      subst ho
      obtain ⟨hn, hb⟩ : n = n' ∧ blk.toNat ≤ 549755813888 := hp
      subst hn
      refine ⟨show nodupB [3021] = true from by decide, by kernel_rfl, [3021], by decide, ?_⟩
      refine (sx_step n nb n blk dn rf x _).mpr ?_
      intro y y1
      refine ⟨rfl, rfl, rfl, hb, fun _ => ?_⟩
      cases hbad : badB x with
      | true =>
        have e1 : tickE x = 1 := by simp [tickE, hbad]
        simp only [e1, bne, show ((1 : Int) == 0) = false from rfl, Bool.not_false, cond_true, exists_prop, true_and]
        exact ⟨(), by simp [e1], by simp [OutsL, simC, machC, tickD, tickR, hbad]⟩
      | false =>
        have e1 : tickE x = 0 := by simp [tickE, hbad]
        simp only [e1, bne, show ((0 : Int) == 0) = true from rfl, Bool.not_true, cond_false, exists_prop, true_and]
        exact ⟨(), by simp [e1], by simp [OutsL, simC, machC, tickD, tickR, hbad]⟩
    · simp at ho
  · simp at ho
def Sg_5 : Specs MapC := ((((Sg_3.add 6 (hSp kM sp_step)).add 7 (hSp kM sp_block)).add 8 (hSp kM sp_log)).add 4 (hSp kL sp_lives)).add 5 (hSp kBeg sp_begin)
theorem sg_5 : SgOk rhoM Tryz.prog Sg_5 := ((((sg_3.add ok_step).add ok_block).add ok_log).add ok_lives).add ok_begin
/-- the loop: how far, the block, what was done and refused, where the machine lies -/
def LawA (len : Nat) : Type := { a : Nat × BitVec 64 × Int × Int × Nat × Nat // a.1 ≤ len ∧ a.2.1.toNat ≤ a.1 * 1048576 }
def sp_lawInv (n off len cap : Nat) (f : Nat → Int) (ob : Obj) (f1 f2 : Nat → BitVec 32) (T0 T1 T2 : RT) : LInv MapC where
  α := LawA len
  slots := [3, 6, 27, 28, 29]
  keys := [1, 3021, 1000000, 1000003, 1000004]
  inv := fun a => ([(3, .ptr 3021 a.1.2.2.2.2.1 0 0), (6, .u64 a.1.2.1), (27, .slc 1 n off 0 len cap), (28, .i len), (29, .i a.1.1)],
    [(1, some (n, .sy (.row off [.ri len f] ob))), (3021, some (a.1.2.2.2.2.1, machC a.1.2.2.2.2.2 a.1.2.1 a.1.2.2.1 a.1.2.2.2.1)), (1000000, some (0, .ro (signsL.map .str) T0)), (1000003, some (3, .ro [.r32 8 f1] T1)), (1000004, some (4, .ro [.r32 64 f2] T2))])
  μ := fun a => len - a.1.1
def iv_law (n off len cap : Nat) (f : Nat → Int) (ob : Obj) (f1 f2 : Nat → BitVec 32) (T0 T1 T2 : RT) : Invs MapC := fun i => match i with | 0 => some (.inv (sp_lawInv n off len cap f ob f1 f2 T0 T1 T2)) | _ => none
def sp_lawNil (f1 f2 : Nat → BitVec 32) (T0 T1 T2 : RT) : LInv MapC where
  α := Nat × Nat
  slots := [3, 6, 27, 28, 29]
  keys := [3021, 1000000, 1000003, 1000004]
  inv := fun a => ([(3, .ptr 3021 a.1 0 0), (6, .u64 0), (27, .nils), (28, .i 0), (29, .i 0)], [(3021, some (a.1, machC a.2 0 0 0)), (1000000, some (0, .ro (signsL.map .str) T0)), (1000003, some (3, .ro [.r32 8 f1] T1)), (1000004, some (4, .ro [.r32 64 f2] T2))])
  μ := fun _ => 0
def sp_lawE (n off cap : Nat) (f1 f2 : Nat → BitVec 32) (T0 T1 T2 : RT) : LInv MapC where
  α := Nat × Nat
  slots := [3, 6, 27, 28, 29]
  keys := [3021, 1000000, 1000003, 1000004]
  inv := fun a => ([(3, .ptr 3021 a.1 0 0), (6, .u64 0), (27, .slc 1 n off 0 0 cap), (28, .i 0), (29, .i 0)], [(3021, some (a.1, machC a.2 0 0 0)), (1000000, some (0, .ro (signsL.map .str) T0)), (1000003, some (3, .ro [.r32 8 f1] T1)), (1000004, some (4, .ro [.r32 64 f2] T2))])
  μ := fun _ => 0
def iv_lawE (n off cap : Nat) (f1 f2 : Nat → BitVec 32) (T0 T1 T2 : RT) : Invs MapC := fun i => match i with | 0 => some (.inv (sp_lawE n off cap f1 f2 T0 T1 T2)) | _ => none
def iv_nil (f1 f2 : Nat → BitVec 32) (T0 T1 T2 : RT) : Invs MapC := fun i => match i with | 0 => some (.inv (sp_lawNil f1 f2 T0 T1 T2)) | _ => none
/- sponsion/sponsionlaw26.MachineTicks, [22] -> [4], 76 slots -/
def rc_sponsionlaw26_MachineTicks : RC := (.seq (.reg false [] [⟨(some 2), none, (.mov (.c (.b false))), 3002⟩])
  (.seq (.seq (.reg false [] [⟨(some 10), none, (.call 4 []), 3010⟩,
      ⟨(some 11), none, (.un .not (.t 10)), 3011⟩,
      ⟨(some 12), none, (.mov (.t 11)), 3012⟩,
      ⟨(some 13), (some (12, false)), (.mov (.t 0)), 3013⟩,
      ⟨(some 14), (some (12, false)), (.xt (.bi .len [22]) [(.t 13)]), 3014⟩,
      ⟨(some 15), (some (12, false)), (.bin .gtr (.t 14) (.c (.i 60))), 3015⟩,
      ⟨(some 16), none, (.pick (.t 12) (.c (.b true)) (.t 15)), 3016⟩])
   (.cond (.t 16)
     (.seq (.reg false [] [⟨(some 17), none, (.call 4 []), 3017⟩,
        ⟨(some 2), none, (.mov (.t 17)), 3002⟩])
     .ret)
     .skip))
  (.seq (.reg false [] [⟨(some 19), none, (.xt (.bsl 65 2 [0, 1]) [(.c (.val (.complex .f64 0 0))), (.c (.val (.complex .f64 4696837146684686336 0)))]), 3019⟩,
     ⟨(some 20), none, (.build [(.i 0), (.i 0), (.u64 0#64), (.u64 0#64), (.u64 0#64), (.u64 0#64), (.u64 0#64), .nils] [(7, 1)] [(.t 19)]), 3020⟩,
     ⟨(some 21), none, (.call 5 [(.t 20)]), 3021⟩,
     ⟨(some 18), none, (.mov (.t 21)), 3018⟩,
     ⟨(some 22), none, (.ext 0 (.t 18)), 3022⟩,
     ⟨(some 23), none, (.ext 1 (.t 18)), 3023⟩,
     ⟨(some 24), none, (.ext 2 (.t 18)), 3024⟩,
     ⟨(some 4), none, (.new [(.u64 0#64), (.u64 0#64), (.u64 0#64), (.u64 0#64), (.u64 0#64), (.u64 0#64), (.u64 0#64), (.u64 0#64), (.u64 0#64), (.u64 0#64), (.u64 0#64), (.u64 0#64), (.u64 0#64), (.u64 0#64), (.u64 0#64), (.u64 0#64), (.u64 0#64), (.u64 0#64), (.u64 0#64), (.u64 0#64), (.u64 0#64), (.u64 0#64), (.u64 0#64), (.u64 0#64), (.u64 0#64), (.u64 0#64), (.u64 0#64), (.u64 0#64), (.u64 0#64), (.u64 0#64), (.u64 0#64), (.u64 0#64), (.u64 0#64), (.u64 0#64), (.u64 0#64), (.u64 0#64), (.u64 0#64), (.u64 0#64), (.u64 0#64), (.u64 0#64), (.u64 0#64), (.u64 0#64), (.u64 0#64), (.u64 0#64), (.u64 0#64), (.u64 0#64), (.u64 0#64), (.u64 0#64), (.u64 0#64), (.u64 0#64), (.u64 0#64), (.u64 0#64), (.u64 0#64), (.u64 0#64), (.u64 0#64), (.u64 0#64), (.u64 0#64), (.u64 0#64), (.u64 0#64), (.u64 0#64), (.u64 0#64), (.u64 0#64), (.u64 0#64), (.u64 0#64), (.u64 0#64), (.u64 0#64), (.u64 0#64), (.u64 0#64), (.u64 0#64), (.u64 0#64), (.u64 0#64), (.u64 0#64), (.u64 0#64), (.u64 0#64), (.u64 0#64), (.u64 0#64), (.u64 0#64), (.u64 0#64), (.u64 0#64), (.u64 0#64), (.u64 0#64), (.u64 0#64), (.u64 0#64), (.u64 0#64), (.u64 0#64), (.u64 0#64), (.u64 0#64), (.u64 0#64), (.u64 0#64), (.u64 0#64), (.u64 0#64), (.u64 0#64), (.u64 0#64), (.u64 0#64), (.u64 0#64), (.u64 0#64), (.u64 0#64), (.u64 0#64), (.u64 0#64), (.u64 0#64), (.u64 0#64), (.u64 0#64), (.u64 0#64), (.u64 0#64), (.u64 0#64), (.u64 0#64), (.u64 0#64), (.u64 0#64), (.u64 0#64), (.u64 0#64), (.u64 0#64), (.u64 0#64), (.u64 0#64), (.u64 0#64), (.u64 0#64), (.u64 0#64), (.u64 0#64), (.u64 0#64), (.u64 0#64), (.u64 0#64), (.u64 0#64), (.u64 0#64), (.u64 0#64), (.u64 0#64), (.u64 0#64), (.u64 0#64), (.u64 0#64), (.u64 0#64), (.u64 0#64), (.u64 0#64), (.u64 0#64), (.u64 0#64), (.u64 0#64), (.u64 0#64), (.u64 0#64), (.u64 0#64), (.u64 0#64), (.u64 0#64), (.u64 0#64), (.u64 0#64), (.u64 0#64), (.u64 0#64), (.u64 0#64), (.u64 0#64), (.u64 0#64), (.u64 0#64), (.u64 0#64), (.u64 0#64), (.u64 0#64), (.u64 0#64), (.u64 0#64), (.u64 0#64), (.u64 0#64), (.u64 0#64), (.u64 0#64), (.u64 0#64), (.u64 0#64), (.u64 0#64), (.u64 0#64), (.u64 0#64), (.u64 0#64), (.u64 0#64), (.u64 0#64), (.u64 0#64), (.u64 0#64), (.u64 0#64), (.u64 0#64), (.u64 0#64), (.u64 0#64), (.u64 0#64), (.u64 0#64), (.u64 0#64), (.u64 0#64), (.u64 0#64), (.u64 0#64), (.u64 0#64), (.u64 0#64), (.u64 0#64), (.u64 0#64), (.u64 0#64), (.u64 0#64), (.u64 0#64), (.u64 0#64), (.u64 0#64), (.u64 0#64), (.u64 0#64), (.u64 0#64), (.u64 0#64), (.u64 0#64), (.u64 0#64), (.u64 0#64), (.u64 0#64), (.u64 0#64), (.u64 0#64), (.u64 0#64), (.u64 0#64), (.u64 0#64), (.u64 0#64), (.u64 0#64), (.u64 0#64), (.u64 0#64), (.u64 0#64), (.u64 0#64), (.u64 0#64), (.u64 0#64), (.u64 0#64), (.u64 0#64), (.u64 0#64), (.u64 0#64), (.u64 0#64), (.u64 0#64), (.u64 0#64), (.u64 0#64), (.u64 0#64), (.u64 0#64), (.u64 0#64), (.u64 0#64), (.u64 0#64), (.u64 0#64), (.u64 0#64), (.u64 0#64), (.u64 0#64), (.u64 0#64), (.u64 0#64), (.u64 0#64), (.u64 0#64), (.u64 0#64), (.u64 0#64), (.u64 0#64), (.u64 0#64), (.u64 0#64), (.u64 0#64), (.u64 0#64), (.u64 0#64), (.u64 0#64), (.u64 0#64), (.u64 0#64), (.u64 0#64), (.u64 0#64), (.u64 0#64), (.u64 0#64), (.u64 0#64), (.u64 0#64), (.u64 0#64), (.u64 0#64), (.u64 0#64), (.u64 0#64), (.u64 0#64), (.u64 0#64), (.u64 0#64), (.u64 0#64), (.u64 0#64), (.u64 0#64), (.u64 0#64), (.u64 0#64), (.u64 0#64), (.u64 0#64), (.u64 0#64), (.u64 0#64), (.u64 0#64), (.u64 0#64), (.u64 0#64), (.u64 0#64), (.u64 0#64), (.u64 0#64), (.u64 0#64), (.u64 0#64), (.u64 0#64), (.u64 0#64), (.u64 0#64), (.u64 0#64), (.u64 0#64), (.u64 0#64), (.u64 0#64), (.u64 0#64), (.u64 0#64), (.u64 0#64), (.u64 0#64), (.u64 0#64), (.u64 0#64), (.u64 0#64), (.u64 0#64), (.u64 0#64), (.u64 0#64), (.u64 0#64), (.u64 0#64), (.u64 0#64), (.u64 0#64), (.u64 0#64), (.u64 0#64), (.u64 0#64), (.u64 0#64), (.u64 0#64), (.u64 0#64), (.u64 0#64), (.u64 0#64), (.u64 0#64), (.u64 0#64), (.u64 0#64), (.u64 0#64), (.u64 0#64), (.u64 0#64), (.u64 0#64), (.u64 0#64), (.u64 0#64), (.u64 0#64), (.u64 0#64), (.u64 0#64), (.u64 0#64), (.u64 0#64), (.u64 0#64), (.u64 0#64), (.u64 0#64), (.u64 0#64), (.u64 0#64), (.u64 0#64), (.u64 0#64), (.u64 0#64), (.u64 0#64), (.u64 0#64), (.u64 0#64), (.u64 0#64), (.u64 0#64), (.u64 0#64), (.u64 0#64), (.u64 0#64), (.u64 0#64), (.u64 0#64), (.u64 0#64), (.u64 0#64), (.u64 0#64), (.u64 0#64), (.u64 0#64), (.u64 0#64), (.u64 0#64), (.u64 0#64), (.u64 0#64), (.u64 0#64), (.u64 0#64), (.u64 0#64), (.u64 0#64), (.u64 0#64), (.u64 0#64), (.u64 0#64), (.u64 0#64), (.u64 0#64), (.u64 0#64), (.u64 0#64), (.u64 0#64), (.u64 0#64), (.u64 0#64), (.u64 0#64), (.u64 0#64), (.u64 0#64), (.u64 0#64), (.u64 0#64), (.u64 0#64), (.u64 0#64), (.u64 0#64), (.u64 0#64), (.u64 0#64), (.u64 0#64), (.u64 0#64), (.u64 0#64), (.u64 0#64), (.u64 0#64), (.u64 0#64), (.u64 0#64), (.u64 0#64), (.u64 0#64), (.u64 0#64), (.u64 0#64), (.u64 0#64), (.u64 0#64), (.u64 0#64), (.u64 0#64), (.u64 0#64), (.u64 0#64), (.u64 0#64), (.u64 0#64), (.u64 0#64), (.u64 0#64), (.u64 0#64), (.u64 0#64), (.u64 0#64), (.u64 0#64), (.u64 0#64), (.u64 0#64), (.u64 0#64), (.u64 0#64), (.u64 0#64), (.u64 0#64), (.u64 0#64), (.u64 0#64), (.u64 0#64), (.u64 0#64), (.u64 0#64), (.u64 0#64), (.u64 0#64), (.u64 0#64), (.u64 0#64), (.u64 0#64), (.u64 0#64), (.u64 0#64), (.u64 0#64), (.u64 0#64), (.u64 0#64), (.u64 0#64), (.u64 0#64), (.u64 0#64), (.u64 0#64), (.u64 0#64), (.u64 0#64), (.u64 0#64), (.u64 0#64), (.u64 0#64), (.u64 0#64), (.u64 0#64), (.u64 0#64), (.u64 0#64), (.u64 0#64), (.u64 0#64), (.u64 0#64), (.u64 0#64), (.u64 0#64), (.u64 0#64), (.u64 0#64), (.u64 0#64), (.u64 0#64), (.u64 0#64), (.u64 0#64), (.u64 0#64), (.u64 0#64), (.u64 0#64), (.u64 0#64), (.u64 0#64), (.u64 0#64), (.u64 0#64), (.u64 0#64), (.u64 0#64), (.u64 0#64), (.u64 0#64), (.u64 0#64), (.u64 0#64), (.u64 0#64), (.u64 0#64), (.u64 0#64), (.u64 0#64), (.u64 0#64), (.u64 0#64), (.u64 0#64), (.u64 0#64), (.u64 0#64), (.u64 0#64), (.u64 0#64), (.u64 0#64), (.u64 0#64), (.u64 0#64), (.u64 0#64), (.u64 0#64), (.u64 0#64), (.u64 0#64), (.u64 0#64), (.u64 0#64), (.u64 0#64), (.u64 0#64), (.u64 0#64), (.u64 0#64), (.u64 0#64), (.u64 0#64), (.u64 0#64), (.u64 0#64), (.u64 0#64), (.u64 0#64), (.u64 0#64), (.u64 0#64), (.u64 0#64), (.u64 0#64), (.u64 0#64), (.u64 0#64), (.u64 0#64), (.u64 0#64), (.u64 0#64), (.u64 0#64), (.u64 0#64), (.u64 0#64), (.u64 0#64), (.u64 0#64), (.u64 0#64), (.u64 0#64), (.u64 0#64), (.u64 0#64), (.u64 0#64), (.u64 0#64), (.u64 0#64), (.u64 0#64), (.u64 0#64), (.u64 0#64), (.u64 0#64), (.u64 0#64), (.u64 0#64), (.u64 0#64), (.u64 0#64), (.u64 0#64), (.u64 0#64), (.u64 0#64), (.u64 0#64), (.u64 0#64), (.u64 0#64), (.u64 0#64), (.u64 0#64), (.u64 0#64), (.u64 0#64), (.u64 0#64), (.u64 0#64), (.u64 0#64), (.u64 0#64), (.u64 0#64), (.u64 0#64), (.u64 0#64), (.u64 0#64), (.u64 0#64), (.u64 0#64), (.u64 0#64), (.u64 0#64), (.u64 0#64), (.u64 0#64), (.u64 0#64), (.u64 0#64), (.u64 0#64), (.u64 0#64), (.u64 0#64), (.u64 0#64), (.u64 0#64), (.u64 0#64), (.u64 0#64), (.u64 0#64), (.u64 0#64), (.u64 0#64), (.u64 0#64), (.u64 0#64), (.u64 0#64), (.u64 0#64), (.u64 0#64), (.u64 0#64), (.u64 0#64), (.u64 0#64), (.u64 0#64), (.u64 0#64), (.u64 0#64), (.u64 0#64), (.u64 0#64), (.u64 0#64), (.u64 0#64), (.u64 0#64), (.u64 0#64), (.u64 0#64), (.u64 0#64), (.u64 0#64), (.u64 0#64), (.u64 0#64), (.u64 0#64), (.u64 0#64), (.u64 0#64), (.u64 0#64), (.u64 0#64), (.u64 0#64), (.u64 0#64), (.u64 0#64), (.u64 0#64), (.u64 0#64), (.u64 0#64), (.u64 0#64), (.u64 0#64), (.u64 0#64), (.u64 0#64), (.r64 16 fun _ => 0#64), .nils, .nils, (.u32 0#32), (.u64 0#64), .nils, .nils, (.u64 0#64), (.u64 0#64), (.u64 0#64), (.u64 0#64), (.u64 0#64), (.u64 0#64), (.u64 0#64), (.u64 0#64), (.u64 0#64), (.u64 0#64), (.u64 0#64), (.u64 0#64), (.u64 0#64), (.u64 0#64), (.u64 0#64), (.u64 0#64), (.u64 0#64), (.u64 0#64), (.u64 0#64), (.u64 0#64), (.u64 0#64), (.u64 0#64), (.u64 0#64), (.u64 0#64), (.u64 0#64), (.u64 0#64), (.u64 0#64), (.u64 0#64), (.u64 0#64), (.u64 0#64), (.u64 0#64), (.u64 0#64), (.u64 0#64), (.u64 0#64), (.u64 0#64), (.u64 0#64), (.u64 0#64), (.u64 0#64), (.u64 0#64), (.u64 0#64), (.u64 0#64), (.u64 0#64), (.u64 0#64), (.u64 0#64), (.u64 0#64), (.u64 0#64), (.u64 0#64), (.u64 0#64), (.u64 0#64), (.u64 0#64), (.u64 0#64), (.u64 0#64), (.u64 0#64), (.u64 0#64), (.u64 0#64), (.u64 0#64), (.u64 0#64), (.u64 0#64), (.u64 0#64), (.u64 0#64), (.u64 0#64), (.u64 0#64), (.u64 0#64), (.u64 0#64), (.u64 0#64), (.u64 0#64), (.u64 0#64), (.u64 0#64), (.u64 0#64), (.u64 0#64), (.u64 0#64), (.u64 0#64), (.u64 0#64), (.u64 0#64), (.u64 0#64), (.u64 0#64), (.u64 0#64), (.u64 0#64), (.u64 0#64), (.u64 0#64), (.u64 0#64), (.u64 0#64), (.u64 0#64), (.u64 0#64), (.u64 0#64), (.u64 0#64), (.u64 0#64), (.u64 0#64), (.u64 0#64), (.u64 0#64), (.u64 0#64), (.u64 0#64), (.u64 0#64), (.u64 0#64), (.u64 0#64), (.u64 0#64), (.u64 0#64), (.u64 0#64), (.u64 0#64), (.u64 0#64), (.u64 0#64), (.u64 0#64), (.u64 0#64), (.u64 0#64), (.u64 0#64), (.u64 0#64), (.u64 0#64), (.u64 0#64), (.u64 0#64), (.u64 0#64), (.u64 0#64), (.u64 0#64), (.u64 0#64), (.u64 0#64), (.u64 0#64), (.u64 0#64), (.u64 0#64), (.u64 0#64), (.u64 0#64), (.u64 0#64), (.u64 0#64), (.u64 0#64), (.u64 0#64), (.u64 0#64), (.u64 0#64), (.u64 0#64), (.u64 0#64), (.u64 0#64), (.u64 0#64), (.u64 0#64), (.u64 0#64), (.u64 0#64), (.u64 0#64), (.u64 0#64), (.u64 0#64), (.u64 0#64), (.u64 0#64), (.u64 0#64), (.u64 0#64), (.u64 0#64), (.u64 0#64), (.u64 0#64), (.u64 0#64), (.u64 0#64), (.u64 0#64), (.u64 0#64), (.u64 0#64), (.u64 0#64), (.u64 0#64), (.u64 0#64), (.u64 0#64), (.u64 0#64), (.u64 0#64), (.u64 0#64), (.u64 0#64), (.u64 0#64), (.u64 0#64), (.u64 0#64), (.u64 0#64), (.u64 0#64), (.u64 0#64), (.u64 0#64), (.u64 0#64), (.u64 0#64), (.u64 0#64), (.u64 0#64), (.u64 0#64), (.u64 0#64), (.u64 0#64), (.u64 0#64), (.u64 0#64), (.u64 0#64), (.u64 0#64), (.u64 0#64), (.u64 0#64), (.u64 0#64), (.u64 0#64), (.u64 0#64), (.u64 0#64), (.u64 0#64), (.u64 0#64), (.u64 0#64), (.u64 0#64), (.u64 0#64), (.u64 0#64), (.u64 0#64), (.u64 0#64), (.u64 0#64), (.u64 0#64), (.u64 0#64), (.u64 0#64), (.u64 0#64), (.u64 0#64), (.u64 0#64), (.u64 0#64), (.u64 0#64), (.u64 0#64), (.u64 0#64), (.u64 0#64), (.u64 0#64), (.u64 0#64), (.u64 0#64), (.u64 0#64), (.u64 0#64), (.u64 0#64), (.u64 0#64), (.u64 0#64), (.u64 0#64), (.u64 0#64), (.u64 0#64), (.u64 0#64), (.u64 0#64), (.u64 0#64), (.u64 0#64), (.u64 0#64), (.u64 0#64), (.u64 0#64), (.u64 0#64), (.u64 0#64), (.u64 0#64), (.u64 0#64), (.u64 0#64), (.u64 0#64), (.u64 0#64), (.u64 0#64), (.u64 0#64), (.u64 0#64), (.u64 0#64), (.u64 0#64), (.u64 0#64), (.u64 0#64), (.u64 0#64), (.u64 0#64), (.u64 0#64), (.u64 0#64), (.u64 0#64), (.u64 0#64), (.u64 0#64), (.u64 0#64), (.u64 0#64), (.u64 0#64), (.u64 0#64), (.u64 0#64), (.u64 0#64), (.u64 0#64), (.u64 0#64), (.u64 0#64), (.u64 0#64), (.u64 0#64), (.u64 0#64), (.u64 0#64), (.u64 0#64), (.u64 0#64), (.u64 0#64), (.u64 0#64), (.u64 0#64), (.u64 0#64), (.u64 0#64), (.u64 0#64), (.u64 0#64), (.u64 0#64), (.u64 0#64), (.u64 0#64), (.u64 0#64), (.u64 0#64), (.u64 0#64), (.u64 0#64), (.u64 0#64), (.u64 0#64), (.u64 0#64), (.u64 0#64), (.u64 0#64), (.u64 0#64), (.u64 0#64), (.u64 0#64), (.u64 0#64), (.u64 0#64), (.u64 0#64), (.u64 0#64), (.u64 0#64), (.u64 0#64), (.u64 0#64), (.u64 0#64), (.u64 0#64), (.u64 0#64), (.u64 0#64), (.u64 0#64), (.u64 0#64), (.u64 0#64), (.u64 0#64), (.u64 0#64), (.u64 0#64), (.u64 0#64), (.u64 0#64), (.u64 0#64), (.u64 0#64), (.u64 0#64), (.u64 0#64), (.u64 0#64), (.u64 0#64), (.u64 0#64), (.u64 0#64), (.u64 0#64), (.u64 0#64), (.u64 0#64), (.u64 0#64), (.u64 0#64), (.u64 0#64), (.u64 0#64), (.u64 0#64), (.u64 0#64), (.u64 0#64), (.u64 0#64), (.u64 0#64), (.u64 0#64), (.u64 0#64), (.u64 0#64), (.u64 0#64), (.u64 0#64), (.u64 0#64), .nils, .nils, .nils, .nils, (.u64 0#64), (.u64 0#64), (.u64 0#64), (.u64 0#64), (.u64 0#64), (.u64 0#64), .nils, .nils, (.u64 0#64), .nils, (.i 0), (.i 0)] 60), 3004⟩,
     ⟨(some 3), none, (.mov (.t 22)), 3003⟩,
     ⟨none, none, (.store 934 (.t 4) (.t 23)), 3530⟩,
     ⟨(some 5), none, (.mov (.t 24)), 3005⟩])
  (.seq (.seq (.reg false [] [⟨(some 25), none, (.mov (.t 5)), 3025⟩,
      ⟨(some 26), none, (.bin .neq (.t 25) (.c (.i 0))), 3026⟩])
   (.cond (.t 26)
     (.seq (.reg false [] [⟨(some 2), none, (.mov (.c (.b false))), 3002⟩])
     .ret)
     .skip))
  (.seq (.reg false [] [⟨(some 6), none, (.mov (.c (.u64 0#64))), 3006⟩])
  (.seq (.seq (.reg false [] [⟨(some 27), none, (.mov (.t 0)), 3027⟩,
      ⟨(some 28), none, (.xt (.bi .len [22]) [(.t 27)]), 3028⟩,
      ⟨(some 29), none, (.mov (.c (.i 0))), 3029⟩])
   (.block 0 (.loop 0 (.seq (.reg false [] [⟨(some 30), none, (.bin .lss (.t 29) (.t 28)), 3030⟩])
     (.seq (.cond (.t 30)
        .skip
        (.exit 0))
     (.seq (.block 1 (.seq (.reg false [] [⟨(some 31), none, (.iaddr none 1 (.t 27) (.t 29)), 3031⟩,
          ⟨(some 32), none, (.load false 1 (.t 31)), 3032⟩,
          ⟨(some 8), none, (.mov (.t 32)), 3008⟩])
       (.seq (.reg false [] [⟨(some 33), none, (.mov (.t 3)), 3033⟩,
          ⟨(some 34), none, (.mov (.t 8)), 3034⟩,
          ⟨(some 35), none, (.build [(.u8 0#8), .nils, (.i 0), (.u32 0#32), (.u8 0#8)] [(0, 1), (2, 1)] [(.c (.u8 1#8)), (.t 34)]), 3035⟩,
          ⟨(some 36), none, (.call 6 [(.t 33), (.t 35)]), 3036⟩,
          ⟨(some 9), none, (.new [(.i 0), .nils] 70), 3009⟩,
          ⟨none, none, (.store 2 (.t 9) (.t 36)), 3575⟩])
       (.seq (.seq (.reg false [] [⟨(some 37), none, (.mov (.t 8)), 3037⟩,
           ⟨(some 38), none, (.bin .lss (.t 37) (.c (.i 0))), 3038⟩,
           ⟨(some 39), none, (.mov (.t 38)), 3039⟩,
           ⟨(some 40), (some (39, false)), (.mov (.t 8)), 3040⟩,
           ⟨(some 41), (some (39, false)), (.bin .gtr (.t 40) (.c (.i 1048576))), 3041⟩,
           ⟨(some 42), none, (.pick (.t 39) (.c (.b true)) (.t 41)), 3042⟩])
        (.cond (.t 42)
          (.seq (.seq (.reg false [] [⟨(some 43), none, (.faddr 0 (.t 9)), 3043⟩,
            ⟨(some 44), none, (.load false 1 (.t 43)), 3044⟩,
            ⟨(some 45), none, (.bin .neq (.t 44) (.c (.i 1))), 3045⟩,
            ⟨(some 46), none, (.mov (.t 45)), 3046⟩,
            ⟨(some 47), (some (46, false)), (.mov (.t 3)), 3047⟩,
            ⟨(some 48), (some (46, false)), (.call 7 [(.t 47)]), 3048⟩,
            ⟨(some 49), (some (46, false)), (.mov (.t 6)), 3049⟩,
            ⟨(some 50), (some (46, false)), (.bin .neq (.t 48) (.t 49)), 3050⟩,
            ⟨(some 51), none, (.pick (.t 46) (.c (.b true)) (.t 50)), 3051⟩])
           (.cond (.t 51)
            (.seq (.reg false [] [⟨(some 2), none, (.mov (.c (.b false))), 3002⟩])
            .ret)
            .skip))
          (.exit 1))
          .skip))
       (.seq (.reg false [] [⟨(some 52), none, (.mov (.t 6)), 3052⟩,
          ⟨(some 53), none, (.mov (.t 8)), 3053⟩,
          ⟨(some 54), none, (.conv .u64 (.t 53)), 3054⟩,
          ⟨(some 55), none, (.bin .add (.t 52) (.t 54)), 3055⟩,
          ⟨(some 6), none, (.mov (.t 55)), 3006⟩])
       (.seq (.reg false [] [⟨(some 56), none, (.faddr 0 (.t 9)), 3056⟩,
          ⟨(some 57), none, (.load false 1 (.t 56)), 3057⟩,
          ⟨(some 58), none, (.bin .neq (.t 57) (.c (.i 0))), 3058⟩,
          ⟨(some 59), none, (.mov (.t 58)), 3059⟩,
          ⟨(some 60), (some (59, false)), (.mov (.t 3)), 3060⟩,
          ⟨(some 61), (some (59, false)), (.call 7 [(.t 60)]), 3061⟩,
          ⟨(some 62), (some (59, false)), (.mov (.t 6)), 3062⟩,
          ⟨(some 63), (some (59, false)), (.bin .neq (.t 61) (.t 62)), 3063⟩,
          ⟨(some 64), none, (.pick (.t 59) (.c (.b true)) (.t 63)), 3064⟩,
          ⟨(some 65), none, (.mov (.t 64)), 3065⟩,
          ⟨(some 66), (some (65, false)), (.faddr 1 (.t 9)), 3066⟩,
          ⟨(some 67), (some (65, false)), (.load false 1 (.t 66)), 3067⟩,
          ⟨(some 68), (some (65, false)), (.xt (.bi .len [68]) [(.t 67)]), 3068⟩,
          ⟨(some 69), (some (65, false)), (.bin .neq (.t 68) (.c (.i 0))), 3069⟩,
          ⟨(some 70), none, (.pick (.t 65) (.c (.b true)) (.t 69)), 3070⟩])
       (.cond (.t 70)
         (.seq (.reg false [] [⟨(some 2), none, (.mov (.c (.b false))), 3002⟩])
         .ret)
         .skip)))))))
     (.reg false [] [⟨(some 71), none, (.bin .add (.t 29) (.c (.i 1))), 3071⟩,
       ⟨(some 29), none, (.mov (.t 71)), 3029⟩])))))))
  (.seq (.reg false [] [⟨(some 72), none, (.mov (.t 3)), 3072⟩,
     ⟨(some 73), none, (.call 8 [(.t 72)]), 3073⟩,
     ⟨(some 74), none, (.xt (.bi .len [68]) [(.t 73)]), 3074⟩,
     ⟨(some 75), none, (.bin .eql (.t 74) (.c (.i 0))), 3075⟩,
     ⟨(some 2), none, (.mov (.t 75)), 3002⟩])
  .ret)))))))
def rv_sponsionlaw26_MachineTicks : List RV := [.tmp 2]
theorem ck_sponsionlaw26_MachineTicks : chkFn Tryz.prog Tryz.f3 rc_sponsionlaw26_MachineTicks rv_sponsionlaw26_MachineTicks = true := by kernel_rfl

set_option maxRecDepth 100000 in
theorem sx_law (n off len cap : Nat) (f : Nat → Int) (ob : Obj) (f1 f2 : Nat → BitVec 32) (T0 T1 T2 : RT) (Q : SV → List (Option (Nat × CH MapC)) → Prop) : (fnT Sg_5 (iv_law n off len cap f ob f1 f2 T0 T1 T2) rc_sponsionlaw26_MachineTicks rv_sponsionlaw26_MachineTicks [.slc 1 n off 0 len cap] [(1, some (n, .sy (.row off [.ri len f] ob))), (1000000, some (0, .ro (signsL.map .str) T0)), (1000003, some (3, .ro [.r32 8 f1] T1)), (1000004, some (4, .ro [.r32 64 f2] T2))] (fun r s => Q r ([1, 1000000, 1000003, 1000004].map s.h))) = (
  ∃ (h : (0 : Nat) = (0 : Nat)),
  ∃ (h : (3 : Nat) = (3 : Nat)),
    ∃ (h : (4 : Nat) = (4 : Nat)),
      ∀ (y : Unit),
        bif decide ((60 : Int) < (↑len : Int)) then
          ∃ (h : (0 : Nat) = (0 : Nat)),
            ∃ (h : (3 : Nat) = (3 : Nat)),
            ∃ (h : (4 : Nat) = (4 : Nat)),
            ∀ (y : Unit),
            Q (SV.b true)
            [some (n, CH.sy (U := MapC) (Sy.row off [SV.ri len f] ob)),
            some
            ((0 : Nat),
            CH.ro (U := MapC)
            [SV.str (ByteArray.mk #[(116 : UInt8), (97 : UInt8), (110 : UInt8)]), SV.str (ByteArray.mk #[(115 : UInt8), (116 : UInt8), (97 : UInt8), (110 : UInt8)]),
            SV.str (ByteArray.mk #[(116 : UInt8), (97 : UInt8), (110 : UInt8)]), SV.str (ByteArray.mk #[(116 : UInt8), (97 : UInt8), (110 : UInt8)]), SV.str (ByteArray.mk #[]),
            SV.str (ByteArray.mk #[(105 : UInt8), (97 : UInt8)]), SV.str (ByteArray.mk #[(105 : UInt8), (110 : UInt8)]), SV.str (ByteArray.mk #[(105 : UInt8)]), SV.str (ByteArray.mk #[(105 : UInt8), (97 : UInt8)]),
            SV.str (ByteArray.mk #[(105 : UInt8), (98 : UInt8), (112 : UInt8)]), SV.str (ByteArray.mk #[(105 : UInt8), (97 : UInt8)]),
            SV.str (ByteArray.mk #[(105 : UInt8), (97 : UInt8), (111 : UInt8), (98 : UInt8), (112 : UInt8)]), SV.str (ByteArray.mk #[(105 : UInt8)]), SV.str (ByteArray.mk #[(105 : UInt8), (98 : UInt8), (112 : UInt8)]),
            SV.str (ByteArray.mk #[(105 : UInt8)]), SV.str (ByteArray.mk #[(116 : UInt8), (110 : UInt8)]), SV.str (ByteArray.mk #[(116 : UInt8), (110 : UInt8)])]
            T0),
            some ((3 : Nat), CH.ro (U := MapC) [SV.r32 (8 : Nat) f1] T1), some ((4 : Nat), CH.ro (U := MapC) [SV.r32 (64 : Nat) f2] T2)]
        else
          ∃ (h : (2 : Nat) = (2 : Nat)),
            ∃ (h : (1 : Nat) = (1 : Nat)),
            ∃ (h : (0 : Nat) = (0 : Nat)),
            ∃ (h : (1 : Nat) = (1 : Nat)),
            ∃ (h : (0 : Nat) = (0 : Nat)),
            ∀ (y : Nat),
            ∃ (h : (1 : Nat) = (1 : Nat)),
            ∃ (h : (0 : Nat) = (0 : Nat)),
            ∃ (h : y = y),
            ∃ (h : (3 : Nat) = (3 : Nat)),
            ∃ (h : (4 : Nat) = (4 : Nat)),
            ∀ (y : Nat × Nat × (Nat → Value)) (y_1 : Nat),
            ∃ (h : (934 : Nat) = (934 : Nat)),
            y_1 = y_1 ∧
            ∃ (h : (0 : Nat) = (0 : Nat)),
            (∃ (a :
            LInv.α
            (LInv.mk (LawA len) [(3 : Nat), (6 : Nat), (27 : Nat), (28 : Nat), (29 : Nat)] [(1 : Nat), (3021 : Nat), (1000000 : Nat), (1000003 : Nat), (1000004 : Nat)]
            (fun (a : LawA len) ↦
            ([((3 : Nat), SV.ptr (3021 : Nat) (Prod.fst (Prod.snd (Prod.snd (Prod.snd (Prod.snd (Subtype.val a)))))) (0 : Nat) (0 : Nat)), ((6 : Nat), SV.u64 (Prod.fst (Prod.snd (Subtype.val a)))),
            ((27 : Nat), SV.slc (1 : Nat) n off (0 : Nat) len cap), ((28 : Nat), SV.i (↑len : Int)), ((29 : Nat), SV.i (↑(Prod.fst (Subtype.val a)) : Int))],
            [((1 : Nat), some (n, CH.sy (U := MapC) (Sy.row off [SV.ri len f] ob))),
            ((3021 : Nat),
            some
            (Prod.fst (Prod.snd (Prod.snd (Prod.snd (Prod.snd (Subtype.val a))))),
            machC (Prod.snd (Prod.snd (Prod.snd (Prod.snd (Prod.snd (Subtype.val a)))))) (Prod.fst (Prod.snd (Subtype.val a))) (Prod.fst (Prod.snd (Prod.snd (Subtype.val a))))
            (Prod.fst (Prod.snd (Prod.snd (Prod.snd (Subtype.val a))))))),
            ((1000000 : Nat), some ((0 : Nat), CH.ro (U := MapC) (List.map SV.str signsL) T0)), ((1000003 : Nat), some ((3 : Nat), CH.ro (U := MapC) [SV.r32 (8 : Nat) f1] T1)),
            ((1000004 : Nat), some ((4 : Nat), CH.ro (U := MapC) [SV.r32 (64 : Nat) f2] T2))]))
            fun (a : LawA len) ↦ len - Prod.fst (Subtype.val a))),
            [((3 : Nat), some (SV.ptr (3021 : Nat) (Prod.fst y) (0 : Nat) (0 : Nat))), ((6 : Nat), some (SV.u64 (BitVec.ofNat (64 : Nat) (0 : Nat)))),
            ((27 : Nat), some (SV.slc (1 : Nat) n off (0 : Nat) len cap)), ((28 : Nat), some (SV.i (↑len : Int))), ((29 : Nat), some (SV.i (0 : Int)))] =
            [((3 : Nat), some (SV.ptr (3021 : Nat) (Prod.fst (Prod.snd (Prod.snd (Prod.snd (Prod.snd (Subtype.val a)))))) (0 : Nat) (0 : Nat))),
            ((6 : Nat), some (SV.u64 (Prod.fst (Prod.snd (Subtype.val a))))), ((27 : Nat), some (SV.slc (1 : Nat) n off (0 : Nat) len cap)), ((28 : Nat), some (SV.i (↑len : Int))),
            ((29 : Nat), some (SV.i (↑(Prod.fst (Subtype.val a)) : Int)))] ∧
            [((1 : Nat), some (n, CH.sy (U := MapC) (Sy.row off [SV.ri len f] ob))),
            ((3021 : Nat),
            some (Prod.fst y, CH.cells (U := MapC) [SV.ptr (0 : Nat) (Prod.fst (Prod.snd y)) (0 : Nat) (0 : Nat), SV.u64 (0 : BitVec (64 : Nat)), SV.nils, SV.i (0 : Int), SV.i (0 : Int)] (91 : TypeId))),
            ((1000000 : Nat),
            some
            ((0 : Nat),
            CH.ro (U := MapC)
            [SV.str (ByteArray.mk #[(116 : UInt8), (97 : UInt8), (110 : UInt8)]), SV.str (ByteArray.mk #[(115 : UInt8), (116 : UInt8), (97 : UInt8), (110 : UInt8)]),
            SV.str (ByteArray.mk #[(116 : UInt8), (97 : UInt8), (110 : UInt8)]), SV.str (ByteArray.mk #[(116 : UInt8), (97 : UInt8), (110 : UInt8)]), SV.str (ByteArray.mk #[]),
            SV.str (ByteArray.mk #[(105 : UInt8), (97 : UInt8)]), SV.str (ByteArray.mk #[(105 : UInt8), (110 : UInt8)]), SV.str (ByteArray.mk #[(105 : UInt8)]),
            SV.str (ByteArray.mk #[(105 : UInt8), (97 : UInt8)]), SV.str (ByteArray.mk #[(105 : UInt8), (98 : UInt8), (112 : UInt8)]), SV.str (ByteArray.mk #[(105 : UInt8), (97 : UInt8)]),
            SV.str (ByteArray.mk #[(105 : UInt8), (97 : UInt8), (111 : UInt8), (98 : UInt8), (112 : UInt8)]), SV.str (ByteArray.mk #[(105 : UInt8)]),
            SV.str (ByteArray.mk #[(105 : UInt8), (98 : UInt8), (112 : UInt8)]), SV.str (ByteArray.mk #[(105 : UInt8)]), SV.str (ByteArray.mk #[(116 : UInt8), (110 : UInt8)]),
            SV.str (ByteArray.mk #[(116 : UInt8), (110 : UInt8)])]
            T0)),
            ((1000003 : Nat), some ((3 : Nat), CH.ro (U := MapC) [SV.r32 (8 : Nat) f1] T1)), ((1000004 : Nat), some ((4 : Nat), CH.ro (U := MapC) [SV.r32 (64 : Nat) f2] T2))] =
            [((1 : Nat), some (n, CH.sy (U := MapC) (Sy.row off [SV.ri len f] ob))),
            ((3021 : Nat),
            some
            (Prod.fst (Prod.snd (Prod.snd (Prod.snd (Prod.snd (Subtype.val a))))),
            CH.cells (U := MapC)
            [SV.ptr (0 : Nat) (Prod.snd (Prod.snd (Prod.snd (Prod.snd (Prod.snd (Subtype.val a)))))) (0 : Nat) (0 : Nat), SV.u64 (Prod.fst (Prod.snd (Subtype.val a))), SV.nils,
            SV.i (Prod.fst (Prod.snd (Prod.snd (Subtype.val a)))), SV.i (Prod.fst (Prod.snd (Prod.snd (Prod.snd (Subtype.val a)))))]
            (91 : TypeId))),
            ((1000000 : Nat),
            some
            ((0 : Nat),
            CH.ro (U := MapC)
            [SV.str (ByteArray.mk #[(116 : UInt8), (97 : UInt8), (110 : UInt8)]), SV.str (ByteArray.mk #[(115 : UInt8), (116 : UInt8), (97 : UInt8), (110 : UInt8)]),
            SV.str (ByteArray.mk #[(116 : UInt8), (97 : UInt8), (110 : UInt8)]), SV.str (ByteArray.mk #[(116 : UInt8), (97 : UInt8), (110 : UInt8)]), SV.str (ByteArray.mk #[]),
            SV.str (ByteArray.mk #[(105 : UInt8), (97 : UInt8)]), SV.str (ByteArray.mk #[(105 : UInt8), (110 : UInt8)]), SV.str (ByteArray.mk #[(105 : UInt8)]),
            SV.str (ByteArray.mk #[(105 : UInt8), (97 : UInt8)]), SV.str (ByteArray.mk #[(105 : UInt8), (98 : UInt8), (112 : UInt8)]), SV.str (ByteArray.mk #[(105 : UInt8), (97 : UInt8)]),
            SV.str (ByteArray.mk #[(105 : UInt8), (97 : UInt8), (111 : UInt8), (98 : UInt8), (112 : UInt8)]), SV.str (ByteArray.mk #[(105 : UInt8)]),
            SV.str (ByteArray.mk #[(105 : UInt8), (98 : UInt8), (112 : UInt8)]), SV.str (ByteArray.mk #[(105 : UInt8)]), SV.str (ByteArray.mk #[(116 : UInt8), (110 : UInt8)]),
            SV.str (ByteArray.mk #[(116 : UInt8), (110 : UInt8)])]
            T0)),
            ((1000003 : Nat), some ((3 : Nat), CH.ro (U := MapC) [SV.r32 (8 : Nat) f1] T1)), ((1000004 : Nat), some ((4 : Nat), CH.ro (U := MapC) [SV.r32 (64 : Nat) f2] T2))]) ∧
            ∀
            (a :
            LInv.α
            (LInv.mk (LawA len) [(3 : Nat), (6 : Nat), (27 : Nat), (28 : Nat), (29 : Nat)] [(1 : Nat), (3021 : Nat), (1000000 : Nat), (1000003 : Nat), (1000004 : Nat)]
            (fun (a : LawA len) ↦
            ([((3 : Nat), SV.ptr (3021 : Nat) (Prod.fst (Prod.snd (Prod.snd (Prod.snd (Prod.snd (Subtype.val a)))))) (0 : Nat) (0 : Nat)), ((6 : Nat), SV.u64 (Prod.fst (Prod.snd (Subtype.val a)))),
            ((27 : Nat), SV.slc (1 : Nat) n off (0 : Nat) len cap), ((28 : Nat), SV.i (↑len : Int)), ((29 : Nat), SV.i (↑(Prod.fst (Subtype.val a)) : Int))],
            [((1 : Nat), some (n, CH.sy (U := MapC) (Sy.row off [SV.ri len f] ob))),
            ((3021 : Nat),
            some
            (Prod.fst (Prod.snd (Prod.snd (Prod.snd (Prod.snd (Subtype.val a))))),
            machC (Prod.snd (Prod.snd (Prod.snd (Prod.snd (Prod.snd (Subtype.val a)))))) (Prod.fst (Prod.snd (Subtype.val a))) (Prod.fst (Prod.snd (Prod.snd (Subtype.val a))))
            (Prod.fst (Prod.snd (Prod.snd (Prod.snd (Subtype.val a))))))),
            ((1000000 : Nat), some ((0 : Nat), CH.ro (U := MapC) (List.map SV.str signsL) T0)), ((1000003 : Nat), some ((3 : Nat), CH.ro (U := MapC) [SV.r32 (8 : Nat) f1] T1)),
            ((1000004 : Nat), some ((4 : Nat), CH.ro (U := MapC) [SV.r32 (64 : Nat) f2] T2))]))
            fun (a : LawA len) ↦ len - Prod.fst (Subtype.val a))),
            bif decide ((↑(Prod.fst (Subtype.val a)) : Int) < (↑len : Int)) then
            ∃ (h : (0 : Int) ≤ (↑(Prod.fst (Subtype.val a)) : Int) ∧ (↑(Prod.fst (Subtype.val a)) : Int) < (↑len : Int)),
            (n = n ∧ off = off) ∧
            ∃ (h : (0 : Nat) + Int.toNat (↑(Prod.fst (Subtype.val a)) : Int) * (1 : Nat) < len),
            ∃ (h : (1 : Nat) = (1 : Nat)),
            ∃ (h : (0 : Nat) = (0 : Nat)),
            ∃ (h : (1 : Nat) = (1 : Nat)),
            ∃ (h : (0 : Nat) = (0 : Nat)),
            ∃ (h : Prod.fst (Prod.snd (Prod.snd (Prod.snd (Prod.snd (Subtype.val a))))) = Prod.fst (Prod.snd (Prod.snd (Prod.snd (Prod.snd (Subtype.val a)))))),
            ∃ (h : BitVec.toNat (Prod.fst (Prod.snd (Subtype.val a))) ≤ (549755813888 : Nat)),
            ∀ (y : Unit) (y : Nat),
            ∃ (h : (2 : Nat) = (2 : Nat)),
            y = y ∧
            ∃ (h : (0 : Nat) = (0 : Nat)),
            bif decide (decide (f ((0 : Nat) + Int.toNat (↑(Prod.fst (Subtype.val a)) : Int) * (1 : Nat)) < (0 : Int)) = false) then
            bif decide (decide (f ((0 : Nat) + Int.toNat (↑(Prod.fst (Subtype.val a)) : Int) * (1 : Nat)) < (0 : Int)) = false) then
            bif decide (f ((0 : Nat) + Int.toNat (↑(Prod.fst (Subtype.val a)) : Int) * (1 : Nat)) < (0 : Int)) then
            y = y ∧
            bif decide ((tickE (f ((0 : Nat) + Int.toNat (↑(Prod.fst (Subtype.val a)) : Int) * (1 : Nat))) != (1 : Int)) = false) then
            bif decide ((tickE (f ((0 : Nat) + Int.toNat (↑(Prod.fst (Subtype.val a)) : Int) * (1 : Nat))) != (1 : Int)) = false) then
            ∃ (h : Prod.fst (Prod.snd (Prod.snd (Prod.snd (Prod.snd (Subtype.val a))))) = Prod.fst (Prod.snd (Prod.snd (Prod.snd (Prod.snd (Subtype.val a)))))),
            ∀ (y : Unit),
            bif decide ((tickE (f ((0 : Nat) + Int.toNat (↑(Prod.fst (Subtype.val a)) : Int) * (1 : Nat))) != (1 : Int)) = false) then
            bif decide ((tickE (f ((0 : Nat) + Int.toNat (↑(Prod.fst (Subtype.val a)) : Int) * (1 : Nat))) != (1 : Int)) = false) then
            bif tickE (f ((0 : Nat) + Int.toNat (↑(Prod.fst (Subtype.val a)) : Int) * (1 : Nat))) != (1 : Int) then
            Q (SV.b false)
            [some (n, CH.sy (U := MapC) (Sy.row off [SV.ri len f] ob)),
            some
            ((0 : Nat),
            CH.ro (U := MapC)
            [SV.str (ByteArray.mk #[(116 : UInt8), (97 : UInt8), (110 : UInt8)]),
            SV.str (ByteArray.mk #[(115 : UInt8), (116 : UInt8), (97 : UInt8), (110 : UInt8)]),
            SV.str (ByteArray.mk #[(116 : UInt8), (97 : UInt8), (110 : UInt8)]),
            SV.str (ByteArray.mk #[(116 : UInt8), (97 : UInt8), (110 : UInt8)]), SV.str (ByteArray.mk #[]),
            SV.str (ByteArray.mk #[(105 : UInt8), (97 : UInt8)]), SV.str (ByteArray.mk #[(105 : UInt8), (110 : UInt8)]),
            SV.str (ByteArray.mk #[(105 : UInt8)]), SV.str (ByteArray.mk #[(105 : UInt8), (97 : UInt8)]),
            SV.str (ByteArray.mk #[(105 : UInt8), (98 : UInt8), (112 : UInt8)]), SV.str (ByteArray.mk #[(105 : UInt8), (97 : UInt8)]),
            SV.str (ByteArray.mk #[(105 : UInt8), (97 : UInt8), (111 : UInt8), (98 : UInt8), (112 : UInt8)]),
            SV.str (ByteArray.mk #[(105 : UInt8)]), SV.str (ByteArray.mk #[(105 : UInt8), (98 : UInt8), (112 : UInt8)]),
            SV.str (ByteArray.mk #[(105 : UInt8)]), SV.str (ByteArray.mk #[(116 : UInt8), (110 : UInt8)]),
            SV.str (ByteArray.mk #[(116 : UInt8), (110 : UInt8)])]
            T0),
            some ((3 : Nat), CH.ro (U := MapC) [SV.r32 (8 : Nat) f1] T1), some ((4 : Nat), CH.ro (U := MapC) [SV.r32 (64 : Nat) f2] T2)]
            else
            bif
            tickB (Prod.fst (Prod.snd (Subtype.val a))) (f ((0 : Nat) + Int.toNat (↑(Prod.fst (Subtype.val a)) : Int) * (1 : Nat))) !=
            Prod.fst (Prod.snd (Subtype.val a)) then
            Q (SV.b false)
            [some (n, CH.sy (U := MapC) (Sy.row off [SV.ri len f] ob)),
            some
            ((0 : Nat),
            CH.ro (U := MapC)
            [SV.str (ByteArray.mk #[(116 : UInt8), (97 : UInt8), (110 : UInt8)]),
            SV.str (ByteArray.mk #[(115 : UInt8), (116 : UInt8), (97 : UInt8), (110 : UInt8)]),
            SV.str (ByteArray.mk #[(116 : UInt8), (97 : UInt8), (110 : UInt8)]),
            SV.str (ByteArray.mk #[(116 : UInt8), (97 : UInt8), (110 : UInt8)]), SV.str (ByteArray.mk #[]),
            SV.str (ByteArray.mk #[(105 : UInt8), (97 : UInt8)]), SV.str (ByteArray.mk #[(105 : UInt8), (110 : UInt8)]),
            SV.str (ByteArray.mk #[(105 : UInt8)]), SV.str (ByteArray.mk #[(105 : UInt8), (97 : UInt8)]),
            SV.str (ByteArray.mk #[(105 : UInt8), (98 : UInt8), (112 : UInt8)]), SV.str (ByteArray.mk #[(105 : UInt8), (97 : UInt8)]),
            SV.str (ByteArray.mk #[(105 : UInt8), (97 : UInt8), (111 : UInt8), (98 : UInt8), (112 : UInt8)]),
            SV.str (ByteArray.mk #[(105 : UInt8)]), SV.str (ByteArray.mk #[(105 : UInt8), (98 : UInt8), (112 : UInt8)]),
            SV.str (ByteArray.mk #[(105 : UInt8)]), SV.str (ByteArray.mk #[(116 : UInt8), (110 : UInt8)]),
            SV.str (ByteArray.mk #[(116 : UInt8), (110 : UInt8)])]
            T0),
            some ((3 : Nat), CH.ro (U := MapC) [SV.r32 (8 : Nat) f1] T1), some ((4 : Nat), CH.ro (U := MapC) [SV.r32 (64 : Nat) f2] T2)]
            else
            ∃ (a' :
            LInv.α
            (LInv.mk (LawA len) [(3 : Nat), (6 : Nat), (27 : Nat), (28 : Nat), (29 : Nat)]
            [(1 : Nat), (3021 : Nat), (1000000 : Nat), (1000003 : Nat), (1000004 : Nat)]
            (fun (a : LawA len) ↦
            ([((3 : Nat), SV.ptr (3021 : Nat) (Prod.fst (Prod.snd (Prod.snd (Prod.snd (Prod.snd (Subtype.val a)))))) (0 : Nat) (0 : Nat)),
            ((6 : Nat), SV.u64 (Prod.fst (Prod.snd (Subtype.val a)))), ((27 : Nat), SV.slc (1 : Nat) n off (0 : Nat) len cap),
            ((28 : Nat), SV.i (↑len : Int)), ((29 : Nat), SV.i (↑(Prod.fst (Subtype.val a)) : Int))],
            [((1 : Nat), some (n, CH.sy (U := MapC) (Sy.row off [SV.ri len f] ob))),
            ((3021 : Nat),
            some
            (Prod.fst (Prod.snd (Prod.snd (Prod.snd (Prod.snd (Subtype.val a))))),
            machC (Prod.snd (Prod.snd (Prod.snd (Prod.snd (Prod.snd (Subtype.val a)))))) (Prod.fst (Prod.snd (Subtype.val a)))
            (Prod.fst (Prod.snd (Prod.snd (Subtype.val a)))) (Prod.fst (Prod.snd (Prod.snd (Prod.snd (Subtype.val a))))))),
            ((1000000 : Nat), some ((0 : Nat), CH.ro (U := MapC) (List.map SV.str signsL) T0)),
            ((1000003 : Nat), some ((3 : Nat), CH.ro (U := MapC) [SV.r32 (8 : Nat) f1] T1)),
            ((1000004 : Nat), some ((4 : Nat), CH.ro (U := MapC) [SV.r32 (64 : Nat) f2] T2))]))
            fun (a : LawA len) ↦ len - Prod.fst (Subtype.val a))),
            ([((3 : Nat), some (SV.ptr (3021 : Nat) (Prod.fst (Prod.snd (Prod.snd (Prod.snd (Prod.snd (Subtype.val a)))))) (0 : Nat) (0 : Nat))),
            ((6 : Nat), some (SV.u64 (Prod.fst (Prod.snd (Subtype.val a))))), ((27 : Nat), some (SV.slc (1 : Nat) n off (0 : Nat) len cap)),
            ((28 : Nat), some (SV.i (↑len : Int))),
            ((29 : Nat), some (SV.i (IntKind.wrap IntKind.i64 ((↑(Prod.fst (Subtype.val a)) : Int) + (1 : Int)))))] =
            [((3 : Nat), some (SV.ptr (3021 : Nat) (Prod.fst (Prod.snd (Prod.snd (Prod.snd (Prod.snd (Subtype.val a')))))) (0 : Nat) (0 : Nat))),
            ((6 : Nat), some (SV.u64 (Prod.fst (Prod.snd (Subtype.val a'))))), ((27 : Nat), some (SV.slc (1 : Nat) n off (0 : Nat) len cap)),
            ((28 : Nat), some (SV.i (↑len : Int))), ((29 : Nat), some (SV.i (↑(Prod.fst (Subtype.val a')) : Int)))] ∧
            [((1 : Nat), some (n, CH.sy (U := MapC) (Sy.row off [SV.ri len f] ob))),
            ((3021 : Nat),
            some
            (Prod.fst (Prod.snd (Prod.snd (Prod.snd (Prod.snd (Subtype.val a))))),
            CH.cells (U := MapC)
            [SV.ptr (0 : Nat) (Prod.snd (Prod.snd (Prod.snd (Prod.snd (Prod.snd (Subtype.val a)))))) (0 : Nat) (0 : Nat),
            SV.u64
            (tickB (Prod.fst (Prod.snd (Subtype.val a))) (f ((0 : Nat) + Int.toNat (↑(Prod.fst (Subtype.val a)) : Int) * (1 : Nat)))),
            SV.nils,
            SV.i
            (tickD (Prod.fst (Prod.snd (Prod.snd (Subtype.val a))))
            (f ((0 : Nat) + Int.toNat (↑(Prod.fst (Subtype.val a)) : Int) * (1 : Nat)))),
            SV.i
            (tickR (Prod.fst (Prod.snd (Prod.snd (Prod.snd (Subtype.val a)))))
            (f ((0 : Nat) + Int.toNat (↑(Prod.fst (Subtype.val a)) : Int) * (1 : Nat))))]
            (91 : TypeId))),
            ((1000000 : Nat),
            some
            ((0 : Nat),
            CH.ro (U := MapC)
            [SV.str (ByteArray.mk #[(116 : UInt8), (97 : UInt8), (110 : UInt8)]),
            SV.str (ByteArray.mk #[(115 : UInt8), (116 : UInt8), (97 : UInt8), (110 : UInt8)]),
            SV.str (ByteArray.mk #[(116 : UInt8), (97 : UInt8), (110 : UInt8)]),
            SV.str (ByteArray.mk #[(116 : UInt8), (97 : UInt8), (110 : UInt8)]), SV.str (ByteArray.mk #[]),
            SV.str (ByteArray.mk #[(105 : UInt8), (97 : UInt8)]), SV.str (ByteArray.mk #[(105 : UInt8), (110 : UInt8)]),
            SV.str (ByteArray.mk #[(105 : UInt8)]), SV.str (ByteArray.mk #[(105 : UInt8), (97 : UInt8)]),
            SV.str (ByteArray.mk #[(105 : UInt8), (98 : UInt8), (112 : UInt8)]), SV.str (ByteArray.mk #[(105 : UInt8), (97 : UInt8)]),
            SV.str (ByteArray.mk #[(105 : UInt8), (97 : UInt8), (111 : UInt8), (98 : UInt8), (112 : UInt8)]),
            SV.str (ByteArray.mk #[(105 : UInt8)]), SV.str (ByteArray.mk #[(105 : UInt8), (98 : UInt8), (112 : UInt8)]),
            SV.str (ByteArray.mk #[(105 : UInt8)]), SV.str (ByteArray.mk #[(116 : UInt8), (110 : UInt8)]),
            SV.str (ByteArray.mk #[(116 : UInt8), (110 : UInt8)])]
            T0)),
            ((1000003 : Nat), some ((3 : Nat), CH.ro (U := MapC) [SV.r32 (8 : Nat) f1] T1)),
            ((1000004 : Nat), some ((4 : Nat), CH.ro (U := MapC) [SV.r32 (64 : Nat) f2] T2))] =
            [((1 : Nat), some (n, CH.sy (U := MapC) (Sy.row off [SV.ri len f] ob))),
            ((3021 : Nat),
            some
            (Prod.fst (Prod.snd (Prod.snd (Prod.snd (Prod.snd (Subtype.val a'))))),
            CH.cells (U := MapC)
            [SV.ptr (0 : Nat) (Prod.snd (Prod.snd (Prod.snd (Prod.snd (Prod.snd (Subtype.val a')))))) (0 : Nat) (0 : Nat),
            SV.u64 (Prod.fst (Prod.snd (Subtype.val a'))), SV.nils, SV.i (Prod.fst (Prod.snd (Prod.snd (Subtype.val a')))),
            SV.i (Prod.fst (Prod.snd (Prod.snd (Prod.snd (Subtype.val a')))))]
            (91 : TypeId))),
            ((1000000 : Nat),
            some
            ((0 : Nat),
            CH.ro (U := MapC)
            [SV.str (ByteArray.mk #[(116 : UInt8), (97 : UInt8), (110 : UInt8)]),
            SV.str (ByteArray.mk #[(115 : UInt8), (116 : UInt8), (97 : UInt8), (110 : UInt8)]),
            SV.str (ByteArray.mk #[(116 : UInt8), (97 : UInt8), (110 : UInt8)]),
            SV.str (ByteArray.mk #[(116 : UInt8), (97 : UInt8), (110 : UInt8)]), SV.str (ByteArray.mk #[]),
            SV.str (ByteArray.mk #[(105 : UInt8), (97 : UInt8)]), SV.str (ByteArray.mk #[(105 : UInt8), (110 : UInt8)]),
            SV.str (ByteArray.mk #[(105 : UInt8)]), SV.str (ByteArray.mk #[(105 : UInt8), (97 : UInt8)]),
            SV.str (ByteArray.mk #[(105 : UInt8), (98 : UInt8), (112 : UInt8)]), SV.str (ByteArray.mk #[(105 : UInt8), (97 : UInt8)]),
            SV.str (ByteArray.mk #[(105 : UInt8), (97 : UInt8), (111 : UInt8), (98 : UInt8), (112 : UInt8)]),
            SV.str (ByteArray.mk #[(105 : UInt8)]), SV.str (ByteArray.mk #[(105 : UInt8), (98 : UInt8), (112 : UInt8)]),
            SV.str (ByteArray.mk #[(105 : UInt8)]), SV.str (ByteArray.mk #[(116 : UInt8), (110 : UInt8)]),
            SV.str (ByteArray.mk #[(116 : UInt8), (110 : UInt8)])]
            T0)),
            ((1000003 : Nat), some ((3 : Nat), CH.ro (U := MapC) [SV.r32 (8 : Nat) f1] T1)),
            ((1000004 : Nat), some ((4 : Nat), CH.ro (U := MapC) [SV.r32 (64 : Nat) f2] T2))]) ∧
            len - Prod.fst (Subtype.val a') < len - Prod.fst (Subtype.val a)
            else
            bif tickE (f ((0 : Nat) + Int.toNat (↑(Prod.fst (Subtype.val a)) : Int) * (1 : Nat))) != (1 : Int) then
            Q (SV.b false)
            [some (n, CH.sy (U := MapC) (Sy.row off [SV.ri len f] ob)),
            some
            ((0 : Nat),
            CH.ro (U := MapC)
            [SV.str (ByteArray.mk #[(116 : UInt8), (97 : UInt8), (110 : UInt8)]),
            SV.str (ByteArray.mk #[(115 : UInt8), (116 : UInt8), (97 : UInt8), (110 : UInt8)]),
            SV.str (ByteArray.mk #[(116 : UInt8), (97 : UInt8), (110 : UInt8)]),
            SV.str (ByteArray.mk #[(116 : UInt8), (97 : UInt8), (110 : UInt8)]), SV.str (ByteArray.mk #[]),
            SV.str (ByteArray.mk #[(105 : UInt8), (97 : UInt8)]), SV.str (ByteArray.mk #[(105 : UInt8), (110 : UInt8)]),
            SV.str (ByteArray.mk #[(105 : UInt8)]), SV.str (ByteArray.mk #[(105 : UInt8), (97 : UInt8)]),
            SV.str (ByteArray.mk #[(105 : UInt8), (98 : UInt8), (112 : UInt8)]), SV.str (ByteArray.mk #[(105 : UInt8), (97 : UInt8)]),
            SV.str (ByteArray.mk #[(105 : UInt8), (97 : UInt8), (111 : UInt8), (98 : UInt8), (112 : UInt8)]),
            SV.str (ByteArray.mk #[(105 : UInt8)]), SV.str (ByteArray.mk #[(105 : UInt8), (98 : UInt8), (112 : UInt8)]),
            SV.str (ByteArray.mk #[(105 : UInt8)]), SV.str (ByteArray.mk #[(116 : UInt8), (110 : UInt8)]),
            SV.str (ByteArray.mk #[(116 : UInt8), (110 : UInt8)])]
            T0),
            some ((3 : Nat), CH.ro (U := MapC) [SV.r32 (8 : Nat) f1] T1), some ((4 : Nat), CH.ro (U := MapC) [SV.r32 (64 : Nat) f2] T2)]
            else False
            else
            bif decide ((tickE (f ((0 : Nat) + Int.toNat (↑(Prod.fst (Subtype.val a)) : Int) * (1 : Nat))) != (1 : Int)) = false) then False
            else
            bif tickE (f ((0 : Nat) + Int.toNat (↑(Prod.fst (Subtype.val a)) : Int) * (1 : Nat))) != (1 : Int) then
            Q (SV.b false)
            [some (n, CH.sy (U := MapC) (Sy.row off [SV.ri len f] ob)),
            some
            ((0 : Nat),
            CH.ro (U := MapC)
            [SV.str (ByteArray.mk #[(116 : UInt8), (97 : UInt8), (110 : UInt8)]),
            SV.str (ByteArray.mk #[(115 : UInt8), (116 : UInt8), (97 : UInt8), (110 : UInt8)]),
            SV.str (ByteArray.mk #[(116 : UInt8), (97 : UInt8), (110 : UInt8)]),
            SV.str (ByteArray.mk #[(116 : UInt8), (97 : UInt8), (110 : UInt8)]), SV.str (ByteArray.mk #[]),
            SV.str (ByteArray.mk #[(105 : UInt8), (97 : UInt8)]), SV.str (ByteArray.mk #[(105 : UInt8), (110 : UInt8)]),
            SV.str (ByteArray.mk #[(105 : UInt8)]), SV.str (ByteArray.mk #[(105 : UInt8), (97 : UInt8)]),
            SV.str (ByteArray.mk #[(105 : UInt8), (98 : UInt8), (112 : UInt8)]), SV.str (ByteArray.mk #[(105 : UInt8), (97 : UInt8)]),
            SV.str (ByteArray.mk #[(105 : UInt8), (97 : UInt8), (111 : UInt8), (98 : UInt8), (112 : UInt8)]),
            SV.str (ByteArray.mk #[(105 : UInt8)]), SV.str (ByteArray.mk #[(105 : UInt8), (98 : UInt8), (112 : UInt8)]),
            SV.str (ByteArray.mk #[(105 : UInt8)]), SV.str (ByteArray.mk #[(116 : UInt8), (110 : UInt8)]),
            SV.str (ByteArray.mk #[(116 : UInt8), (110 : UInt8)])]
            T0),
            some ((3 : Nat), CH.ro (U := MapC) [SV.r32 (8 : Nat) f1] T1), some ((4 : Nat), CH.ro (U := MapC) [SV.r32 (64 : Nat) f2] T2)]
            else False
            else
            bif decide ((tickE (f ((0 : Nat) + Int.toNat (↑(Prod.fst (Subtype.val a)) : Int) * (1 : Nat))) != (1 : Int)) = false) then
            bif decide ((tickE (f ((0 : Nat) + Int.toNat (↑(Prod.fst (Subtype.val a)) : Int) * (1 : Nat))) != (1 : Int)) = false) then False
            else
            bif tickE (f ((0 : Nat) + Int.toNat (↑(Prod.fst (Subtype.val a)) : Int) * (1 : Nat))) != (1 : Int) then
            Q (SV.b false)
            [some (n, CH.sy (U := MapC) (Sy.row off [SV.ri len f] ob)),
            some
            ((0 : Nat),
            CH.ro (U := MapC)
            [SV.str (ByteArray.mk #[(116 : UInt8), (97 : UInt8), (110 : UInt8)]),
            SV.str (ByteArray.mk #[(115 : UInt8), (116 : UInt8), (97 : UInt8), (110 : UInt8)]),
            SV.str (ByteArray.mk #[(116 : UInt8), (97 : UInt8), (110 : UInt8)]), SV.str (ByteArray.mk #[(116 : UInt8), (97 : UInt8), (110 : UInt8)]),
            SV.str (ByteArray.mk #[]), SV.str (ByteArray.mk #[(105 : UInt8), (97 : UInt8)]), SV.str (ByteArray.mk #[(105 : UInt8), (110 : UInt8)]),
            SV.str (ByteArray.mk #[(105 : UInt8)]), SV.str (ByteArray.mk #[(105 : UInt8), (97 : UInt8)]),
            SV.str (ByteArray.mk #[(105 : UInt8), (98 : UInt8), (112 : UInt8)]), SV.str (ByteArray.mk #[(105 : UInt8), (97 : UInt8)]),
            SV.str (ByteArray.mk #[(105 : UInt8), (97 : UInt8), (111 : UInt8), (98 : UInt8), (112 : UInt8)]), SV.str (ByteArray.mk #[(105 : UInt8)]),
            SV.str (ByteArray.mk #[(105 : UInt8), (98 : UInt8), (112 : UInt8)]), SV.str (ByteArray.mk #[(105 : UInt8)]),
            SV.str (ByteArray.mk #[(116 : UInt8), (110 : UInt8)]), SV.str (ByteArray.mk #[(116 : UInt8), (110 : UInt8)])]
            T0),
            some ((3 : Nat), CH.ro (U := MapC) [SV.r32 (8 : Nat) f1] T1), some ((4 : Nat), CH.ro (U := MapC) [SV.r32 (64 : Nat) f2] T2)]
            else False
            else
            bif decide ((tickE (f ((0 : Nat) + Int.toNat (↑(Prod.fst (Subtype.val a)) : Int) * (1 : Nat))) != (1 : Int)) = false) then False
            else
            bif tickE (f ((0 : Nat) + Int.toNat (↑(Prod.fst (Subtype.val a)) : Int) * (1 : Nat))) != (1 : Int) then
            Q (SV.b false)
            [some (n, CH.sy (U := MapC) (Sy.row off [SV.ri len f] ob)),
            some
            ((0 : Nat),
            CH.ro (U := MapC)
            [SV.str (ByteArray.mk #[(116 : UInt8), (97 : UInt8), (110 : UInt8)]),
            SV.str (ByteArray.mk #[(115 : UInt8), (116 : UInt8), (97 : UInt8), (110 : UInt8)]),
            SV.str (ByteArray.mk #[(116 : UInt8), (97 : UInt8), (110 : UInt8)]), SV.str (ByteArray.mk #[(116 : UInt8), (97 : UInt8), (110 : UInt8)]),
            SV.str (ByteArray.mk #[]), SV.str (ByteArray.mk #[(105 : UInt8), (97 : UInt8)]), SV.str (ByteArray.mk #[(105 : UInt8), (110 : UInt8)]),
            SV.str (ByteArray.mk #[(105 : UInt8)]), SV.str (ByteArray.mk #[(105 : UInt8), (97 : UInt8)]),
            SV.str (ByteArray.mk #[(105 : UInt8), (98 : UInt8), (112 : UInt8)]), SV.str (ByteArray.mk #[(105 : UInt8), (97 : UInt8)]),
            SV.str (ByteArray.mk #[(105 : UInt8), (97 : UInt8), (111 : UInt8), (98 : UInt8), (112 : UInt8)]), SV.str (ByteArray.mk #[(105 : UInt8)]),
            SV.str (ByteArray.mk #[(105 : UInt8), (98 : UInt8), (112 : UInt8)]), SV.str (ByteArray.mk #[(105 : UInt8)]),
            SV.str (ByteArray.mk #[(116 : UInt8), (110 : UInt8)]), SV.str (ByteArray.mk #[(116 : UInt8), (110 : UInt8)])]
            T0),
            some ((3 : Nat), CH.ro (U := MapC) [SV.r32 (8 : Nat) f1] T1), some ((4 : Nat), CH.ro (U := MapC) [SV.r32 (64 : Nat) f2] T2)]
            else False
            else
            bif decide ((tickE (f ((0 : Nat) + Int.toNat (↑(Prod.fst (Subtype.val a)) : Int) * (1 : Nat))) != (1 : Int)) = false) then False
            else
            bif decide ((tickE (f ((0 : Nat) + Int.toNat (↑(Prod.fst (Subtype.val a)) : Int) * (1 : Nat))) != (1 : Int)) = false) then
            bif decide ((tickE (f ((0 : Nat) + Int.toNat (↑(Prod.fst (Subtype.val a)) : Int) * (1 : Nat))) != (1 : Int)) = false) then False
            else
            bif tickE (f ((0 : Nat) + Int.toNat (↑(Prod.fst (Subtype.val a)) : Int) * (1 : Nat))) != (1 : Int) then
            Q (SV.b false)
            [some (n, CH.sy (U := MapC) (Sy.row off [SV.ri len f] ob)),
            some
            ((0 : Nat),
            CH.ro (U := MapC)
            [SV.str (ByteArray.mk #[(116 : UInt8), (97 : UInt8), (110 : UInt8)]),
            SV.str (ByteArray.mk #[(115 : UInt8), (116 : UInt8), (97 : UInt8), (110 : UInt8)]),
            SV.str (ByteArray.mk #[(116 : UInt8), (97 : UInt8), (110 : UInt8)]), SV.str (ByteArray.mk #[(116 : UInt8), (97 : UInt8), (110 : UInt8)]),
            SV.str (ByteArray.mk #[]), SV.str (ByteArray.mk #[(105 : UInt8), (97 : UInt8)]), SV.str (ByteArray.mk #[(105 : UInt8), (110 : UInt8)]),
            SV.str (ByteArray.mk #[(105 : UInt8)]), SV.str (ByteArray.mk #[(105 : UInt8), (97 : UInt8)]),
            SV.str (ByteArray.mk #[(105 : UInt8), (98 : UInt8), (112 : UInt8)]), SV.str (ByteArray.mk #[(105 : UInt8), (97 : UInt8)]),
            SV.str (ByteArray.mk #[(105 : UInt8), (97 : UInt8), (111 : UInt8), (98 : UInt8), (112 : UInt8)]), SV.str (ByteArray.mk #[(105 : UInt8)]),
            SV.str (ByteArray.mk #[(105 : UInt8), (98 : UInt8), (112 : UInt8)]), SV.str (ByteArray.mk #[(105 : UInt8)]),
            SV.str (ByteArray.mk #[(116 : UInt8), (110 : UInt8)]), SV.str (ByteArray.mk #[(116 : UInt8), (110 : UInt8)])]
            T0),
            some ((3 : Nat), CH.ro (U := MapC) [SV.r32 (8 : Nat) f1] T1), some ((4 : Nat), CH.ro (U := MapC) [SV.r32 (64 : Nat) f2] T2)]
            else False
            else
            bif decide ((tickE (f ((0 : Nat) + Int.toNat (↑(Prod.fst (Subtype.val a)) : Int) * (1 : Nat))) != (1 : Int)) = false) then False
            else
            bif tickE (f ((0 : Nat) + Int.toNat (↑(Prod.fst (Subtype.val a)) : Int) * (1 : Nat))) != (1 : Int) then
            Q (SV.b false)
            [some (n, CH.sy (U := MapC) (Sy.row off [SV.ri len f] ob)),
            some
            ((0 : Nat),
            CH.ro (U := MapC)
            [SV.str (ByteArray.mk #[(116 : UInt8), (97 : UInt8), (110 : UInt8)]),
            SV.str (ByteArray.mk #[(115 : UInt8), (116 : UInt8), (97 : UInt8), (110 : UInt8)]),
            SV.str (ByteArray.mk #[(116 : UInt8), (97 : UInt8), (110 : UInt8)]), SV.str (ByteArray.mk #[(116 : UInt8), (97 : UInt8), (110 : UInt8)]),
            SV.str (ByteArray.mk #[]), SV.str (ByteArray.mk #[(105 : UInt8), (97 : UInt8)]), SV.str (ByteArray.mk #[(105 : UInt8), (110 : UInt8)]),
            SV.str (ByteArray.mk #[(105 : UInt8)]), SV.str (ByteArray.mk #[(105 : UInt8), (97 : UInt8)]),
            SV.str (ByteArray.mk #[(105 : UInt8), (98 : UInt8), (112 : UInt8)]), SV.str (ByteArray.mk #[(105 : UInt8), (97 : UInt8)]),
            SV.str (ByteArray.mk #[(105 : UInt8), (97 : UInt8), (111 : UInt8), (98 : UInt8), (112 : UInt8)]), SV.str (ByteArray.mk #[(105 : UInt8)]),
            SV.str (ByteArray.mk #[(105 : UInt8), (98 : UInt8), (112 : UInt8)]), SV.str (ByteArray.mk #[(105 : UInt8)]),
            SV.str (ByteArray.mk #[(116 : UInt8), (110 : UInt8)]), SV.str (ByteArray.mk #[(116 : UInt8), (110 : UInt8)])]
            T0),
            some ((3 : Nat), CH.ro (U := MapC) [SV.r32 (8 : Nat) f1] T1), some ((4 : Nat), CH.ro (U := MapC) [SV.r32 (64 : Nat) f2] T2)]
            else False
            else
            bif decide ((1048576 : Int) < f ((0 : Nat) + Int.toNat (↑(Prod.fst (Subtype.val a)) : Int) * (1 : Nat))) then
            y = y ∧
            bif decide ((tickE (f ((0 : Nat) + Int.toNat (↑(Prod.fst (Subtype.val a)) : Int) * (1 : Nat))) != (1 : Int)) = false) then
            bif decide ((tickE (f ((0 : Nat) + Int.toNat (↑(Prod.fst (Subtype.val a)) : Int) * (1 : Nat))) != (1 : Int)) = false) then
            ∃ (h : Prod.fst (Prod.snd (Prod.snd (Prod.snd (Prod.snd (Subtype.val a))))) = Prod.fst (Prod.snd (Prod.snd (Prod.snd (Prod.snd (Subtype.val a)))))),
            ∀ (y : Unit),
            bif decide ((tickE (f ((0 : Nat) + Int.toNat (↑(Prod.fst (Subtype.val a)) : Int) * (1 : Nat))) != (1 : Int)) = false) then
            bif decide ((tickE (f ((0 : Nat) + Int.toNat (↑(Prod.fst (Subtype.val a)) : Int) * (1 : Nat))) != (1 : Int)) = false) then
            bif tickE (f ((0 : Nat) + Int.toNat (↑(Prod.fst (Subtype.val a)) : Int) * (1 : Nat))) != (1 : Int) then
            Q (SV.b false)
            [some (n, CH.sy (U := MapC) (Sy.row off [SV.ri len f] ob)),
            some
            ((0 : Nat),
            CH.ro (U := MapC)
            [SV.str (ByteArray.mk #[(116 : UInt8), (97 : UInt8), (110 : UInt8)]),
            SV.str (ByteArray.mk #[(115 : UInt8), (116 : UInt8), (97 : UInt8), (110 : UInt8)]),
            SV.str (ByteArray.mk #[(116 : UInt8), (97 : UInt8), (110 : UInt8)]),
            SV.str (ByteArray.mk #[(116 : UInt8), (97 : UInt8), (110 : UInt8)]), SV.str (ByteArray.mk #[]),
            SV.str (ByteArray.mk #[(105 : UInt8), (97 : UInt8)]), SV.str (ByteArray.mk #[(105 : UInt8), (110 : UInt8)]),
            SV.str (ByteArray.mk #[(105 : UInt8)]), SV.str (ByteArray.mk #[(105 : UInt8), (97 : UInt8)]),
            SV.str (ByteArray.mk #[(105 : UInt8), (98 : UInt8), (112 : UInt8)]), SV.str (ByteArray.mk #[(105 : UInt8), (97 : UInt8)]),
            SV.str (ByteArray.mk #[(105 : UInt8), (97 : UInt8), (111 : UInt8), (98 : UInt8), (112 : UInt8)]),
            SV.str (ByteArray.mk #[(105 : UInt8)]), SV.str (ByteArray.mk #[(105 : UInt8), (98 : UInt8), (112 : UInt8)]),
            SV.str (ByteArray.mk #[(105 : UInt8)]), SV.str (ByteArray.mk #[(116 : UInt8), (110 : UInt8)]),
            SV.str (ByteArray.mk #[(116 : UInt8), (110 : UInt8)])]
            T0),
            some ((3 : Nat), CH.ro (U := MapC) [SV.r32 (8 : Nat) f1] T1), some ((4 : Nat), CH.ro (U := MapC) [SV.r32 (64 : Nat) f2] T2)]
            else
            bif
            tickB (Prod.fst (Prod.snd (Subtype.val a))) (f ((0 : Nat) + Int.toNat (↑(Prod.fst (Subtype.val a)) : Int) * (1 : Nat))) !=
            Prod.fst (Prod.snd (Subtype.val a)) then
            Q (SV.b false)
            [some (n, CH.sy (U := MapC) (Sy.row off [SV.ri len f] ob)),
            some
            ((0 : Nat),
            CH.ro (U := MapC)
            [SV.str (ByteArray.mk #[(116 : UInt8), (97 : UInt8), (110 : UInt8)]),
            SV.str (ByteArray.mk #[(115 : UInt8), (116 : UInt8), (97 : UInt8), (110 : UInt8)]),
            SV.str (ByteArray.mk #[(116 : UInt8), (97 : UInt8), (110 : UInt8)]),
            SV.str (ByteArray.mk #[(116 : UInt8), (97 : UInt8), (110 : UInt8)]), SV.str (ByteArray.mk #[]),
            SV.str (ByteArray.mk #[(105 : UInt8), (97 : UInt8)]), SV.str (ByteArray.mk #[(105 : UInt8), (110 : UInt8)]),
            SV.str (ByteArray.mk #[(105 : UInt8)]), SV.str (ByteArray.mk #[(105 : UInt8), (97 : UInt8)]),
            SV.str (ByteArray.mk #[(105 : UInt8), (98 : UInt8), (112 : UInt8)]), SV.str (ByteArray.mk #[(105 : UInt8), (97 : UInt8)]),
            SV.str (ByteArray.mk #[(105 : UInt8), (97 : UInt8), (111 : UInt8), (98 : UInt8), (112 : UInt8)]),
            SV.str (ByteArray.mk #[(105 : UInt8)]), SV.str (ByteArray.mk #[(105 : UInt8), (98 : UInt8), (112 : UInt8)]),
            SV.str (ByteArray.mk #[(105 : UInt8)]), SV.str (ByteArray.mk #[(116 : UInt8), (110 : UInt8)]),
            SV.str (ByteArray.mk #[(116 : UInt8), (110 : UInt8)])]
            T0),
            some ((3 : Nat), CH.ro (U := MapC) [SV.r32 (8 : Nat) f1] T1), some ((4 : Nat), CH.ro (U := MapC) [SV.r32 (64 : Nat) f2] T2)]
            else
            ∃ (a' :
            LInv.α
            (LInv.mk (LawA len) [(3 : Nat), (6 : Nat), (27 : Nat), (28 : Nat), (29 : Nat)]
            [(1 : Nat), (3021 : Nat), (1000000 : Nat), (1000003 : Nat), (1000004 : Nat)]
            (fun (a : LawA len) ↦
            ([((3 : Nat), SV.ptr (3021 : Nat) (Prod.fst (Prod.snd (Prod.snd (Prod.snd (Prod.snd (Subtype.val a)))))) (0 : Nat) (0 : Nat)),
            ((6 : Nat), SV.u64 (Prod.fst (Prod.snd (Subtype.val a)))), ((27 : Nat), SV.slc (1 : Nat) n off (0 : Nat) len cap),
            ((28 : Nat), SV.i (↑len : Int)), ((29 : Nat), SV.i (↑(Prod.fst (Subtype.val a)) : Int))],
            [((1 : Nat), some (n, CH.sy (U := MapC) (Sy.row off [SV.ri len f] ob))),
            ((3021 : Nat),
            some
            (Prod.fst (Prod.snd (Prod.snd (Prod.snd (Prod.snd (Subtype.val a))))),
            machC (Prod.snd (Prod.snd (Prod.snd (Prod.snd (Prod.snd (Subtype.val a)))))) (Prod.fst (Prod.snd (Subtype.val a)))
            (Prod.fst (Prod.snd (Prod.snd (Subtype.val a)))) (Prod.fst (Prod.snd (Prod.snd (Prod.snd (Subtype.val a))))))),
            ((1000000 : Nat), some ((0 : Nat), CH.ro (U := MapC) (List.map SV.str signsL) T0)),
            ((1000003 : Nat), some ((3 : Nat), CH.ro (U := MapC) [SV.r32 (8 : Nat) f1] T1)),
            ((1000004 : Nat), some ((4 : Nat), CH.ro (U := MapC) [SV.r32 (64 : Nat) f2] T2))]))
            fun (a : LawA len) ↦ len - Prod.fst (Subtype.val a))),
            ([((3 : Nat), some (SV.ptr (3021 : Nat) (Prod.fst (Prod.snd (Prod.snd (Prod.snd (Prod.snd (Subtype.val a)))))) (0 : Nat) (0 : Nat))),
            ((6 : Nat), some (SV.u64 (Prod.fst (Prod.snd (Subtype.val a))))), ((27 : Nat), some (SV.slc (1 : Nat) n off (0 : Nat) len cap)),
            ((28 : Nat), some (SV.i (↑len : Int))),
            ((29 : Nat), some (SV.i (IntKind.wrap IntKind.i64 ((↑(Prod.fst (Subtype.val a)) : Int) + (1 : Int)))))] =
            [((3 : Nat), some (SV.ptr (3021 : Nat) (Prod.fst (Prod.snd (Prod.snd (Prod.snd (Prod.snd (Subtype.val a')))))) (0 : Nat) (0 : Nat))),
            ((6 : Nat), some (SV.u64 (Prod.fst (Prod.snd (Subtype.val a'))))), ((27 : Nat), some (SV.slc (1 : Nat) n off (0 : Nat) len cap)),
            ((28 : Nat), some (SV.i (↑len : Int))), ((29 : Nat), some (SV.i (↑(Prod.fst (Subtype.val a')) : Int)))] ∧
            [((1 : Nat), some (n, CH.sy (U := MapC) (Sy.row off [SV.ri len f] ob))),
            ((3021 : Nat),
            some
            (Prod.fst (Prod.snd (Prod.snd (Prod.snd (Prod.snd (Subtype.val a))))),
            CH.cells (U := MapC)
            [SV.ptr (0 : Nat) (Prod.snd (Prod.snd (Prod.snd (Prod.snd (Prod.snd (Subtype.val a)))))) (0 : Nat) (0 : Nat),
            SV.u64
            (tickB (Prod.fst (Prod.snd (Subtype.val a)))
            (f ((0 : Nat) + Int.toNat (↑(Prod.fst (Subtype.val a)) : Int) * (1 : Nat)))),
            SV.nils,
            SV.i
            (tickD (Prod.fst (Prod.snd (Prod.snd (Subtype.val a))))
            (f ((0 : Nat) + Int.toNat (↑(Prod.fst (Subtype.val a)) : Int) * (1 : Nat)))),
            SV.i
            (tickR (Prod.fst (Prod.snd (Prod.snd (Prod.snd (Subtype.val a)))))
            (f ((0 : Nat) + Int.toNat (↑(Prod.fst (Subtype.val a)) : Int) * (1 : Nat))))]
            (91 : TypeId))),
            ((1000000 : Nat),
            some
            ((0 : Nat),
            CH.ro (U := MapC)
            [SV.str (ByteArray.mk #[(116 : UInt8), (97 : UInt8), (110 : UInt8)]),
            SV.str (ByteArray.mk #[(115 : UInt8), (116 : UInt8), (97 : UInt8), (110 : UInt8)]),
            SV.str (ByteArray.mk #[(116 : UInt8), (97 : UInt8), (110 : UInt8)]),
            SV.str (ByteArray.mk #[(116 : UInt8), (97 : UInt8), (110 : UInt8)]), SV.str (ByteArray.mk #[]),
            SV.str (ByteArray.mk #[(105 : UInt8), (97 : UInt8)]), SV.str (ByteArray.mk #[(105 : UInt8), (110 : UInt8)]),
            SV.str (ByteArray.mk #[(105 : UInt8)]), SV.str (ByteArray.mk #[(105 : UInt8), (97 : UInt8)]),
            SV.str (ByteArray.mk #[(105 : UInt8), (98 : UInt8), (112 : UInt8)]), SV.str (ByteArray.mk #[(105 : UInt8), (97 : UInt8)]),
            SV.str (ByteArray.mk #[(105 : UInt8), (97 : UInt8), (111 : UInt8), (98 : UInt8), (112 : UInt8)]),
            SV.str (ByteArray.mk #[(105 : UInt8)]), SV.str (ByteArray.mk #[(105 : UInt8), (98 : UInt8), (112 : UInt8)]),
            SV.str (ByteArray.mk #[(105 : UInt8)]), SV.str (ByteArray.mk #[(116 : UInt8), (110 : UInt8)]),
            SV.str (ByteArray.mk #[(116 : UInt8), (110 : UInt8)])]
            T0)),
            ((1000003 : Nat), some ((3 : Nat), CH.ro (U := MapC) [SV.r32 (8 : Nat) f1] T1)),
            ((1000004 : Nat), some ((4 : Nat), CH.ro (U := MapC) [SV.r32 (64 : Nat) f2] T2))] =
            [((1 : Nat), some (n, CH.sy (U := MapC) (Sy.row off [SV.ri len f] ob))),
            ((3021 : Nat),
            some
            (Prod.fst (Prod.snd (Prod.snd (Prod.snd (Prod.snd (Subtype.val a'))))),
            CH.cells (U := MapC)
            [SV.ptr (0 : Nat) (Prod.snd (Prod.snd (Prod.snd (Prod.snd (Prod.snd (Subtype.val a')))))) (0 : Nat) (0 : Nat),
            SV.u64 (Prod.fst (Prod.snd (Subtype.val a'))), SV.nils, SV.i (Prod.fst (Prod.snd (Prod.snd (Subtype.val a')))),
            SV.i (Prod.fst (Prod.snd (Prod.snd (Prod.snd (Subtype.val a')))))]
            (91 : TypeId))),
            ((1000000 : Nat),
            some
            ((0 : Nat),
            CH.ro (U := MapC)
            [SV.str (ByteArray.mk #[(116 : UInt8), (97 : UInt8), (110 : UInt8)]),
            SV.str (ByteArray.mk #[(115 : UInt8), (116 : UInt8), (97 : UInt8), (110 : UInt8)]),
            SV.str (ByteArray.mk #[(116 : UInt8), (97 : UInt8), (110 : UInt8)]),
            SV.str (ByteArray.mk #[(116 : UInt8), (97 : UInt8), (110 : UInt8)]), SV.str (ByteArray.mk #[]),
            SV.str (ByteArray.mk #[(105 : UInt8), (97 : UInt8)]), SV.str (ByteArray.mk #[(105 : UInt8), (110 : UInt8)]),
            SV.str (ByteArray.mk #[(105 : UInt8)]), SV.str (ByteArray.mk #[(105 : UInt8), (97 : UInt8)]),
            SV.str (ByteArray.mk #[(105 : UInt8), (98 : UInt8), (112 : UInt8)]), SV.str (ByteArray.mk #[(105 : UInt8), (97 : UInt8)]),
            SV.str (ByteArray.mk #[(105 : UInt8), (97 : UInt8), (111 : UInt8), (98 : UInt8), (112 : UInt8)]),
            SV.str (ByteArray.mk #[(105 : UInt8)]), SV.str (ByteArray.mk #[(105 : UInt8), (98 : UInt8), (112 : UInt8)]),
            SV.str (ByteArray.mk #[(105 : UInt8)]), SV.str (ByteArray.mk #[(116 : UInt8), (110 : UInt8)]),
            SV.str (ByteArray.mk #[(116 : UInt8), (110 : UInt8)])]
            T0)),
            ((1000003 : Nat), some ((3 : Nat), CH.ro (U := MapC) [SV.r32 (8 : Nat) f1] T1)),
            ((1000004 : Nat), some ((4 : Nat), CH.ro (U := MapC) [SV.r32 (64 : Nat) f2] T2))]) ∧
            len - Prod.fst (Subtype.val a') < len - Prod.fst (Subtype.val a)
            else
            bif tickE (f ((0 : Nat) + Int.toNat (↑(Prod.fst (Subtype.val a)) : Int) * (1 : Nat))) != (1 : Int) then
            Q (SV.b false)
            [some (n, CH.sy (U := MapC) (Sy.row off [SV.ri len f] ob)),
            some
            ((0 : Nat),
            CH.ro (U := MapC)
            [SV.str (ByteArray.mk #[(116 : UInt8), (97 : UInt8), (110 : UInt8)]),
            SV.str (ByteArray.mk #[(115 : UInt8), (116 : UInt8), (97 : UInt8), (110 : UInt8)]),
            SV.str (ByteArray.mk #[(116 : UInt8), (97 : UInt8), (110 : UInt8)]),
            SV.str (ByteArray.mk #[(116 : UInt8), (97 : UInt8), (110 : UInt8)]), SV.str (ByteArray.mk #[]),
            SV.str (ByteArray.mk #[(105 : UInt8), (97 : UInt8)]), SV.str (ByteArray.mk #[(105 : UInt8), (110 : UInt8)]),
            SV.str (ByteArray.mk #[(105 : UInt8)]), SV.str (ByteArray.mk #[(105 : UInt8), (97 : UInt8)]),
            SV.str (ByteArray.mk #[(105 : UInt8), (98 : UInt8), (112 : UInt8)]), SV.str (ByteArray.mk #[(105 : UInt8), (97 : UInt8)]),
            SV.str (ByteArray.mk #[(105 : UInt8), (97 : UInt8), (111 : UInt8), (98 : UInt8), (112 : UInt8)]),
            SV.str (ByteArray.mk #[(105 : UInt8)]), SV.str (ByteArray.mk #[(105 : UInt8), (98 : UInt8), (112 : UInt8)]),
            SV.str (ByteArray.mk #[(105 : UInt8)]), SV.str (ByteArray.mk #[(116 : UInt8), (110 : UInt8)]),
            SV.str (ByteArray.mk #[(116 : UInt8), (110 : UInt8)])]
            T0),
            some ((3 : Nat), CH.ro (U := MapC) [SV.r32 (8 : Nat) f1] T1), some ((4 : Nat), CH.ro (U := MapC) [SV.r32 (64 : Nat) f2] T2)]
            else False
            else
            bif decide ((tickE (f ((0 : Nat) + Int.toNat (↑(Prod.fst (Subtype.val a)) : Int) * (1 : Nat))) != (1 : Int)) = false) then False
            else
            bif tickE (f ((0 : Nat) + Int.toNat (↑(Prod.fst (Subtype.val a)) : Int) * (1 : Nat))) != (1 : Int) then
            Q (SV.b false)
            [some (n, CH.sy (U := MapC) (Sy.row off [SV.ri len f] ob)),
            some
            ((0 : Nat),
            CH.ro (U := MapC)
            [SV.str (ByteArray.mk #[(116 : UInt8), (97 : UInt8), (110 : UInt8)]),
            SV.str (ByteArray.mk #[(115 : UInt8), (116 : UInt8), (97 : UInt8), (110 : UInt8)]),
            SV.str (ByteArray.mk #[(116 : UInt8), (97 : UInt8), (110 : UInt8)]),
            SV.str (ByteArray.mk #[(116 : UInt8), (97 : UInt8), (110 : UInt8)]), SV.str (ByteArray.mk #[]),
            SV.str (ByteArray.mk #[(105 : UInt8), (97 : UInt8)]), SV.str (ByteArray.mk #[(105 : UInt8), (110 : UInt8)]),
            SV.str (ByteArray.mk #[(105 : UInt8)]), SV.str (ByteArray.mk #[(105 : UInt8), (97 : UInt8)]),
            SV.str (ByteArray.mk #[(105 : UInt8), (98 : UInt8), (112 : UInt8)]), SV.str (ByteArray.mk #[(105 : UInt8), (97 : UInt8)]),
            SV.str (ByteArray.mk #[(105 : UInt8), (97 : UInt8), (111 : UInt8), (98 : UInt8), (112 : UInt8)]),
            SV.str (ByteArray.mk #[(105 : UInt8)]), SV.str (ByteArray.mk #[(105 : UInt8), (98 : UInt8), (112 : UInt8)]),
            SV.str (ByteArray.mk #[(105 : UInt8)]), SV.str (ByteArray.mk #[(116 : UInt8), (110 : UInt8)]),
            SV.str (ByteArray.mk #[(116 : UInt8), (110 : UInt8)])]
            T0),
            some ((3 : Nat), CH.ro (U := MapC) [SV.r32 (8 : Nat) f1] T1), some ((4 : Nat), CH.ro (U := MapC) [SV.r32 (64 : Nat) f2] T2)]
            else False
            else
            bif decide ((tickE (f ((0 : Nat) + Int.toNat (↑(Prod.fst (Subtype.val a)) : Int) * (1 : Nat))) != (1 : Int)) = false) then
            bif decide ((tickE (f ((0 : Nat) + Int.toNat (↑(Prod.fst (Subtype.val a)) : Int) * (1 : Nat))) != (1 : Int)) = false) then False
            else
            bif tickE (f ((0 : Nat) + Int.toNat (↑(Prod.fst (Subtype.val a)) : Int) * (1 : Nat))) != (1 : Int) then
            Q (SV.b false)
            [some (n, CH.sy (U := MapC) (Sy.row off [SV.ri len f] ob)),
            some
            ((0 : Nat),
            CH.ro (U := MapC)
            [SV.str (ByteArray.mk #[(116 : UInt8), (97 : UInt8), (110 : UInt8)]),
            SV.str (ByteArray.mk #[(115 : UInt8), (116 : UInt8), (97 : UInt8), (110 : UInt8)]),
            SV.str (ByteArray.mk #[(116 : UInt8), (97 : UInt8), (110 : UInt8)]),
            SV.str (ByteArray.mk #[(116 : UInt8), (97 : UInt8), (110 : UInt8)]), SV.str (ByteArray.mk #[]),
            SV.str (ByteArray.mk #[(105 : UInt8), (97 : UInt8)]), SV.str (ByteArray.mk #[(105 : UInt8), (110 : UInt8)]),
            SV.str (ByteArray.mk #[(105 : UInt8)]), SV.str (ByteArray.mk #[(105 : UInt8), (97 : UInt8)]),
            SV.str (ByteArray.mk #[(105 : UInt8), (98 : UInt8), (112 : UInt8)]), SV.str (ByteArray.mk #[(105 : UInt8), (97 : UInt8)]),
            SV.str (ByteArray.mk #[(105 : UInt8), (97 : UInt8), (111 : UInt8), (98 : UInt8), (112 : UInt8)]),
            SV.str (ByteArray.mk #[(105 : UInt8)]), SV.str (ByteArray.mk #[(105 : UInt8), (98 : UInt8), (112 : UInt8)]),
            SV.str (ByteArray.mk #[(105 : UInt8)]), SV.str (ByteArray.mk #[(116 : UInt8), (110 : UInt8)]),
            SV.str (ByteArray.mk #[(116 : UInt8), (110 : UInt8)])]
            T0),
            some ((3 : Nat), CH.ro (U := MapC) [SV.r32 (8 : Nat) f1] T1), some ((4 : Nat), CH.ro (U := MapC) [SV.r32 (64 : Nat) f2] T2)]
            else False
            else
            bif decide ((tickE (f ((0 : Nat) + Int.toNat (↑(Prod.fst (Subtype.val a)) : Int) * (1 : Nat))) != (1 : Int)) = false) then False
            else
            bif tickE (f ((0 : Nat) + Int.toNat (↑(Prod.fst (Subtype.val a)) : Int) * (1 : Nat))) != (1 : Int) then
            Q (SV.b false)
            [some (n, CH.sy (U := MapC) (Sy.row off [SV.ri len f] ob)),
            some
            ((0 : Nat),
            CH.ro (U := MapC)
            [SV.str (ByteArray.mk #[(116 : UInt8), (97 : UInt8), (110 : UInt8)]),
            SV.str (ByteArray.mk #[(115 : UInt8), (116 : UInt8), (97 : UInt8), (110 : UInt8)]),
            SV.str (ByteArray.mk #[(116 : UInt8), (97 : UInt8), (110 : UInt8)]),
            SV.str (ByteArray.mk #[(116 : UInt8), (97 : UInt8), (110 : UInt8)]), SV.str (ByteArray.mk #[]),
            SV.str (ByteArray.mk #[(105 : UInt8), (97 : UInt8)]), SV.str (ByteArray.mk #[(105 : UInt8), (110 : UInt8)]),
            SV.str (ByteArray.mk #[(105 : UInt8)]), SV.str (ByteArray.mk #[(105 : UInt8), (97 : UInt8)]),
            SV.str (ByteArray.mk #[(105 : UInt8), (98 : UInt8), (112 : UInt8)]), SV.str (ByteArray.mk #[(105 : UInt8), (97 : UInt8)]),
            SV.str (ByteArray.mk #[(105 : UInt8), (97 : UInt8), (111 : UInt8), (98 : UInt8), (112 : UInt8)]),
            SV.str (ByteArray.mk #[(105 : UInt8)]), SV.str (ByteArray.mk #[(105 : UInt8), (98 : UInt8), (112 : UInt8)]),
            SV.str (ByteArray.mk #[(105 : UInt8)]), SV.str (ByteArray.mk #[(116 : UInt8), (110 : UInt8)]),
            SV.str (ByteArray.mk #[(116 : UInt8), (110 : UInt8)])]
            T0),
            some ((3 : Nat), CH.ro (U := MapC) [SV.r32 (8 : Nat) f1] T1), some ((4 : Nat), CH.ro (U := MapC) [SV.r32 (64 : Nat) f2] T2)]
            else False
            else
            bif decide ((tickE (f ((0 : Nat) + Int.toNat (↑(Prod.fst (Subtype.val a)) : Int) * (1 : Nat))) != (1 : Int)) = false) then False
            else
            bif decide ((tickE (f ((0 : Nat) + Int.toNat (↑(Prod.fst (Subtype.val a)) : Int) * (1 : Nat))) != (1 : Int)) = false) then
            bif decide ((tickE (f ((0 : Nat) + Int.toNat (↑(Prod.fst (Subtype.val a)) : Int) * (1 : Nat))) != (1 : Int)) = false) then False
            else
            bif tickE (f ((0 : Nat) + Int.toNat (↑(Prod.fst (Subtype.val a)) : Int) * (1 : Nat))) != (1 : Int) then
            Q (SV.b false)
            [some (n, CH.sy (U := MapC) (Sy.row off [SV.ri len f] ob)),
            some
            ((0 : Nat),
            CH.ro (U := MapC)
            [SV.str (ByteArray.mk #[(116 : UInt8), (97 : UInt8), (110 : UInt8)]),
            SV.str (ByteArray.mk #[(115 : UInt8), (116 : UInt8), (97 : UInt8), (110 : UInt8)]),
            SV.str (ByteArray.mk #[(116 : UInt8), (97 : UInt8), (110 : UInt8)]),
            SV.str (ByteArray.mk #[(116 : UInt8), (97 : UInt8), (110 : UInt8)]), SV.str (ByteArray.mk #[]),
            SV.str (ByteArray.mk #[(105 : UInt8), (97 : UInt8)]), SV.str (ByteArray.mk #[(105 : UInt8), (110 : UInt8)]),
            SV.str (ByteArray.mk #[(105 : UInt8)]), SV.str (ByteArray.mk #[(105 : UInt8), (97 : UInt8)]),
            SV.str (ByteArray.mk #[(105 : UInt8), (98 : UInt8), (112 : UInt8)]), SV.str (ByteArray.mk #[(105 : UInt8), (97 : UInt8)]),
            SV.str (ByteArray.mk #[(105 : UInt8), (97 : UInt8), (111 : UInt8), (98 : UInt8), (112 : UInt8)]),
            SV.str (ByteArray.mk #[(105 : UInt8)]), SV.str (ByteArray.mk #[(105 : UInt8), (98 : UInt8), (112 : UInt8)]),
            SV.str (ByteArray.mk #[(105 : UInt8)]), SV.str (ByteArray.mk #[(116 : UInt8), (110 : UInt8)]),
            SV.str (ByteArray.mk #[(116 : UInt8), (110 : UInt8)])]
            T0),
            some ((3 : Nat), CH.ro (U := MapC) [SV.r32 (8 : Nat) f1] T1), some ((4 : Nat), CH.ro (U := MapC) [SV.r32 (64 : Nat) f2] T2)]
            else False
            else
            bif decide ((tickE (f ((0 : Nat) + Int.toNat (↑(Prod.fst (Subtype.val a)) : Int) * (1 : Nat))) != (1 : Int)) = false) then False
            else
            bif tickE (f ((0 : Nat) + Int.toNat (↑(Prod.fst (Subtype.val a)) : Int) * (1 : Nat))) != (1 : Int) then
            Q (SV.b false)
            [some (n, CH.sy (U := MapC) (Sy.row off [SV.ri len f] ob)),
            some
            ((0 : Nat),
            CH.ro (U := MapC)
            [SV.str (ByteArray.mk #[(116 : UInt8), (97 : UInt8), (110 : UInt8)]),
            SV.str (ByteArray.mk #[(115 : UInt8), (116 : UInt8), (97 : UInt8), (110 : UInt8)]),
            SV.str (ByteArray.mk #[(116 : UInt8), (97 : UInt8), (110 : UInt8)]),
            SV.str (ByteArray.mk #[(116 : UInt8), (97 : UInt8), (110 : UInt8)]), SV.str (ByteArray.mk #[]),
            SV.str (ByteArray.mk #[(105 : UInt8), (97 : UInt8)]), SV.str (ByteArray.mk #[(105 : UInt8), (110 : UInt8)]),
            SV.str (ByteArray.mk #[(105 : UInt8)]), SV.str (ByteArray.mk #[(105 : UInt8), (97 : UInt8)]),
            SV.str (ByteArray.mk #[(105 : UInt8), (98 : UInt8), (112 : UInt8)]), SV.str (ByteArray.mk #[(105 : UInt8), (97 : UInt8)]),
            SV.str (ByteArray.mk #[(105 : UInt8), (97 : UInt8), (111 : UInt8), (98 : UInt8), (112 : UInt8)]),
            SV.str (ByteArray.mk #[(105 : UInt8)]), SV.str (ByteArray.mk #[(105 : UInt8), (98 : UInt8), (112 : UInt8)]),
            SV.str (ByteArray.mk #[(105 : UInt8)]), SV.str (ByteArray.mk #[(116 : UInt8), (110 : UInt8)]),
            SV.str (ByteArray.mk #[(116 : UInt8), (110 : UInt8)])]
            T0),
            some ((3 : Nat), CH.ro (U := MapC) [SV.r32 (8 : Nat) f1] T1), some ((4 : Nat), CH.ro (U := MapC) [SV.r32 (64 : Nat) f2] T2)]
            else False
            else
            y = y ∧
            bif decide ((tickE (f ((0 : Nat) + Int.toNat (↑(Prod.fst (Subtype.val a)) : Int) * (1 : Nat))) != (0 : Int)) = false) then
            bif decide ((tickE (f ((0 : Nat) + Int.toNat (↑(Prod.fst (Subtype.val a)) : Int) * (1 : Nat))) != (0 : Int)) = false) then
            ∃ (h : Prod.fst (Prod.snd (Prod.snd (Prod.snd (Prod.snd (Subtype.val a))))) = Prod.fst (Prod.snd (Prod.snd (Prod.snd (Prod.snd (Subtype.val a)))))),
            ∀ (y_2 : Unit),
            bif decide ((tickE (f ((0 : Nat) + Int.toNat (↑(Prod.fst (Subtype.val a)) : Int) * (1 : Nat))) != (0 : Int)) = false) then
            bif decide ((tickE (f ((0 : Nat) + Int.toNat (↑(Prod.fst (Subtype.val a)) : Int) * (1 : Nat))) != (0 : Int)) = false) then
            bif tickE (f ((0 : Nat) + Int.toNat (↑(Prod.fst (Subtype.val a)) : Int) * (1 : Nat))) != (0 : Int) then
            Q (SV.b false)
            [some (n, CH.sy (U := MapC) (Sy.row off [SV.ri len f] ob)),
            some
            ((0 : Nat),
            CH.ro (U := MapC)
            [SV.str (ByteArray.mk #[(116 : UInt8), (97 : UInt8), (110 : UInt8)]),
            SV.str (ByteArray.mk #[(115 : UInt8), (116 : UInt8), (97 : UInt8), (110 : UInt8)]),
            SV.str (ByteArray.mk #[(116 : UInt8), (97 : UInt8), (110 : UInt8)]),
            SV.str (ByteArray.mk #[(116 : UInt8), (97 : UInt8), (110 : UInt8)]), SV.str (ByteArray.mk #[]),
            SV.str (ByteArray.mk #[(105 : UInt8), (97 : UInt8)]), SV.str (ByteArray.mk #[(105 : UInt8), (110 : UInt8)]),
            SV.str (ByteArray.mk #[(105 : UInt8)]), SV.str (ByteArray.mk #[(105 : UInt8), (97 : UInt8)]),
            SV.str (ByteArray.mk #[(105 : UInt8), (98 : UInt8), (112 : UInt8)]), SV.str (ByteArray.mk #[(105 : UInt8), (97 : UInt8)]),
            SV.str (ByteArray.mk #[(105 : UInt8), (97 : UInt8), (111 : UInt8), (98 : UInt8), (112 : UInt8)]),
            SV.str (ByteArray.mk #[(105 : UInt8)]), SV.str (ByteArray.mk #[(105 : UInt8), (98 : UInt8), (112 : UInt8)]),
            SV.str (ByteArray.mk #[(105 : UInt8)]), SV.str (ByteArray.mk #[(116 : UInt8), (110 : UInt8)]),
            SV.str (ByteArray.mk #[(116 : UInt8), (110 : UInt8)])]
            T0),
            some ((3 : Nat), CH.ro (U := MapC) [SV.r32 (8 : Nat) f1] T1), some ((4 : Nat), CH.ro (U := MapC) [SV.r32 (64 : Nat) f2] T2)]
            else
            bif
            decide
            ((tickB (Prod.fst (Prod.snd (Subtype.val a))) (f ((0 : Nat) + Int.toNat (↑(Prod.fst (Subtype.val a)) : Int) * (1 : Nat))) !=
            Prod.fst (Prod.snd (Subtype.val a)) +
            BitVec.ofInt (64 : Nat) (f ((0 : Nat) + Int.toNat (↑(Prod.fst (Subtype.val a)) : Int) * (1 : Nat)))) =
            false) then
            bif
            decide
            ((tickB (Prod.fst (Prod.snd (Subtype.val a))) (f ((0 : Nat) + Int.toNat (↑(Prod.fst (Subtype.val a)) : Int) * (1 : Nat))) !=
            Prod.fst (Prod.snd (Subtype.val a)) +
            BitVec.ofInt (64 : Nat) (f ((0 : Nat) + Int.toNat (↑(Prod.fst (Subtype.val a)) : Int) * (1 : Nat)))) =
            false) then
            y = y ∧
            bif
            decide
            ((tickB (Prod.fst (Prod.snd (Subtype.val a))) (f ((0 : Nat) + Int.toNat (↑(Prod.fst (Subtype.val a)) : Int) * (1 : Nat))) !=
            Prod.fst (Prod.snd (Subtype.val a)) +
            BitVec.ofInt (64 : Nat) (f ((0 : Nat) + Int.toNat (↑(Prod.fst (Subtype.val a)) : Int) * (1 : Nat)))) =
            false) then
            bif
            decide
            ((tickB (Prod.fst (Prod.snd (Subtype.val a))) (f ((0 : Nat) + Int.toNat (↑(Prod.fst (Subtype.val a)) : Int) * (1 : Nat))) !=
            Prod.fst (Prod.snd (Subtype.val a)) +
            BitVec.ofInt (64 : Nat) (f ((0 : Nat) + Int.toNat (↑(Prod.fst (Subtype.val a)) : Int) * (1 : Nat)))) =
            false) then
            bif
            tickB (Prod.fst (Prod.snd (Subtype.val a))) (f ((0 : Nat) + Int.toNat (↑(Prod.fst (Subtype.val a)) : Int) * (1 : Nat))) !=
            Prod.fst (Prod.snd (Subtype.val a)) +
            BitVec.ofInt (64 : Nat) (f ((0 : Nat) + Int.toNat (↑(Prod.fst (Subtype.val a)) : Int) * (1 : Nat))) then
            Q (SV.b false)
            [some (n, CH.sy (U := MapC) (Sy.row off [SV.ri len f] ob)),
            some
            ((0 : Nat),
            CH.ro (U := MapC)
            [SV.str (ByteArray.mk #[(116 : UInt8), (97 : UInt8), (110 : UInt8)]),
            SV.str (ByteArray.mk #[(115 : UInt8), (116 : UInt8), (97 : UInt8), (110 : UInt8)]),
            SV.str (ByteArray.mk #[(116 : UInt8), (97 : UInt8), (110 : UInt8)]),
            SV.str (ByteArray.mk #[(116 : UInt8), (97 : UInt8), (110 : UInt8)]), SV.str (ByteArray.mk #[]),
            SV.str (ByteArray.mk #[(105 : UInt8), (97 : UInt8)]), SV.str (ByteArray.mk #[(105 : UInt8), (110 : UInt8)]),
            SV.str (ByteArray.mk #[(105 : UInt8)]), SV.str (ByteArray.mk #[(105 : UInt8), (97 : UInt8)]),
            SV.str (ByteArray.mk #[(105 : UInt8), (98 : UInt8), (112 : UInt8)]),
            SV.str (ByteArray.mk #[(105 : UInt8), (97 : UInt8)]),
            SV.str (ByteArray.mk #[(105 : UInt8), (97 : UInt8), (111 : UInt8), (98 : UInt8), (112 : UInt8)]),
            SV.str (ByteArray.mk #[(105 : UInt8)]), SV.str (ByteArray.mk #[(105 : UInt8), (98 : UInt8), (112 : UInt8)]),
            SV.str (ByteArray.mk #[(105 : UInt8)]), SV.str (ByteArray.mk #[(116 : UInt8), (110 : UInt8)]),
            SV.str (ByteArray.mk #[(116 : UInt8), (110 : UInt8)])]
            T0),
            some ((3 : Nat), CH.ro (U := MapC) [SV.r32 (8 : Nat) f1] T1), some ((4 : Nat), CH.ro (U := MapC) [SV.r32 (64 : Nat) f2] T2)]
            else
            ∃ (a' :
            LInv.α
            (LInv.mk (LawA len) [(3 : Nat), (6 : Nat), (27 : Nat), (28 : Nat), (29 : Nat)]
            [(1 : Nat), (3021 : Nat), (1000000 : Nat), (1000003 : Nat), (1000004 : Nat)]
            (fun (a : LawA len) ↦
            ([((3 : Nat),
            SV.ptr (3021 : Nat) (Prod.fst (Prod.snd (Prod.snd (Prod.snd (Prod.snd (Subtype.val a)))))) (0 : Nat) (0 : Nat)),
            ((6 : Nat), SV.u64 (Prod.fst (Prod.snd (Subtype.val a)))), ((27 : Nat), SV.slc (1 : Nat) n off (0 : Nat) len cap),
            ((28 : Nat), SV.i (↑len : Int)), ((29 : Nat), SV.i (↑(Prod.fst (Subtype.val a)) : Int))],
            [((1 : Nat), some (n, CH.sy (U := MapC) (Sy.row off [SV.ri len f] ob))),
            ((3021 : Nat),
            some
            (Prod.fst (Prod.snd (Prod.snd (Prod.snd (Prod.snd (Subtype.val a))))),
            machC (Prod.snd (Prod.snd (Prod.snd (Prod.snd (Prod.snd (Subtype.val a)))))) (Prod.fst (Prod.snd (Subtype.val a)))
            (Prod.fst (Prod.snd (Prod.snd (Subtype.val a)))) (Prod.fst (Prod.snd (Prod.snd (Prod.snd (Subtype.val a))))))),
            ((1000000 : Nat), some ((0 : Nat), CH.ro (U := MapC) (List.map SV.str signsL) T0)),
            ((1000003 : Nat), some ((3 : Nat), CH.ro (U := MapC) [SV.r32 (8 : Nat) f1] T1)),
            ((1000004 : Nat), some ((4 : Nat), CH.ro (U := MapC) [SV.r32 (64 : Nat) f2] T2))]))
            fun (a : LawA len) ↦ len - Prod.fst (Subtype.val a))),
            ([((3 : Nat),
            some (SV.ptr (3021 : Nat) (Prod.fst (Prod.snd (Prod.snd (Prod.snd (Prod.snd (Subtype.val a)))))) (0 : Nat) (0 : Nat))),
            ((6 : Nat),
            some
            (SV.u64
            (Prod.fst (Prod.snd (Subtype.val a)) +
            BitVec.ofInt (64 : Nat) (f ((0 : Nat) + Int.toNat (↑(Prod.fst (Subtype.val a)) : Int) * (1 : Nat)))))),
            ((27 : Nat), some (SV.slc (1 : Nat) n off (0 : Nat) len cap)), ((28 : Nat), some (SV.i (↑len : Int))),
            ((29 : Nat), some (SV.i (IntKind.wrap IntKind.i64 ((↑(Prod.fst (Subtype.val a)) : Int) + (1 : Int)))))] =
            [((3 : Nat),
            some (SV.ptr (3021 : Nat) (Prod.fst (Prod.snd (Prod.snd (Prod.snd (Prod.snd (Subtype.val a')))))) (0 : Nat) (0 : Nat))),
            ((6 : Nat), some (SV.u64 (Prod.fst (Prod.snd (Subtype.val a'))))),
            ((27 : Nat), some (SV.slc (1 : Nat) n off (0 : Nat) len cap)), ((28 : Nat), some (SV.i (↑len : Int))),
            ((29 : Nat), some (SV.i (↑(Prod.fst (Subtype.val a')) : Int)))] ∧
            [((1 : Nat), some (n, CH.sy (U := MapC) (Sy.row off [SV.ri len f] ob))),
            ((3021 : Nat),
            some
            (Prod.fst (Prod.snd (Prod.snd (Prod.snd (Prod.snd (Subtype.val a))))),
            CH.cells (U := MapC)
            [SV.ptr (0 : Nat) (Prod.snd (Prod.snd (Prod.snd (Prod.snd (Prod.snd (Subtype.val a)))))) (0 : Nat) (0 : Nat),
            SV.u64
            (tickB (Prod.fst (Prod.snd (Subtype.val a)))
            (f ((0 : Nat) + Int.toNat (↑(Prod.fst (Subtype.val a)) : Int) * (1 : Nat)))),
            SV.nils,
            SV.i
            (tickD (Prod.fst (Prod.snd (Prod.snd (Subtype.val a))))
            (f ((0 : Nat) + Int.toNat (↑(Prod.fst (Subtype.val a)) : Int) * (1 : Nat)))),
            SV.i
            (tickR (Prod.fst (Prod.snd (Prod.snd (Prod.snd (Subtype.val a)))))
            (f ((0 : Nat) + Int.toNat (↑(Prod.fst (Subtype.val a)) : Int) * (1 : Nat))))]
            (91 : TypeId))),
            ((1000000 : Nat),
            some
            ((0 : Nat),
            CH.ro (U := MapC)
            [SV.str (ByteArray.mk #[(116 : UInt8), (97 : UInt8), (110 : UInt8)]),
            SV.str (ByteArray.mk #[(115 : UInt8), (116 : UInt8), (97 : UInt8), (110 : UInt8)]),
            SV.str (ByteArray.mk #[(116 : UInt8), (97 : UInt8), (110 : UInt8)]),
            SV.str (ByteArray.mk #[(116 : UInt8), (97 : UInt8), (110 : UInt8)]), SV.str (ByteArray.mk #[]),
            SV.str (ByteArray.mk #[(105 : UInt8), (97 : UInt8)]), SV.str (ByteArray.mk #[(105 : UInt8), (110 : UInt8)]),
            SV.str (ByteArray.mk #[(105 : UInt8)]), SV.str (ByteArray.mk #[(105 : UInt8), (97 : UInt8)]),
            SV.str (ByteArray.mk #[(105 : UInt8), (98 : UInt8), (112 : UInt8)]),
            SV.str (ByteArray.mk #[(105 : UInt8), (97 : UInt8)]),
            SV.str (ByteArray.mk #[(105 : UInt8), (97 : UInt8), (111 : UInt8), (98 : UInt8), (112 : UInt8)]),
            SV.str (ByteArray.mk #[(105 : UInt8)]), SV.str (ByteArray.mk #[(105 : UInt8), (98 : UInt8), (112 : UInt8)]),
            SV.str (ByteArray.mk #[(105 : UInt8)]), SV.str (ByteArray.mk #[(116 : UInt8), (110 : UInt8)]),
            SV.str (ByteArray.mk #[(116 : UInt8), (110 : UInt8)])]
            T0)),
            ((1000003 : Nat), some ((3 : Nat), CH.ro (U := MapC) [SV.r32 (8 : Nat) f1] T1)),
            ((1000004 : Nat), some ((4 : Nat), CH.ro (U := MapC) [SV.r32 (64 : Nat) f2] T2))] =
            [((1 : Nat), some (n, CH.sy (U := MapC) (Sy.row off [SV.ri len f] ob))),
            ((3021 : Nat),
            some
            (Prod.fst (Prod.snd (Prod.snd (Prod.snd (Prod.snd (Subtype.val a'))))),
            CH.cells (U := MapC)
            [SV.ptr (0 : Nat) (Prod.snd (Prod.snd (Prod.snd (Prod.snd (Prod.snd (Subtype.val a')))))) (0 : Nat) (0 : Nat),
            SV.u64 (Prod.fst (Prod.snd (Subtype.val a'))), SV.nils, SV.i (Prod.fst (Prod.snd (Prod.snd (Subtype.val a')))),
            SV.i (Prod.fst (Prod.snd (Prod.snd (Prod.snd (Subtype.val a')))))]
            (91 : TypeId))),
            ((1000000 : Nat),
            some
            ((0 : Nat),
            CH.ro (U := MapC)
            [SV.str (ByteArray.mk #[(116 : UInt8), (97 : UInt8), (110 : UInt8)]),
            SV.str (ByteArray.mk #[(115 : UInt8), (116 : UInt8), (97 : UInt8), (110 : UInt8)]),
            SV.str (ByteArray.mk #[(116 : UInt8), (97 : UInt8), (110 : UInt8)]),
            SV.str (ByteArray.mk #[(116 : UInt8), (97 : UInt8), (110 : UInt8)]), SV.str (ByteArray.mk #[]),
            SV.str (ByteArray.mk #[(105 : UInt8), (97 : UInt8)]), SV.str (ByteArray.mk #[(105 : UInt8), (110 : UInt8)]),
            SV.str (ByteArray.mk #[(105 : UInt8)]), SV.str (ByteArray.mk #[(105 : UInt8), (97 : UInt8)]),
            SV.str (ByteArray.mk #[(105 : UInt8), (98 : UInt8), (112 : UInt8)]),
            SV.str (ByteArray.mk #[(105 : UInt8), (97 : UInt8)]),
            SV.str (ByteArray.mk #[(105 : UInt8), (97 : UInt8), (111 : UInt8), (98 : UInt8), (112 : UInt8)]),
            SV.str (ByteArray.mk #[(105 : UInt8)]), SV.str (ByteArray.mk #[(105 : UInt8), (98 : UInt8), (112 : UInt8)]),
            SV.str (ByteArray.mk #[(105 : UInt8)]), SV.str (ByteArray.mk #[(116 : UInt8), (110 : UInt8)]),
            SV.str (ByteArray.mk #[(116 : UInt8), (110 : UInt8)])]
            T0)),
            ((1000003 : Nat), some ((3 : Nat), CH.ro (U := MapC) [SV.r32 (8 : Nat) f1] T1)),
            ((1000004 : Nat), some ((4 : Nat), CH.ro (U := MapC) [SV.r32 (64 : Nat) f2] T2))]) ∧
            len - Prod.fst (Subtype.val a') < len - Prod.fst (Subtype.val a)
            else
            bif
            tickB (Prod.fst (Prod.snd (Subtype.val a))) (f ((0 : Nat) + Int.toNat (↑(Prod.fst (Subtype.val a)) : Int) * (1 : Nat))) !=
            Prod.fst (Prod.snd (Subtype.val a)) +
            BitVec.ofInt (64 : Nat) (f ((0 : Nat) + Int.toNat (↑(Prod.fst (Subtype.val a)) : Int) * (1 : Nat))) then
            Q (SV.b false)
            [some (n, CH.sy (U := MapC) (Sy.row off [SV.ri len f] ob)),
            some
            ((0 : Nat),
            CH.ro (U := MapC)
            [SV.str (ByteArray.mk #[(116 : UInt8), (97 : UInt8), (110 : UInt8)]),
            SV.str (ByteArray.mk #[(115 : UInt8), (116 : UInt8), (97 : UInt8), (110 : UInt8)]),
            SV.str (ByteArray.mk #[(116 : UInt8), (97 : UInt8), (110 : UInt8)]),
            SV.str (ByteArray.mk #[(116 : UInt8), (97 : UInt8), (110 : UInt8)]), SV.str (ByteArray.mk #[]),
            SV.str (ByteArray.mk #[(105 : UInt8), (97 : UInt8)]), SV.str (ByteArray.mk #[(105 : UInt8), (110 : UInt8)]),
            SV.str (ByteArray.mk #[(105 : UInt8)]), SV.str (ByteArray.mk #[(105 : UInt8), (97 : UInt8)]),
            SV.str (ByteArray.mk #[(105 : UInt8), (98 : UInt8), (112 : UInt8)]),
            SV.str (ByteArray.mk #[(105 : UInt8), (97 : UInt8)]),
            SV.str (ByteArray.mk #[(105 : UInt8), (97 : UInt8), (111 : UInt8), (98 : UInt8), (112 : UInt8)]),
            SV.str (ByteArray.mk #[(105 : UInt8)]), SV.str (ByteArray.mk #[(105 : UInt8), (98 : UInt8), (112 : UInt8)]),
            SV.str (ByteArray.mk #[(105 : UInt8)]), SV.str (ByteArray.mk #[(116 : UInt8), (110 : UInt8)]),
            SV.str (ByteArray.mk #[(116 : UInt8), (110 : UInt8)])]
            T0),
            some ((3 : Nat), CH.ro (U := MapC) [SV.r32 (8 : Nat) f1] T1), some ((4 : Nat), CH.ro (U := MapC) [SV.r32 (64 : Nat) f2] T2)]
            else False
            else
            bif
            decide
            ((tickB (Prod.fst (Prod.snd (Subtype.val a))) (f ((0 : Nat) + Int.toNat (↑(Prod.fst (Subtype.val a)) : Int) * (1 : Nat))) !=
            Prod.fst (Prod.snd (Subtype.val a)) +
            BitVec.ofInt (64 : Nat) (f ((0 : Nat) + Int.toNat (↑(Prod.fst (Subtype.val a)) : Int) * (1 : Nat)))) =
            false) then
            False
            else
            bif
            tickB (Prod.fst (Prod.snd (Subtype.val a))) (f ((0 : Nat) + Int.toNat (↑(Prod.fst (Subtype.val a)) : Int) * (1 : Nat))) !=
            Prod.fst (Prod.snd (Subtype.val a)) +
            BitVec.ofInt (64 : Nat) (f ((0 : Nat) + Int.toNat (↑(Prod.fst (Subtype.val a)) : Int) * (1 : Nat))) then
            Q (SV.b false)
            [some (n, CH.sy (U := MapC) (Sy.row off [SV.ri len f] ob)),
            some
            ((0 : Nat),
            CH.ro (U := MapC)
            [SV.str (ByteArray.mk #[(116 : UInt8), (97 : UInt8), (110 : UInt8)]),
            SV.str (ByteArray.mk #[(115 : UInt8), (116 : UInt8), (97 : UInt8), (110 : UInt8)]),
            SV.str (ByteArray.mk #[(116 : UInt8), (97 : UInt8), (110 : UInt8)]),
            SV.str (ByteArray.mk #[(116 : UInt8), (97 : UInt8), (110 : UInt8)]), SV.str (ByteArray.mk #[]),
            SV.str (ByteArray.mk #[(105 : UInt8), (97 : UInt8)]), SV.str (ByteArray.mk #[(105 : UInt8), (110 : UInt8)]),
            SV.str (ByteArray.mk #[(105 : UInt8)]), SV.str (ByteArray.mk #[(105 : UInt8), (97 : UInt8)]),
            SV.str (ByteArray.mk #[(105 : UInt8), (98 : UInt8), (112 : UInt8)]),
            SV.str (ByteArray.mk #[(105 : UInt8), (97 : UInt8)]),
            SV.str (ByteArray.mk #[(105 : UInt8), (97 : UInt8), (111 : UInt8), (98 : UInt8), (112 : UInt8)]),
            SV.str (ByteArray.mk #[(105 : UInt8)]), SV.str (ByteArray.mk #[(105 : UInt8), (98 : UInt8), (112 : UInt8)]),
            SV.str (ByteArray.mk #[(105 : UInt8)]), SV.str (ByteArray.mk #[(116 : UInt8), (110 : UInt8)]),
            SV.str (ByteArray.mk #[(116 : UInt8), (110 : UInt8)])]
            T0),
            some ((3 : Nat), CH.ro (U := MapC) [SV.r32 (8 : Nat) f1] T1), some ((4 : Nat), CH.ro (U := MapC) [SV.r32 (64 : Nat) f2] T2)]
            else False
            else
            bif
            decide
            ((tickB (Prod.fst (Prod.snd (Subtype.val a))) (f ((0 : Nat) + Int.toNat (↑(Prod.fst (Subtype.val a)) : Int) * (1 : Nat))) !=
            Prod.fst (Prod.snd (Subtype.val a)) +
            BitVec.ofInt (64 : Nat) (f ((0 : Nat) + Int.toNat (↑(Prod.fst (Subtype.val a)) : Int) * (1 : Nat)))) =
            false) then
            False
            else
            bif
            decide
            ((tickB (Prod.fst (Prod.snd (Subtype.val a))) (f ((0 : Nat) + Int.toNat (↑(Prod.fst (Subtype.val a)) : Int) * (1 : Nat))) !=
            Prod.fst (Prod.snd (Subtype.val a)) +
            BitVec.ofInt (64 : Nat) (f ((0 : Nat) + Int.toNat (↑(Prod.fst (Subtype.val a)) : Int) * (1 : Nat)))) =
            false) then
            False
            else
            bif
            tickB (Prod.fst (Prod.snd (Subtype.val a))) (f ((0 : Nat) + Int.toNat (↑(Prod.fst (Subtype.val a)) : Int) * (1 : Nat))) !=
            Prod.fst (Prod.snd (Subtype.val a)) +
            BitVec.ofInt (64 : Nat) (f ((0 : Nat) + Int.toNat (↑(Prod.fst (Subtype.val a)) : Int) * (1 : Nat))) then
            Q (SV.b false)
            [some (n, CH.sy (U := MapC) (Sy.row off [SV.ri len f] ob)),
            some
            ((0 : Nat),
            CH.ro (U := MapC)
            [SV.str (ByteArray.mk #[(116 : UInt8), (97 : UInt8), (110 : UInt8)]),
            SV.str (ByteArray.mk #[(115 : UInt8), (116 : UInt8), (97 : UInt8), (110 : UInt8)]),
            SV.str (ByteArray.mk #[(116 : UInt8), (97 : UInt8), (110 : UInt8)]),
            SV.str (ByteArray.mk #[(116 : UInt8), (97 : UInt8), (110 : UInt8)]), SV.str (ByteArray.mk #[]),
            SV.str (ByteArray.mk #[(105 : UInt8), (97 : UInt8)]), SV.str (ByteArray.mk #[(105 : UInt8), (110 : UInt8)]),
            SV.str (ByteArray.mk #[(105 : UInt8)]), SV.str (ByteArray.mk #[(105 : UInt8), (97 : UInt8)]),
            SV.str (ByteArray.mk #[(105 : UInt8), (98 : UInt8), (112 : UInt8)]), SV.str (ByteArray.mk #[(105 : UInt8), (97 : UInt8)]),
            SV.str (ByteArray.mk #[(105 : UInt8), (97 : UInt8), (111 : UInt8), (98 : UInt8), (112 : UInt8)]),
            SV.str (ByteArray.mk #[(105 : UInt8)]), SV.str (ByteArray.mk #[(105 : UInt8), (98 : UInt8), (112 : UInt8)]),
            SV.str (ByteArray.mk #[(105 : UInt8)]), SV.str (ByteArray.mk #[(116 : UInt8), (110 : UInt8)]),
            SV.str (ByteArray.mk #[(116 : UInt8), (110 : UInt8)])]
            T0),
            some ((3 : Nat), CH.ro (U := MapC) [SV.r32 (8 : Nat) f1] T1), some ((4 : Nat), CH.ro (U := MapC) [SV.r32 (64 : Nat) f2] T2)]
            else False
            else
            bif
            decide
            ((tickB (Prod.fst (Prod.snd (Subtype.val a))) (f ((0 : Nat) + Int.toNat (↑(Prod.fst (Subtype.val a)) : Int) * (1 : Nat))) !=
            Prod.fst (Prod.snd (Subtype.val a)) +
            BitVec.ofInt (64 : Nat) (f ((0 : Nat) + Int.toNat (↑(Prod.fst (Subtype.val a)) : Int) * (1 : Nat)))) =
            false) then
            False
            else
            bif
            decide
            ((tickB (Prod.fst (Prod.snd (Subtype.val a))) (f ((0 : Nat) + Int.toNat (↑(Prod.fst (Subtype.val a)) : Int) * (1 : Nat))) !=
            Prod.fst (Prod.snd (Subtype.val a)) +
            BitVec.ofInt (64 : Nat) (f ((0 : Nat) + Int.toNat (↑(Prod.fst (Subtype.val a)) : Int) * (1 : Nat)))) =
            false) then
            False
            else
            bif
            decide
            ((tickB (Prod.fst (Prod.snd (Subtype.val a))) (f ((0 : Nat) + Int.toNat (↑(Prod.fst (Subtype.val a)) : Int) * (1 : Nat))) !=
            Prod.fst (Prod.snd (Subtype.val a)) +
            BitVec.ofInt (64 : Nat) (f ((0 : Nat) + Int.toNat (↑(Prod.fst (Subtype.val a)) : Int) * (1 : Nat)))) =
            false) then
            False
            else
            bif
            tickB (Prod.fst (Prod.snd (Subtype.val a))) (f ((0 : Nat) + Int.toNat (↑(Prod.fst (Subtype.val a)) : Int) * (1 : Nat))) !=
            Prod.fst (Prod.snd (Subtype.val a)) +
            BitVec.ofInt (64 : Nat) (f ((0 : Nat) + Int.toNat (↑(Prod.fst (Subtype.val a)) : Int) * (1 : Nat))) then
            Q (SV.b false)
            [some (n, CH.sy (U := MapC) (Sy.row off [SV.ri len f] ob)),
            some
            ((0 : Nat),
            CH.ro (U := MapC)
            [SV.str (ByteArray.mk #[(116 : UInt8), (97 : UInt8), (110 : UInt8)]),
            SV.str (ByteArray.mk #[(115 : UInt8), (116 : UInt8), (97 : UInt8), (110 : UInt8)]),
            SV.str (ByteArray.mk #[(116 : UInt8), (97 : UInt8), (110 : UInt8)]),
            SV.str (ByteArray.mk #[(116 : UInt8), (97 : UInt8), (110 : UInt8)]), SV.str (ByteArray.mk #[]),
            SV.str (ByteArray.mk #[(105 : UInt8), (97 : UInt8)]), SV.str (ByteArray.mk #[(105 : UInt8), (110 : UInt8)]),
            SV.str (ByteArray.mk #[(105 : UInt8)]), SV.str (ByteArray.mk #[(105 : UInt8), (97 : UInt8)]),
            SV.str (ByteArray.mk #[(105 : UInt8), (98 : UInt8), (112 : UInt8)]), SV.str (ByteArray.mk #[(105 : UInt8), (97 : UInt8)]),
            SV.str (ByteArray.mk #[(105 : UInt8), (97 : UInt8), (111 : UInt8), (98 : UInt8), (112 : UInt8)]),
            SV.str (ByteArray.mk #[(105 : UInt8)]), SV.str (ByteArray.mk #[(105 : UInt8), (98 : UInt8), (112 : UInt8)]),
            SV.str (ByteArray.mk #[(105 : UInt8)]), SV.str (ByteArray.mk #[(116 : UInt8), (110 : UInt8)]),
            SV.str (ByteArray.mk #[(116 : UInt8), (110 : UInt8)])]
            T0),
            some ((3 : Nat), CH.ro (U := MapC) [SV.r32 (8 : Nat) f1] T1), some ((4 : Nat), CH.ro (U := MapC) [SV.r32 (64 : Nat) f2] T2)]
            else False
            else
            bif tickE (f ((0 : Nat) + Int.toNat (↑(Prod.fst (Subtype.val a)) : Int) * (1 : Nat))) != (0 : Int) then
            Q (SV.b false)
            [some (n, CH.sy (U := MapC) (Sy.row off [SV.ri len f] ob)),
            some
            ((0 : Nat),
            CH.ro (U := MapC)
            [SV.str (ByteArray.mk #[(116 : UInt8), (97 : UInt8), (110 : UInt8)]),
            SV.str (ByteArray.mk #[(115 : UInt8), (116 : UInt8), (97 : UInt8), (110 : UInt8)]),
            SV.str (ByteArray.mk #[(116 : UInt8), (97 : UInt8), (110 : UInt8)]),
            SV.str (ByteArray.mk #[(116 : UInt8), (97 : UInt8), (110 : UInt8)]), SV.str (ByteArray.mk #[]),
            SV.str (ByteArray.mk #[(105 : UInt8), (97 : UInt8)]), SV.str (ByteArray.mk #[(105 : UInt8), (110 : UInt8)]),
            SV.str (ByteArray.mk #[(105 : UInt8)]), SV.str (ByteArray.mk #[(105 : UInt8), (97 : UInt8)]),
            SV.str (ByteArray.mk #[(105 : UInt8), (98 : UInt8), (112 : UInt8)]), SV.str (ByteArray.mk #[(105 : UInt8), (97 : UInt8)]),
            SV.str (ByteArray.mk #[(105 : UInt8), (97 : UInt8), (111 : UInt8), (98 : UInt8), (112 : UInt8)]),
            SV.str (ByteArray.mk #[(105 : UInt8)]), SV.str (ByteArray.mk #[(105 : UInt8), (98 : UInt8), (112 : UInt8)]),
            SV.str (ByteArray.mk #[(105 : UInt8)]), SV.str (ByteArray.mk #[(116 : UInt8), (110 : UInt8)]),
            SV.str (ByteArray.mk #[(116 : UInt8), (110 : UInt8)])]
            T0),
            some ((3 : Nat), CH.ro (U := MapC) [SV.r32 (8 : Nat) f1] T1), some ((4 : Nat), CH.ro (U := MapC) [SV.r32 (64 : Nat) f2] T2)]
            else False
            else
            bif decide ((tickE (f ((0 : Nat) + Int.toNat (↑(Prod.fst (Subtype.val a)) : Int) * (1 : Nat))) != (0 : Int)) = false) then False
            else
            bif tickE (f ((0 : Nat) + Int.toNat (↑(Prod.fst (Subtype.val a)) : Int) * (1 : Nat))) != (0 : Int) then
            Q (SV.b false)
            [some (n, CH.sy (U := MapC) (Sy.row off [SV.ri len f] ob)),
            some
            ((0 : Nat),
            CH.ro (U := MapC)
            [SV.str (ByteArray.mk #[(116 : UInt8), (97 : UInt8), (110 : UInt8)]),
            SV.str (ByteArray.mk #[(115 : UInt8), (116 : UInt8), (97 : UInt8), (110 : UInt8)]),
            SV.str (ByteArray.mk #[(116 : UInt8), (97 : UInt8), (110 : UInt8)]),
            SV.str (ByteArray.mk #[(116 : UInt8), (97 : UInt8), (110 : UInt8)]), SV.str (ByteArray.mk #[]),
            SV.str (ByteArray.mk #[(105 : UInt8), (97 : UInt8)]), SV.str (ByteArray.mk #[(105 : UInt8), (110 : UInt8)]),
            SV.str (ByteArray.mk #[(105 : UInt8)]), SV.str (ByteArray.mk #[(105 : UInt8), (97 : UInt8)]),
            SV.str (ByteArray.mk #[(105 : UInt8), (98 : UInt8), (112 : UInt8)]), SV.str (ByteArray.mk #[(105 : UInt8), (97 : UInt8)]),
            SV.str (ByteArray.mk #[(105 : UInt8), (97 : UInt8), (111 : UInt8), (98 : UInt8), (112 : UInt8)]),
            SV.str (ByteArray.mk #[(105 : UInt8)]), SV.str (ByteArray.mk #[(105 : UInt8), (98 : UInt8), (112 : UInt8)]),
            SV.str (ByteArray.mk #[(105 : UInt8)]), SV.str (ByteArray.mk #[(116 : UInt8), (110 : UInt8)]),
            SV.str (ByteArray.mk #[(116 : UInt8), (110 : UInt8)])]
            T0),
            some ((3 : Nat), CH.ro (U := MapC) [SV.r32 (8 : Nat) f1] T1), some ((4 : Nat), CH.ro (U := MapC) [SV.r32 (64 : Nat) f2] T2)]
            else False
            else
            bif decide ((tickE (f ((0 : Nat) + Int.toNat (↑(Prod.fst (Subtype.val a)) : Int) * (1 : Nat))) != (0 : Int)) = false) then
            bif decide ((tickE (f ((0 : Nat) + Int.toNat (↑(Prod.fst (Subtype.val a)) : Int) * (1 : Nat))) != (0 : Int)) = false) then False
            else
            bif tickE (f ((0 : Nat) + Int.toNat (↑(Prod.fst (Subtype.val a)) : Int) * (1 : Nat))) != (0 : Int) then
            Q (SV.b false)
            [some (n, CH.sy (U := MapC) (Sy.row off [SV.ri len f] ob)),
            some
            ((0 : Nat),
            CH.ro (U := MapC)
            [SV.str (ByteArray.mk #[(116 : UInt8), (97 : UInt8), (110 : UInt8)]),
            SV.str (ByteArray.mk #[(115 : UInt8), (116 : UInt8), (97 : UInt8), (110 : UInt8)]),
            SV.str (ByteArray.mk #[(116 : UInt8), (97 : UInt8), (110 : UInt8)]),
            SV.str (ByteArray.mk #[(116 : UInt8), (97 : UInt8), (110 : UInt8)]), SV.str (ByteArray.mk #[]),
            SV.str (ByteArray.mk #[(105 : UInt8), (97 : UInt8)]), SV.str (ByteArray.mk #[(105 : UInt8), (110 : UInt8)]),
            SV.str (ByteArray.mk #[(105 : UInt8)]), SV.str (ByteArray.mk #[(105 : UInt8), (97 : UInt8)]),
            SV.str (ByteArray.mk #[(105 : UInt8), (98 : UInt8), (112 : UInt8)]), SV.str (ByteArray.mk #[(105 : UInt8), (97 : UInt8)]),
            SV.str (ByteArray.mk #[(105 : UInt8), (97 : UInt8), (111 : UInt8), (98 : UInt8), (112 : UInt8)]),
            SV.str (ByteArray.mk #[(105 : UInt8)]), SV.str (ByteArray.mk #[(105 : UInt8), (98 : UInt8), (112 : UInt8)]),
            SV.str (ByteArray.mk #[(105 : UInt8)]), SV.str (ByteArray.mk #[(116 : UInt8), (110 : UInt8)]),
            SV.str (ByteArray.mk #[(116 : UInt8), (110 : UInt8)])]
            T0),
            some ((3 : Nat), CH.ro (U := MapC) [SV.r32 (8 : Nat) f1] T1), some ((4 : Nat), CH.ro (U := MapC) [SV.r32 (64 : Nat) f2] T2)]
            else False
            else
            bif decide ((tickE (f ((0 : Nat) + Int.toNat (↑(Prod.fst (Subtype.val a)) : Int) * (1 : Nat))) != (0 : Int)) = false) then False
            else
            bif tickE (f ((0 : Nat) + Int.toNat (↑(Prod.fst (Subtype.val a)) : Int) * (1 : Nat))) != (0 : Int) then
            Q (SV.b false)
            [some (n, CH.sy (U := MapC) (Sy.row off [SV.ri len f] ob)),
            some
            ((0 : Nat),
            CH.ro (U := MapC)
            [SV.str (ByteArray.mk #[(116 : UInt8), (97 : UInt8), (110 : UInt8)]),
            SV.str (ByteArray.mk #[(115 : UInt8), (116 : UInt8), (97 : UInt8), (110 : UInt8)]),
            SV.str (ByteArray.mk #[(116 : UInt8), (97 : UInt8), (110 : UInt8)]),
            SV.str (ByteArray.mk #[(116 : UInt8), (97 : UInt8), (110 : UInt8)]), SV.str (ByteArray.mk #[]),
            SV.str (ByteArray.mk #[(105 : UInt8), (97 : UInt8)]), SV.str (ByteArray.mk #[(105 : UInt8), (110 : UInt8)]),
            SV.str (ByteArray.mk #[(105 : UInt8)]), SV.str (ByteArray.mk #[(105 : UInt8), (97 : UInt8)]),
            SV.str (ByteArray.mk #[(105 : UInt8), (98 : UInt8), (112 : UInt8)]), SV.str (ByteArray.mk #[(105 : UInt8), (97 : UInt8)]),
            SV.str (ByteArray.mk #[(105 : UInt8), (97 : UInt8), (111 : UInt8), (98 : UInt8), (112 : UInt8)]),
            SV.str (ByteArray.mk #[(105 : UInt8)]), SV.str (ByteArray.mk #[(105 : UInt8), (98 : UInt8), (112 : UInt8)]),
            SV.str (ByteArray.mk #[(105 : UInt8)]), SV.str (ByteArray.mk #[(116 : UInt8), (110 : UInt8)]),
            SV.str (ByteArray.mk #[(116 : UInt8), (110 : UInt8)])]
            T0),
            some ((3 : Nat), CH.ro (U := MapC) [SV.r32 (8 : Nat) f1] T1), some ((4 : Nat), CH.ro (U := MapC) [SV.r32 (64 : Nat) f2] T2)]
            else False
            else
            bif decide ((tickE (f ((0 : Nat) + Int.toNat (↑(Prod.fst (Subtype.val a)) : Int) * (1 : Nat))) != (0 : Int)) = false) then False
            else
            bif decide ((tickE (f ((0 : Nat) + Int.toNat (↑(Prod.fst (Subtype.val a)) : Int) * (1 : Nat))) != (0 : Int)) = false) then
            bif decide ((tickE (f ((0 : Nat) + Int.toNat (↑(Prod.fst (Subtype.val a)) : Int) * (1 : Nat))) != (0 : Int)) = false) then False
            else
            bif tickE (f ((0 : Nat) + Int.toNat (↑(Prod.fst (Subtype.val a)) : Int) * (1 : Nat))) != (0 : Int) then
            Q (SV.b false)
            [some (n, CH.sy (U := MapC) (Sy.row off [SV.ri len f] ob)),
            some
            ((0 : Nat),
            CH.ro (U := MapC)
            [SV.str (ByteArray.mk #[(116 : UInt8), (97 : UInt8), (110 : UInt8)]),
            SV.str (ByteArray.mk #[(115 : UInt8), (116 : UInt8), (97 : UInt8), (110 : UInt8)]),
            SV.str (ByteArray.mk #[(116 : UInt8), (97 : UInt8), (110 : UInt8)]),
            SV.str (ByteArray.mk #[(116 : UInt8), (97 : UInt8), (110 : UInt8)]), SV.str (ByteArray.mk #[]),
            SV.str (ByteArray.mk #[(105 : UInt8), (97 : UInt8)]), SV.str (ByteArray.mk #[(105 : UInt8), (110 : UInt8)]),
            SV.str (ByteArray.mk #[(105 : UInt8)]), SV.str (ByteArray.mk #[(105 : UInt8), (97 : UInt8)]),
            SV.str (ByteArray.mk #[(105 : UInt8), (98 : UInt8), (112 : UInt8)]), SV.str (ByteArray.mk #[(105 : UInt8), (97 : UInt8)]),
            SV.str (ByteArray.mk #[(105 : UInt8), (97 : UInt8), (111 : UInt8), (98 : UInt8), (112 : UInt8)]),
            SV.str (ByteArray.mk #[(105 : UInt8)]), SV.str (ByteArray.mk #[(105 : UInt8), (98 : UInt8), (112 : UInt8)]),
            SV.str (ByteArray.mk #[(105 : UInt8)]), SV.str (ByteArray.mk #[(116 : UInt8), (110 : UInt8)]),
            SV.str (ByteArray.mk #[(116 : UInt8), (110 : UInt8)])]
            T0),
            some ((3 : Nat), CH.ro (U := MapC) [SV.r32 (8 : Nat) f1] T1), some ((4 : Nat), CH.ro (U := MapC) [SV.r32 (64 : Nat) f2] T2)]
            else False
            else
            bif decide ((tickE (f ((0 : Nat) + Int.toNat (↑(Prod.fst (Subtype.val a)) : Int) * (1 : Nat))) != (0 : Int)) = false) then False
            else
            bif tickE (f ((0 : Nat) + Int.toNat (↑(Prod.fst (Subtype.val a)) : Int) * (1 : Nat))) != (0 : Int) then
            Q (SV.b false)
            [some (n, CH.sy (U := MapC) (Sy.row off [SV.ri len f] ob)),
            some
            ((0 : Nat),
            CH.ro (U := MapC)
            [SV.str (ByteArray.mk #[(116 : UInt8), (97 : UInt8), (110 : UInt8)]),
            SV.str (ByteArray.mk #[(115 : UInt8), (116 : UInt8), (97 : UInt8), (110 : UInt8)]),
            SV.str (ByteArray.mk #[(116 : UInt8), (97 : UInt8), (110 : UInt8)]),
            SV.str (ByteArray.mk #[(116 : UInt8), (97 : UInt8), (110 : UInt8)]), SV.str (ByteArray.mk #[]),
            SV.str (ByteArray.mk #[(105 : UInt8), (97 : UInt8)]), SV.str (ByteArray.mk #[(105 : UInt8), (110 : UInt8)]),
            SV.str (ByteArray.mk #[(105 : UInt8)]), SV.str (ByteArray.mk #[(105 : UInt8), (97 : UInt8)]),
            SV.str (ByteArray.mk #[(105 : UInt8), (98 : UInt8), (112 : UInt8)]), SV.str (ByteArray.mk #[(105 : UInt8), (97 : UInt8)]),
            SV.str (ByteArray.mk #[(105 : UInt8), (97 : UInt8), (111 : UInt8), (98 : UInt8), (112 : UInt8)]),
            SV.str (ByteArray.mk #[(105 : UInt8)]), SV.str (ByteArray.mk #[(105 : UInt8), (98 : UInt8), (112 : UInt8)]),
            SV.str (ByteArray.mk #[(105 : UInt8)]), SV.str (ByteArray.mk #[(116 : UInt8), (110 : UInt8)]),
            SV.str (ByteArray.mk #[(116 : UInt8), (110 : UInt8)])]
            T0),
            some ((3 : Nat), CH.ro (U := MapC) [SV.r32 (8 : Nat) f1] T1), some ((4 : Nat), CH.ro (U := MapC) [SV.r32 (64 : Nat) f2] T2)]
            else False
            else
            bif decide (f ((0 : Nat) + Int.toNat (↑(Prod.fst (Subtype.val a)) : Int) * (1 : Nat)) < (0 : Int)) then
            y = y ∧
            bif decide ((tickE (f ((0 : Nat) + Int.toNat (↑(Prod.fst (Subtype.val a)) : Int) * (1 : Nat))) != (1 : Int)) = false) then
            bif decide ((tickE (f ((0 : Nat) + Int.toNat (↑(Prod.fst (Subtype.val a)) : Int) * (1 : Nat))) != (1 : Int)) = false) then
            ∃ (h : Prod.fst (Prod.snd (Prod.snd (Prod.snd (Prod.snd (Subtype.val a))))) = Prod.fst (Prod.snd (Prod.snd (Prod.snd (Prod.snd (Subtype.val a)))))),
            ∀ (y : Unit),
            bif decide ((tickE (f ((0 : Nat) + Int.toNat (↑(Prod.fst (Subtype.val a)) : Int) * (1 : Nat))) != (1 : Int)) = false) then
            bif decide ((tickE (f ((0 : Nat) + Int.toNat (↑(Prod.fst (Subtype.val a)) : Int) * (1 : Nat))) != (1 : Int)) = false) then
            bif tickE (f ((0 : Nat) + Int.toNat (↑(Prod.fst (Subtype.val a)) : Int) * (1 : Nat))) != (1 : Int) then
            Q (SV.b false)
            [some (n, CH.sy (U := MapC) (Sy.row off [SV.ri len f] ob)),
            some
            ((0 : Nat),
            CH.ro (U := MapC)
            [SV.str (ByteArray.mk #[(116 : UInt8), (97 : UInt8), (110 : UInt8)]),
            SV.str (ByteArray.mk #[(115 : UInt8), (116 : UInt8), (97 : UInt8), (110 : UInt8)]),
            SV.str (ByteArray.mk #[(116 : UInt8), (97 : UInt8), (110 : UInt8)]),
            SV.str (ByteArray.mk #[(116 : UInt8), (97 : UInt8), (110 : UInt8)]), SV.str (ByteArray.mk #[]),
            SV.str (ByteArray.mk #[(105 : UInt8), (97 : UInt8)]), SV.str (ByteArray.mk #[(105 : UInt8), (110 : UInt8)]),
            SV.str (ByteArray.mk #[(105 : UInt8)]), SV.str (ByteArray.mk #[(105 : UInt8), (97 : UInt8)]),
            SV.str (ByteArray.mk #[(105 : UInt8), (98 : UInt8), (112 : UInt8)]), SV.str (ByteArray.mk #[(105 : UInt8), (97 : UInt8)]),
            SV.str (ByteArray.mk #[(105 : UInt8), (97 : UInt8), (111 : UInt8), (98 : UInt8), (112 : UInt8)]),
            SV.str (ByteArray.mk #[(105 : UInt8)]), SV.str (ByteArray.mk #[(105 : UInt8), (98 : UInt8), (112 : UInt8)]),
            SV.str (ByteArray.mk #[(105 : UInt8)]), SV.str (ByteArray.mk #[(116 : UInt8), (110 : UInt8)]),
            SV.str (ByteArray.mk #[(116 : UInt8), (110 : UInt8)])]
            T0),
            some ((3 : Nat), CH.ro (U := MapC) [SV.r32 (8 : Nat) f1] T1), some ((4 : Nat), CH.ro (U := MapC) [SV.r32 (64 : Nat) f2] T2)]
            else
            bif
            tickB (Prod.fst (Prod.snd (Subtype.val a))) (f ((0 : Nat) + Int.toNat (↑(Prod.fst (Subtype.val a)) : Int) * (1 : Nat))) !=
            Prod.fst (Prod.snd (Subtype.val a)) then
            Q (SV.b false)
            [some (n, CH.sy (U := MapC) (Sy.row off [SV.ri len f] ob)),
            some
            ((0 : Nat),
            CH.ro (U := MapC)
            [SV.str (ByteArray.mk #[(116 : UInt8), (97 : UInt8), (110 : UInt8)]),
            SV.str (ByteArray.mk #[(115 : UInt8), (116 : UInt8), (97 : UInt8), (110 : UInt8)]),
            SV.str (ByteArray.mk #[(116 : UInt8), (97 : UInt8), (110 : UInt8)]),
            SV.str (ByteArray.mk #[(116 : UInt8), (97 : UInt8), (110 : UInt8)]), SV.str (ByteArray.mk #[]),
            SV.str (ByteArray.mk #[(105 : UInt8), (97 : UInt8)]), SV.str (ByteArray.mk #[(105 : UInt8), (110 : UInt8)]),
            SV.str (ByteArray.mk #[(105 : UInt8)]), SV.str (ByteArray.mk #[(105 : UInt8), (97 : UInt8)]),
            SV.str (ByteArray.mk #[(105 : UInt8), (98 : UInt8), (112 : UInt8)]), SV.str (ByteArray.mk #[(105 : UInt8), (97 : UInt8)]),
            SV.str (ByteArray.mk #[(105 : UInt8), (97 : UInt8), (111 : UInt8), (98 : UInt8), (112 : UInt8)]),
            SV.str (ByteArray.mk #[(105 : UInt8)]), SV.str (ByteArray.mk #[(105 : UInt8), (98 : UInt8), (112 : UInt8)]),
            SV.str (ByteArray.mk #[(105 : UInt8)]), SV.str (ByteArray.mk #[(116 : UInt8), (110 : UInt8)]),
            SV.str (ByteArray.mk #[(116 : UInt8), (110 : UInt8)])]
            T0),
            some ((3 : Nat), CH.ro (U := MapC) [SV.r32 (8 : Nat) f1] T1), some ((4 : Nat), CH.ro (U := MapC) [SV.r32 (64 : Nat) f2] T2)]
            else
            ∃ (a' :
            LInv.α
            (LInv.mk (LawA len) [(3 : Nat), (6 : Nat), (27 : Nat), (28 : Nat), (29 : Nat)]
            [(1 : Nat), (3021 : Nat), (1000000 : Nat), (1000003 : Nat), (1000004 : Nat)]
            (fun (a : LawA len) ↦
            ([((3 : Nat), SV.ptr (3021 : Nat) (Prod.fst (Prod.snd (Prod.snd (Prod.snd (Prod.snd (Subtype.val a)))))) (0 : Nat) (0 : Nat)),
            ((6 : Nat), SV.u64 (Prod.fst (Prod.snd (Subtype.val a)))), ((27 : Nat), SV.slc (1 : Nat) n off (0 : Nat) len cap),
            ((28 : Nat), SV.i (↑len : Int)), ((29 : Nat), SV.i (↑(Prod.fst (Subtype.val a)) : Int))],
            [((1 : Nat), some (n, CH.sy (U := MapC) (Sy.row off [SV.ri len f] ob))),
            ((3021 : Nat),
            some
            (Prod.fst (Prod.snd (Prod.snd (Prod.snd (Prod.snd (Subtype.val a))))),
            machC (Prod.snd (Prod.snd (Prod.snd (Prod.snd (Prod.snd (Subtype.val a)))))) (Prod.fst (Prod.snd (Subtype.val a)))
            (Prod.fst (Prod.snd (Prod.snd (Subtype.val a)))) (Prod.fst (Prod.snd (Prod.snd (Prod.snd (Subtype.val a))))))),
            ((1000000 : Nat), some ((0 : Nat), CH.ro (U := MapC) (List.map SV.str signsL) T0)),
            ((1000003 : Nat), some ((3 : Nat), CH.ro (U := MapC) [SV.r32 (8 : Nat) f1] T1)),
            ((1000004 : Nat), some ((4 : Nat), CH.ro (U := MapC) [SV.r32 (64 : Nat) f2] T2))]))
            fun (a : LawA len) ↦ len - Prod.fst (Subtype.val a))),
            ([((3 : Nat), some (SV.ptr (3021 : Nat) (Prod.fst (Prod.snd (Prod.snd (Prod.snd (Prod.snd (Subtype.val a)))))) (0 : Nat) (0 : Nat))),
            ((6 : Nat), some (SV.u64 (Prod.fst (Prod.snd (Subtype.val a))))), ((27 : Nat), some (SV.slc (1 : Nat) n off (0 : Nat) len cap)),
            ((28 : Nat), some (SV.i (↑len : Int))),
            ((29 : Nat), some (SV.i (IntKind.wrap IntKind.i64 ((↑(Prod.fst (Subtype.val a)) : Int) + (1 : Int)))))] =
            [((3 : Nat), some (SV.ptr (3021 : Nat) (Prod.fst (Prod.snd (Prod.snd (Prod.snd (Prod.snd (Subtype.val a')))))) (0 : Nat) (0 : Nat))),
            ((6 : Nat), some (SV.u64 (Prod.fst (Prod.snd (Subtype.val a'))))), ((27 : Nat), some (SV.slc (1 : Nat) n off (0 : Nat) len cap)),
            ((28 : Nat), some (SV.i (↑len : Int))), ((29 : Nat), some (SV.i (↑(Prod.fst (Subtype.val a')) : Int)))] ∧
            [((1 : Nat), some (n, CH.sy (U := MapC) (Sy.row off [SV.ri len f] ob))),
            ((3021 : Nat),
            some
            (Prod.fst (Prod.snd (Prod.snd (Prod.snd (Prod.snd (Subtype.val a))))),
            CH.cells (U := MapC)
            [SV.ptr (0 : Nat) (Prod.snd (Prod.snd (Prod.snd (Prod.snd (Prod.snd (Subtype.val a)))))) (0 : Nat) (0 : Nat),
            SV.u64
            (tickB (Prod.fst (Prod.snd (Subtype.val a))) (f ((0 : Nat) + Int.toNat (↑(Prod.fst (Subtype.val a)) : Int) * (1 : Nat)))),
            SV.nils,
            SV.i
            (tickD (Prod.fst (Prod.snd (Prod.snd (Subtype.val a))))
            (f ((0 : Nat) + Int.toNat (↑(Prod.fst (Subtype.val a)) : Int) * (1 : Nat)))),
            SV.i
            (tickR (Prod.fst (Prod.snd (Prod.snd (Prod.snd (Subtype.val a)))))
            (f ((0 : Nat) + Int.toNat (↑(Prod.fst (Subtype.val a)) : Int) * (1 : Nat))))]
            (91 : TypeId))),
            ((1000000 : Nat),
            some
            ((0 : Nat),
            CH.ro (U := MapC)
            [SV.str (ByteArray.mk #[(116 : UInt8), (97 : UInt8), (110 : UInt8)]),
            SV.str (ByteArray.mk #[(115 : UInt8), (116 : UInt8), (97 : UInt8), (110 : UInt8)]),
            SV.str (ByteArray.mk #[(116 : UInt8), (97 : UInt8), (110 : UInt8)]),
            SV.str (ByteArray.mk #[(116 : UInt8), (97 : UInt8), (110 : UInt8)]), SV.str (ByteArray.mk #[]),
            SV.str (ByteArray.mk #[(105 : UInt8), (97 : UInt8)]), SV.str (ByteArray.mk #[(105 : UInt8), (110 : UInt8)]),
            SV.str (ByteArray.mk #[(105 : UInt8)]), SV.str (ByteArray.mk #[(105 : UInt8), (97 : UInt8)]),
            SV.str (ByteArray.mk #[(105 : UInt8), (98 : UInt8), (112 : UInt8)]), SV.str (ByteArray.mk #[(105 : UInt8), (97 : UInt8)]),
            SV.str (ByteArray.mk #[(105 : UInt8), (97 : UInt8), (111 : UInt8), (98 : UInt8), (112 : UInt8)]),
            SV.str (ByteArray.mk #[(105 : UInt8)]), SV.str (ByteArray.mk #[(105 : UInt8), (98 : UInt8), (112 : UInt8)]),
            SV.str (ByteArray.mk #[(105 : UInt8)]), SV.str (ByteArray.mk #[(116 : UInt8), (110 : UInt8)]),
            SV.str (ByteArray.mk #[(116 : UInt8), (110 : UInt8)])]
            T0)),
            ((1000003 : Nat), some ((3 : Nat), CH.ro (U := MapC) [SV.r32 (8 : Nat) f1] T1)),
            ((1000004 : Nat), some ((4 : Nat), CH.ro (U := MapC) [SV.r32 (64 : Nat) f2] T2))] =
            [((1 : Nat), some (n, CH.sy (U := MapC) (Sy.row off [SV.ri len f] ob))),
            ((3021 : Nat),
            some
            (Prod.fst (Prod.snd (Prod.snd (Prod.snd (Prod.snd (Subtype.val a'))))),
            CH.cells (U := MapC)
            [SV.ptr (0 : Nat) (Prod.snd (Prod.snd (Prod.snd (Prod.snd (Prod.snd (Subtype.val a')))))) (0 : Nat) (0 : Nat),
            SV.u64 (Prod.fst (Prod.snd (Subtype.val a'))), SV.nils, SV.i (Prod.fst (Prod.snd (Prod.snd (Subtype.val a')))),
            SV.i (Prod.fst (Prod.snd (Prod.snd (Prod.snd (Subtype.val a')))))]
            (91 : TypeId))),
            ((1000000 : Nat),
            some
            ((0 : Nat),
            CH.ro (U := MapC)
            [SV.str (ByteArray.mk #[(116 : UInt8), (97 : UInt8), (110 : UInt8)]),
            SV.str (ByteArray.mk #[(115 : UInt8), (116 : UInt8), (97 : UInt8), (110 : UInt8)]),
            SV.str (ByteArray.mk #[(116 : UInt8), (97 : UInt8), (110 : UInt8)]),
            SV.str (ByteArray.mk #[(116 : UInt8), (97 : UInt8), (110 : UInt8)]), SV.str (ByteArray.mk #[]),
            SV.str (ByteArray.mk #[(105 : UInt8), (97 : UInt8)]), SV.str (ByteArray.mk #[(105 : UInt8), (110 : UInt8)]),
            SV.str (ByteArray.mk #[(105 : UInt8)]), SV.str (ByteArray.mk #[(105 : UInt8), (97 : UInt8)]),
            SV.str (ByteArray.mk #[(105 : UInt8), (98 : UInt8), (112 : UInt8)]), SV.str (ByteArray.mk #[(105 : UInt8), (97 : UInt8)]),
            SV.str (ByteArray.mk #[(105 : UInt8), (97 : UInt8), (111 : UInt8), (98 : UInt8), (112 : UInt8)]),
            SV.str (ByteArray.mk #[(105 : UInt8)]), SV.str (ByteArray.mk #[(105 : UInt8), (98 : UInt8), (112 : UInt8)]),
            SV.str (ByteArray.mk #[(105 : UInt8)]), SV.str (ByteArray.mk #[(116 : UInt8), (110 : UInt8)]),
            SV.str (ByteArray.mk #[(116 : UInt8), (110 : UInt8)])]
            T0)),
            ((1000003 : Nat), some ((3 : Nat), CH.ro (U := MapC) [SV.r32 (8 : Nat) f1] T1)),
            ((1000004 : Nat), some ((4 : Nat), CH.ro (U := MapC) [SV.r32 (64 : Nat) f2] T2))]) ∧
            len - Prod.fst (Subtype.val a') < len - Prod.fst (Subtype.val a)
            else
            bif tickE (f ((0 : Nat) + Int.toNat (↑(Prod.fst (Subtype.val a)) : Int) * (1 : Nat))) != (1 : Int) then
            Q (SV.b false)
            [some (n, CH.sy (U := MapC) (Sy.row off [SV.ri len f] ob)),
            some
            ((0 : Nat),
            CH.ro (U := MapC)
            [SV.str (ByteArray.mk #[(116 : UInt8), (97 : UInt8), (110 : UInt8)]),
            SV.str (ByteArray.mk #[(115 : UInt8), (116 : UInt8), (97 : UInt8), (110 : UInt8)]),
            SV.str (ByteArray.mk #[(116 : UInt8), (97 : UInt8), (110 : UInt8)]),
            SV.str (ByteArray.mk #[(116 : UInt8), (97 : UInt8), (110 : UInt8)]), SV.str (ByteArray.mk #[]),
            SV.str (ByteArray.mk #[(105 : UInt8), (97 : UInt8)]), SV.str (ByteArray.mk #[(105 : UInt8), (110 : UInt8)]),
            SV.str (ByteArray.mk #[(105 : UInt8)]), SV.str (ByteArray.mk #[(105 : UInt8), (97 : UInt8)]),
            SV.str (ByteArray.mk #[(105 : UInt8), (98 : UInt8), (112 : UInt8)]), SV.str (ByteArray.mk #[(105 : UInt8), (97 : UInt8)]),
            SV.str (ByteArray.mk #[(105 : UInt8), (97 : UInt8), (111 : UInt8), (98 : UInt8), (112 : UInt8)]),
            SV.str (ByteArray.mk #[(105 : UInt8)]), SV.str (ByteArray.mk #[(105 : UInt8), (98 : UInt8), (112 : UInt8)]),
            SV.str (ByteArray.mk #[(105 : UInt8)]), SV.str (ByteArray.mk #[(116 : UInt8), (110 : UInt8)]),
            SV.str (ByteArray.mk #[(116 : UInt8), (110 : UInt8)])]
            T0),
            some ((3 : Nat), CH.ro (U := MapC) [SV.r32 (8 : Nat) f1] T1), some ((4 : Nat), CH.ro (U := MapC) [SV.r32 (64 : Nat) f2] T2)]
            else False
            else
            bif decide ((tickE (f ((0 : Nat) + Int.toNat (↑(Prod.fst (Subtype.val a)) : Int) * (1 : Nat))) != (1 : Int)) = false) then False
            else
            bif tickE (f ((0 : Nat) + Int.toNat (↑(Prod.fst (Subtype.val a)) : Int) * (1 : Nat))) != (1 : Int) then
            Q (SV.b false)
            [some (n, CH.sy (U := MapC) (Sy.row off [SV.ri len f] ob)),
            some
            ((0 : Nat),
            CH.ro (U := MapC)
            [SV.str (ByteArray.mk #[(116 : UInt8), (97 : UInt8), (110 : UInt8)]),
            SV.str (ByteArray.mk #[(115 : UInt8), (116 : UInt8), (97 : UInt8), (110 : UInt8)]),
            SV.str (ByteArray.mk #[(116 : UInt8), (97 : UInt8), (110 : UInt8)]),
            SV.str (ByteArray.mk #[(116 : UInt8), (97 : UInt8), (110 : UInt8)]), SV.str (ByteArray.mk #[]),
            SV.str (ByteArray.mk #[(105 : UInt8), (97 : UInt8)]), SV.str (ByteArray.mk #[(105 : UInt8), (110 : UInt8)]),
            SV.str (ByteArray.mk #[(105 : UInt8)]), SV.str (ByteArray.mk #[(105 : UInt8), (97 : UInt8)]),
            SV.str (ByteArray.mk #[(105 : UInt8), (98 : UInt8), (112 : UInt8)]), SV.str (ByteArray.mk #[(105 : UInt8), (97 : UInt8)]),
            SV.str (ByteArray.mk #[(105 : UInt8), (97 : UInt8), (111 : UInt8), (98 : UInt8), (112 : UInt8)]),
            SV.str (ByteArray.mk #[(105 : UInt8)]), SV.str (ByteArray.mk #[(105 : UInt8), (98 : UInt8), (112 : UInt8)]),
            SV.str (ByteArray.mk #[(105 : UInt8)]), SV.str (ByteArray.mk #[(116 : UInt8), (110 : UInt8)]),
            SV.str (ByteArray.mk #[(116 : UInt8), (110 : UInt8)])]
            T0),
            some ((3 : Nat), CH.ro (U := MapC) [SV.r32 (8 : Nat) f1] T1), some ((4 : Nat), CH.ro (U := MapC) [SV.r32 (64 : Nat) f2] T2)]
            else False
            else
            bif decide ((tickE (f ((0 : Nat) + Int.toNat (↑(Prod.fst (Subtype.val a)) : Int) * (1 : Nat))) != (1 : Int)) = false) then
            bif decide ((tickE (f ((0 : Nat) + Int.toNat (↑(Prod.fst (Subtype.val a)) : Int) * (1 : Nat))) != (1 : Int)) = false) then False
            else
            bif tickE (f ((0 : Nat) + Int.toNat (↑(Prod.fst (Subtype.val a)) : Int) * (1 : Nat))) != (1 : Int) then
            Q (SV.b false)
            [some (n, CH.sy (U := MapC) (Sy.row off [SV.ri len f] ob)),
            some
            ((0 : Nat),
            CH.ro (U := MapC)
            [SV.str (ByteArray.mk #[(116 : UInt8), (97 : UInt8), (110 : UInt8)]),
            SV.str (ByteArray.mk #[(115 : UInt8), (116 : UInt8), (97 : UInt8), (110 : UInt8)]),
            SV.str (ByteArray.mk #[(116 : UInt8), (97 : UInt8), (110 : UInt8)]), SV.str (ByteArray.mk #[(116 : UInt8), (97 : UInt8), (110 : UInt8)]),
            SV.str (ByteArray.mk #[]), SV.str (ByteArray.mk #[(105 : UInt8), (97 : UInt8)]), SV.str (ByteArray.mk #[(105 : UInt8), (110 : UInt8)]),
            SV.str (ByteArray.mk #[(105 : UInt8)]), SV.str (ByteArray.mk #[(105 : UInt8), (97 : UInt8)]),
            SV.str (ByteArray.mk #[(105 : UInt8), (98 : UInt8), (112 : UInt8)]), SV.str (ByteArray.mk #[(105 : UInt8), (97 : UInt8)]),
            SV.str (ByteArray.mk #[(105 : UInt8), (97 : UInt8), (111 : UInt8), (98 : UInt8), (112 : UInt8)]), SV.str (ByteArray.mk #[(105 : UInt8)]),
            SV.str (ByteArray.mk #[(105 : UInt8), (98 : UInt8), (112 : UInt8)]), SV.str (ByteArray.mk #[(105 : UInt8)]),
            SV.str (ByteArray.mk #[(116 : UInt8), (110 : UInt8)]), SV.str (ByteArray.mk #[(116 : UInt8), (110 : UInt8)])]
            T0),
            some ((3 : Nat), CH.ro (U := MapC) [SV.r32 (8 : Nat) f1] T1), some ((4 : Nat), CH.ro (U := MapC) [SV.r32 (64 : Nat) f2] T2)]
            else False
            else
            bif decide ((tickE (f ((0 : Nat) + Int.toNat (↑(Prod.fst (Subtype.val a)) : Int) * (1 : Nat))) != (1 : Int)) = false) then False
            else
            bif tickE (f ((0 : Nat) + Int.toNat (↑(Prod.fst (Subtype.val a)) : Int) * (1 : Nat))) != (1 : Int) then
            Q (SV.b false)
            [some (n, CH.sy (U := MapC) (Sy.row off [SV.ri len f] ob)),
            some
            ((0 : Nat),
            CH.ro (U := MapC)
            [SV.str (ByteArray.mk #[(116 : UInt8), (97 : UInt8), (110 : UInt8)]),
            SV.str (ByteArray.mk #[(115 : UInt8), (116 : UInt8), (97 : UInt8), (110 : UInt8)]),
            SV.str (ByteArray.mk #[(116 : UInt8), (97 : UInt8), (110 : UInt8)]), SV.str (ByteArray.mk #[(116 : UInt8), (97 : UInt8), (110 : UInt8)]),
            SV.str (ByteArray.mk #[]), SV.str (ByteArray.mk #[(105 : UInt8), (97 : UInt8)]), SV.str (ByteArray.mk #[(105 : UInt8), (110 : UInt8)]),
            SV.str (ByteArray.mk #[(105 : UInt8)]), SV.str (ByteArray.mk #[(105 : UInt8), (97 : UInt8)]),
            SV.str (ByteArray.mk #[(105 : UInt8), (98 : UInt8), (112 : UInt8)]), SV.str (ByteArray.mk #[(105 : UInt8), (97 : UInt8)]),
            SV.str (ByteArray.mk #[(105 : UInt8), (97 : UInt8), (111 : UInt8), (98 : UInt8), (112 : UInt8)]), SV.str (ByteArray.mk #[(105 : UInt8)]),
            SV.str (ByteArray.mk #[(105 : UInt8), (98 : UInt8), (112 : UInt8)]), SV.str (ByteArray.mk #[(105 : UInt8)]),
            SV.str (ByteArray.mk #[(116 : UInt8), (110 : UInt8)]), SV.str (ByteArray.mk #[(116 : UInt8), (110 : UInt8)])]
            T0),
            some ((3 : Nat), CH.ro (U := MapC) [SV.r32 (8 : Nat) f1] T1), some ((4 : Nat), CH.ro (U := MapC) [SV.r32 (64 : Nat) f2] T2)]
            else False
            else
            bif decide ((tickE (f ((0 : Nat) + Int.toNat (↑(Prod.fst (Subtype.val a)) : Int) * (1 : Nat))) != (1 : Int)) = false) then False
            else
            bif decide ((tickE (f ((0 : Nat) + Int.toNat (↑(Prod.fst (Subtype.val a)) : Int) * (1 : Nat))) != (1 : Int)) = false) then
            bif decide ((tickE (f ((0 : Nat) + Int.toNat (↑(Prod.fst (Subtype.val a)) : Int) * (1 : Nat))) != (1 : Int)) = false) then False
            else
            bif tickE (f ((0 : Nat) + Int.toNat (↑(Prod.fst (Subtype.val a)) : Int) * (1 : Nat))) != (1 : Int) then
            Q (SV.b false)
            [some (n, CH.sy (U := MapC) (Sy.row off [SV.ri len f] ob)),
            some
            ((0 : Nat),
            CH.ro (U := MapC)
            [SV.str (ByteArray.mk #[(116 : UInt8), (97 : UInt8), (110 : UInt8)]),
            SV.str (ByteArray.mk #[(115 : UInt8), (116 : UInt8), (97 : UInt8), (110 : UInt8)]),
            SV.str (ByteArray.mk #[(116 : UInt8), (97 : UInt8), (110 : UInt8)]), SV.str (ByteArray.mk #[(116 : UInt8), (97 : UInt8), (110 : UInt8)]),
            SV.str (ByteArray.mk #[]), SV.str (ByteArray.mk #[(105 : UInt8), (97 : UInt8)]), SV.str (ByteArray.mk #[(105 : UInt8), (110 : UInt8)]),
            SV.str (ByteArray.mk #[(105 : UInt8)]), SV.str (ByteArray.mk #[(105 : UInt8), (97 : UInt8)]),
            SV.str (ByteArray.mk #[(105 : UInt8), (98 : UInt8), (112 : UInt8)]), SV.str (ByteArray.mk #[(105 : UInt8), (97 : UInt8)]),
            SV.str (ByteArray.mk #[(105 : UInt8), (97 : UInt8), (111 : UInt8), (98 : UInt8), (112 : UInt8)]), SV.str (ByteArray.mk #[(105 : UInt8)]),
            SV.str (ByteArray.mk #[(105 : UInt8), (98 : UInt8), (112 : UInt8)]), SV.str (ByteArray.mk #[(105 : UInt8)]),
            SV.str (ByteArray.mk #[(116 : UInt8), (110 : UInt8)]), SV.str (ByteArray.mk #[(116 : UInt8), (110 : UInt8)])]
            T0),
            some ((3 : Nat), CH.ro (U := MapC) [SV.r32 (8 : Nat) f1] T1), some ((4 : Nat), CH.ro (U := MapC) [SV.r32 (64 : Nat) f2] T2)]
            else False
            else
            bif decide ((tickE (f ((0 : Nat) + Int.toNat (↑(Prod.fst (Subtype.val a)) : Int) * (1 : Nat))) != (1 : Int)) = false) then False
            else
            bif tickE (f ((0 : Nat) + Int.toNat (↑(Prod.fst (Subtype.val a)) : Int) * (1 : Nat))) != (1 : Int) then
            Q (SV.b false)
            [some (n, CH.sy (U := MapC) (Sy.row off [SV.ri len f] ob)),
            some
            ((0 : Nat),
            CH.ro (U := MapC)
            [SV.str (ByteArray.mk #[(116 : UInt8), (97 : UInt8), (110 : UInt8)]),
            SV.str (ByteArray.mk #[(115 : UInt8), (116 : UInt8), (97 : UInt8), (110 : UInt8)]),
            SV.str (ByteArray.mk #[(116 : UInt8), (97 : UInt8), (110 : UInt8)]), SV.str (ByteArray.mk #[(116 : UInt8), (97 : UInt8), (110 : UInt8)]),
            SV.str (ByteArray.mk #[]), SV.str (ByteArray.mk #[(105 : UInt8), (97 : UInt8)]), SV.str (ByteArray.mk #[(105 : UInt8), (110 : UInt8)]),
            SV.str (ByteArray.mk #[(105 : UInt8)]), SV.str (ByteArray.mk #[(105 : UInt8), (97 : UInt8)]),
            SV.str (ByteArray.mk #[(105 : UInt8), (98 : UInt8), (112 : UInt8)]), SV.str (ByteArray.mk #[(105 : UInt8), (97 : UInt8)]),
            SV.str (ByteArray.mk #[(105 : UInt8), (97 : UInt8), (111 : UInt8), (98 : UInt8), (112 : UInt8)]), SV.str (ByteArray.mk #[(105 : UInt8)]),
            SV.str (ByteArray.mk #[(105 : UInt8), (98 : UInt8), (112 : UInt8)]), SV.str (ByteArray.mk #[(105 : UInt8)]),
            SV.str (ByteArray.mk #[(116 : UInt8), (110 : UInt8)]), SV.str (ByteArray.mk #[(116 : UInt8), (110 : UInt8)])]
            T0),
            some ((3 : Nat), CH.ro (U := MapC) [SV.r32 (8 : Nat) f1] T1), some ((4 : Nat), CH.ro (U := MapC) [SV.r32 (64 : Nat) f2] T2)]
            else False
            else False
            else
            bif decide (decide (f ((0 : Nat) + Int.toNat (↑(Prod.fst (Subtype.val a)) : Int) * (1 : Nat)) < (0 : Int)) = false) then False
            else
            bif decide (f ((0 : Nat) + Int.toNat (↑(Prod.fst (Subtype.val a)) : Int) * (1 : Nat)) < (0 : Int)) then
            y = y ∧
            bif decide ((tickE (f ((0 : Nat) + Int.toNat (↑(Prod.fst (Subtype.val a)) : Int) * (1 : Nat))) != (1 : Int)) = false) then
            bif decide ((tickE (f ((0 : Nat) + Int.toNat (↑(Prod.fst (Subtype.val a)) : Int) * (1 : Nat))) != (1 : Int)) = false) then
            ∃ (h : Prod.fst (Prod.snd (Prod.snd (Prod.snd (Prod.snd (Subtype.val a))))) = Prod.fst (Prod.snd (Prod.snd (Prod.snd (Prod.snd (Subtype.val a)))))),
            ∀ (y : Unit),
            bif decide ((tickE (f ((0 : Nat) + Int.toNat (↑(Prod.fst (Subtype.val a)) : Int) * (1 : Nat))) != (1 : Int)) = false) then
            bif decide ((tickE (f ((0 : Nat) + Int.toNat (↑(Prod.fst (Subtype.val a)) : Int) * (1 : Nat))) != (1 : Int)) = false) then
            bif tickE (f ((0 : Nat) + Int.toNat (↑(Prod.fst (Subtype.val a)) : Int) * (1 : Nat))) != (1 : Int) then
            Q (SV.b false)
            [some (n, CH.sy (U := MapC) (Sy.row off [SV.ri len f] ob)),
            some
            ((0 : Nat),
            CH.ro (U := MapC)
            [SV.str (ByteArray.mk #[(116 : UInt8), (97 : UInt8), (110 : UInt8)]),
            SV.str (ByteArray.mk #[(115 : UInt8), (116 : UInt8), (97 : UInt8), (110 : UInt8)]),
            SV.str (ByteArray.mk #[(116 : UInt8), (97 : UInt8), (110 : UInt8)]),
            SV.str (ByteArray.mk #[(116 : UInt8), (97 : UInt8), (110 : UInt8)]), SV.str (ByteArray.mk #[]),
            SV.str (ByteArray.mk #[(105 : UInt8), (97 : UInt8)]), SV.str (ByteArray.mk #[(105 : UInt8), (110 : UInt8)]),
            SV.str (ByteArray.mk #[(105 : UInt8)]), SV.str (ByteArray.mk #[(105 : UInt8), (97 : UInt8)]),
            SV.str (ByteArray.mk #[(105 : UInt8), (98 : UInt8), (112 : UInt8)]), SV.str (ByteArray.mk #[(105 : UInt8), (97 : UInt8)]),
            SV.str (ByteArray.mk #[(105 : UInt8), (97 : UInt8), (111 : UInt8), (98 : UInt8), (112 : UInt8)]),
            SV.str (ByteArray.mk #[(105 : UInt8)]), SV.str (ByteArray.mk #[(105 : UInt8), (98 : UInt8), (112 : UInt8)]),
            SV.str (ByteArray.mk #[(105 : UInt8)]), SV.str (ByteArray.mk #[(116 : UInt8), (110 : UInt8)]),
            SV.str (ByteArray.mk #[(116 : UInt8), (110 : UInt8)])]
            T0),
            some ((3 : Nat), CH.ro (U := MapC) [SV.r32 (8 : Nat) f1] T1), some ((4 : Nat), CH.ro (U := MapC) [SV.r32 (64 : Nat) f2] T2)]
            else
            bif
            tickB (Prod.fst (Prod.snd (Subtype.val a))) (f ((0 : Nat) + Int.toNat (↑(Prod.fst (Subtype.val a)) : Int) * (1 : Nat))) !=
            Prod.fst (Prod.snd (Subtype.val a)) then
            Q (SV.b false)
            [some (n, CH.sy (U := MapC) (Sy.row off [SV.ri len f] ob)),
            some
            ((0 : Nat),
            CH.ro (U := MapC)
            [SV.str (ByteArray.mk #[(116 : UInt8), (97 : UInt8), (110 : UInt8)]),
            SV.str (ByteArray.mk #[(115 : UInt8), (116 : UInt8), (97 : UInt8), (110 : UInt8)]),
            SV.str (ByteArray.mk #[(116 : UInt8), (97 : UInt8), (110 : UInt8)]),
            SV.str (ByteArray.mk #[(116 : UInt8), (97 : UInt8), (110 : UInt8)]), SV.str (ByteArray.mk #[]),
            SV.str (ByteArray.mk #[(105 : UInt8), (97 : UInt8)]), SV.str (ByteArray.mk #[(105 : UInt8), (110 : UInt8)]),
            SV.str (ByteArray.mk #[(105 : UInt8)]), SV.str (ByteArray.mk #[(105 : UInt8), (97 : UInt8)]),
            SV.str (ByteArray.mk #[(105 : UInt8), (98 : UInt8), (112 : UInt8)]), SV.str (ByteArray.mk #[(105 : UInt8), (97 : UInt8)]),
            SV.str (ByteArray.mk #[(105 : UInt8), (97 : UInt8), (111 : UInt8), (98 : UInt8), (112 : UInt8)]),
            SV.str (ByteArray.mk #[(105 : UInt8)]), SV.str (ByteArray.mk #[(105 : UInt8), (98 : UInt8), (112 : UInt8)]),
            SV.str (ByteArray.mk #[(105 : UInt8)]), SV.str (ByteArray.mk #[(116 : UInt8), (110 : UInt8)]),
            SV.str (ByteArray.mk #[(116 : UInt8), (110 : UInt8)])]
            T0),
            some ((3 : Nat), CH.ro (U := MapC) [SV.r32 (8 : Nat) f1] T1), some ((4 : Nat), CH.ro (U := MapC) [SV.r32 (64 : Nat) f2] T2)]
            else
            ∃ (a' :
            LInv.α
            (LInv.mk (LawA len) [(3 : Nat), (6 : Nat), (27 : Nat), (28 : Nat), (29 : Nat)]
            [(1 : Nat), (3021 : Nat), (1000000 : Nat), (1000003 : Nat), (1000004 : Nat)]
            (fun (a : LawA len) ↦
            ([((3 : Nat), SV.ptr (3021 : Nat) (Prod.fst (Prod.snd (Prod.snd (Prod.snd (Prod.snd (Subtype.val a)))))) (0 : Nat) (0 : Nat)),
            ((6 : Nat), SV.u64 (Prod.fst (Prod.snd (Subtype.val a)))), ((27 : Nat), SV.slc (1 : Nat) n off (0 : Nat) len cap),
            ((28 : Nat), SV.i (↑len : Int)), ((29 : Nat), SV.i (↑(Prod.fst (Subtype.val a)) : Int))],
            [((1 : Nat), some (n, CH.sy (U := MapC) (Sy.row off [SV.ri len f] ob))),
            ((3021 : Nat),
            some
            (Prod.fst (Prod.snd (Prod.snd (Prod.snd (Prod.snd (Subtype.val a))))),
            machC (Prod.snd (Prod.snd (Prod.snd (Prod.snd (Prod.snd (Subtype.val a)))))) (Prod.fst (Prod.snd (Subtype.val a)))
            (Prod.fst (Prod.snd (Prod.snd (Subtype.val a)))) (Prod.fst (Prod.snd (Prod.snd (Prod.snd (Subtype.val a))))))),
            ((1000000 : Nat), some ((0 : Nat), CH.ro (U := MapC) (List.map SV.str signsL) T0)),
            ((1000003 : Nat), some ((3 : Nat), CH.ro (U := MapC) [SV.r32 (8 : Nat) f1] T1)),
            ((1000004 : Nat), some ((4 : Nat), CH.ro (U := MapC) [SV.r32 (64 : Nat) f2] T2))]))
            fun (a : LawA len) ↦ len - Prod.fst (Subtype.val a))),
            ([((3 : Nat), some (SV.ptr (3021 : Nat) (Prod.fst (Prod.snd (Prod.snd (Prod.snd (Prod.snd (Subtype.val a)))))) (0 : Nat) (0 : Nat))),
            ((6 : Nat), some (SV.u64 (Prod.fst (Prod.snd (Subtype.val a))))), ((27 : Nat), some (SV.slc (1 : Nat) n off (0 : Nat) len cap)),
            ((28 : Nat), some (SV.i (↑len : Int))),
            ((29 : Nat), some (SV.i (IntKind.wrap IntKind.i64 ((↑(Prod.fst (Subtype.val a)) : Int) + (1 : Int)))))] =
            [((3 : Nat), some (SV.ptr (3021 : Nat) (Prod.fst (Prod.snd (Prod.snd (Prod.snd (Prod.snd (Subtype.val a')))))) (0 : Nat) (0 : Nat))),
            ((6 : Nat), some (SV.u64 (Prod.fst (Prod.snd (Subtype.val a'))))), ((27 : Nat), some (SV.slc (1 : Nat) n off (0 : Nat) len cap)),
            ((28 : Nat), some (SV.i (↑len : Int))), ((29 : Nat), some (SV.i (↑(Prod.fst (Subtype.val a')) : Int)))] ∧
            [((1 : Nat), some (n, CH.sy (U := MapC) (Sy.row off [SV.ri len f] ob))),
            ((3021 : Nat),
            some
            (Prod.fst (Prod.snd (Prod.snd (Prod.snd (Prod.snd (Subtype.val a))))),
            CH.cells (U := MapC)
            [SV.ptr (0 : Nat) (Prod.snd (Prod.snd (Prod.snd (Prod.snd (Prod.snd (Subtype.val a)))))) (0 : Nat) (0 : Nat),
            SV.u64
            (tickB (Prod.fst (Prod.snd (Subtype.val a))) (f ((0 : Nat) + Int.toNat (↑(Prod.fst (Subtype.val a)) : Int) * (1 : Nat)))),
            SV.nils,
            SV.i
            (tickD (Prod.fst (Prod.snd (Prod.snd (Subtype.val a))))
            (f ((0 : Nat) + Int.toNat (↑(Prod.fst (Subtype.val a)) : Int) * (1 : Nat)))),
            SV.i
            (tickR (Prod.fst (Prod.snd (Prod.snd (Prod.snd (Subtype.val a)))))
            (f ((0 : Nat) + Int.toNat (↑(Prod.fst (Subtype.val a)) : Int) * (1 : Nat))))]
            (91 : TypeId))),
            ((1000000 : Nat),
            some
            ((0 : Nat),
            CH.ro (U := MapC)
            [SV.str (ByteArray.mk #[(116 : UInt8), (97 : UInt8), (110 : UInt8)]),
            SV.str (ByteArray.mk #[(115 : UInt8), (116 : UInt8), (97 : UInt8), (110 : UInt8)]),
            SV.str (ByteArray.mk #[(116 : UInt8), (97 : UInt8), (110 : UInt8)]),
            SV.str (ByteArray.mk #[(116 : UInt8), (97 : UInt8), (110 : UInt8)]), SV.str (ByteArray.mk #[]),
            SV.str (ByteArray.mk #[(105 : UInt8), (97 : UInt8)]), SV.str (ByteArray.mk #[(105 : UInt8), (110 : UInt8)]),
            SV.str (ByteArray.mk #[(105 : UInt8)]), SV.str (ByteArray.mk #[(105 : UInt8), (97 : UInt8)]),
            SV.str (ByteArray.mk #[(105 : UInt8), (98 : UInt8), (112 : UInt8)]), SV.str (ByteArray.mk #[(105 : UInt8), (97 : UInt8)]),
            SV.str (ByteArray.mk #[(105 : UInt8), (97 : UInt8), (111 : UInt8), (98 : UInt8), (112 : UInt8)]),
            SV.str (ByteArray.mk #[(105 : UInt8)]), SV.str (ByteArray.mk #[(105 : UInt8), (98 : UInt8), (112 : UInt8)]),
            SV.str (ByteArray.mk #[(105 : UInt8)]), SV.str (ByteArray.mk #[(116 : UInt8), (110 : UInt8)]),
            SV.str (ByteArray.mk #[(116 : UInt8), (110 : UInt8)])]
            T0)),
            ((1000003 : Nat), some ((3 : Nat), CH.ro (U := MapC) [SV.r32 (8 : Nat) f1] T1)),
            ((1000004 : Nat), some ((4 : Nat), CH.ro (U := MapC) [SV.r32 (64 : Nat) f2] T2))] =
            [((1 : Nat), some (n, CH.sy (U := MapC) (Sy.row off [SV.ri len f] ob))),
            ((3021 : Nat),
            some
            (Prod.fst (Prod.snd (Prod.snd (Prod.snd (Prod.snd (Subtype.val a'))))),
            CH.cells (U := MapC)
            [SV.ptr (0 : Nat) (Prod.snd (Prod.snd (Prod.snd (Prod.snd (Prod.snd (Subtype.val a')))))) (0 : Nat) (0 : Nat),
            SV.u64 (Prod.fst (Prod.snd (Subtype.val a'))), SV.nils, SV.i (Prod.fst (Prod.snd (Prod.snd (Subtype.val a')))),
            SV.i (Prod.fst (Prod.snd (Prod.snd (Prod.snd (Subtype.val a')))))]
            (91 : TypeId))),
            ((1000000 : Nat),
            some
            ((0 : Nat),
            CH.ro (U := MapC)
            [SV.str (ByteArray.mk #[(116 : UInt8), (97 : UInt8), (110 : UInt8)]),
            SV.str (ByteArray.mk #[(115 : UInt8), (116 : UInt8), (97 : UInt8), (110 : UInt8)]),
            SV.str (ByteArray.mk #[(116 : UInt8), (97 : UInt8), (110 : UInt8)]),
            SV.str (ByteArray.mk #[(116 : UInt8), (97 : UInt8), (110 : UInt8)]), SV.str (ByteArray.mk #[]),
            SV.str (ByteArray.mk #[(105 : UInt8), (97 : UInt8)]), SV.str (ByteArray.mk #[(105 : UInt8), (110 : UInt8)]),
            SV.str (ByteArray.mk #[(105 : UInt8)]), SV.str (ByteArray.mk #[(105 : UInt8), (97 : UInt8)]),
            SV.str (ByteArray.mk #[(105 : UInt8), (98 : UInt8), (112 : UInt8)]), SV.str (ByteArray.mk #[(105 : UInt8), (97 : UInt8)]),
            SV.str (ByteArray.mk #[(105 : UInt8), (97 : UInt8), (111 : UInt8), (98 : UInt8), (112 : UInt8)]),
            SV.str (ByteArray.mk #[(105 : UInt8)]), SV.str (ByteArray.mk #[(105 : UInt8), (98 : UInt8), (112 : UInt8)]),
            SV.str (ByteArray.mk #[(105 : UInt8)]), SV.str (ByteArray.mk #[(116 : UInt8), (110 : UInt8)]),
            SV.str (ByteArray.mk #[(116 : UInt8), (110 : UInt8)])]
            T0)),
            ((1000003 : Nat), some ((3 : Nat), CH.ro (U := MapC) [SV.r32 (8 : Nat) f1] T1)),
            ((1000004 : Nat), some ((4 : Nat), CH.ro (U := MapC) [SV.r32 (64 : Nat) f2] T2))]) ∧
            len - Prod.fst (Subtype.val a') < len - Prod.fst (Subtype.val a)
            else
            bif tickE (f ((0 : Nat) + Int.toNat (↑(Prod.fst (Subtype.val a)) : Int) * (1 : Nat))) != (1 : Int) then
            Q (SV.b false)
            [some (n, CH.sy (U := MapC) (Sy.row off [SV.ri len f] ob)),
            some
            ((0 : Nat),
            CH.ro (U := MapC)
            [SV.str (ByteArray.mk #[(116 : UInt8), (97 : UInt8), (110 : UInt8)]),
            SV.str (ByteArray.mk #[(115 : UInt8), (116 : UInt8), (97 : UInt8), (110 : UInt8)]),
            SV.str (ByteArray.mk #[(116 : UInt8), (97 : UInt8), (110 : UInt8)]),
            SV.str (ByteArray.mk #[(116 : UInt8), (97 : UInt8), (110 : UInt8)]), SV.str (ByteArray.mk #[]),
            SV.str (ByteArray.mk #[(105 : UInt8), (97 : UInt8)]), SV.str (ByteArray.mk #[(105 : UInt8), (110 : UInt8)]),
            SV.str (ByteArray.mk #[(105 : UInt8)]), SV.str (ByteArray.mk #[(105 : UInt8), (97 : UInt8)]),
            SV.str (ByteArray.mk #[(105 : UInt8), (98 : UInt8), (112 : UInt8)]), SV.str (ByteArray.mk #[(105 : UInt8), (97 : UInt8)]),
            SV.str (ByteArray.mk #[(105 : UInt8), (97 : UInt8), (111 : UInt8), (98 : UInt8), (112 : UInt8)]),
            SV.str (ByteArray.mk #[(105 : UInt8)]), SV.str (ByteArray.mk #[(105 : UInt8), (98 : UInt8), (112 : UInt8)]),
            SV.str (ByteArray.mk #[(105 : UInt8)]), SV.str (ByteArray.mk #[(116 : UInt8), (110 : UInt8)]),
            SV.str (ByteArray.mk #[(116 : UInt8), (110 : UInt8)])]
            T0),
            some ((3 : Nat), CH.ro (U := MapC) [SV.r32 (8 : Nat) f1] T1), some ((4 : Nat), CH.ro (U := MapC) [SV.r32 (64 : Nat) f2] T2)]
            else False
            else
            bif decide ((tickE (f ((0 : Nat) + Int.toNat (↑(Prod.fst (Subtype.val a)) : Int) * (1 : Nat))) != (1 : Int)) = false) then False
            else
            bif tickE (f ((0 : Nat) + Int.toNat (↑(Prod.fst (Subtype.val a)) : Int) * (1 : Nat))) != (1 : Int) then
            Q (SV.b false)
            [some (n, CH.sy (U := MapC) (Sy.row off [SV.ri len f] ob)),
            some
            ((0 : Nat),
            CH.ro (U := MapC)
            [SV.str (ByteArray.mk #[(116 : UInt8), (97 : UInt8), (110 : UInt8)]),
            SV.str (ByteArray.mk #[(115 : UInt8), (116 : UInt8), (97 : UInt8), (110 : UInt8)]),
            SV.str (ByteArray.mk #[(116 : UInt8), (97 : UInt8), (110 : UInt8)]),
            SV.str (ByteArray.mk #[(116 : UInt8), (97 : UInt8), (110 : UInt8)]), SV.str (ByteArray.mk #[]),
            SV.str (ByteArray.mk #[(105 : UInt8), (97 : UInt8)]), SV.str (ByteArray.mk #[(105 : UInt8), (110 : UInt8)]),
            SV.str (ByteArray.mk #[(105 : UInt8)]), SV.str (ByteArray.mk #[(105 : UInt8), (97 : UInt8)]),
            SV.str (ByteArray.mk #[(105 : UInt8), (98 : UInt8), (112 : UInt8)]), SV.str (ByteArray.mk #[(105 : UInt8), (97 : UInt8)]),
            SV.str (ByteArray.mk #[(105 : UInt8), (97 : UInt8), (111 : UInt8), (98 : UInt8), (112 : UInt8)]),
            SV.str (ByteArray.mk #[(105 : UInt8)]), SV.str (ByteArray.mk #[(105 : UInt8), (98 : UInt8), (112 : UInt8)]),
            SV.str (ByteArray.mk #[(105 : UInt8)]), SV.str (ByteArray.mk #[(116 : UInt8), (110 : UInt8)]),
            SV.str (ByteArray.mk #[(116 : UInt8), (110 : UInt8)])]
            T0),
            some ((3 : Nat), CH.ro (U := MapC) [SV.r32 (8 : Nat) f1] T1), some ((4 : Nat), CH.ro (U := MapC) [SV.r32 (64 : Nat) f2] T2)]
            else False
            else
            bif decide ((tickE (f ((0 : Nat) + Int.toNat (↑(Prod.fst (Subtype.val a)) : Int) * (1 : Nat))) != (1 : Int)) = false) then
            bif decide ((tickE (f ((0 : Nat) + Int.toNat (↑(Prod.fst (Subtype.val a)) : Int) * (1 : Nat))) != (1 : Int)) = false) then False
            else
            bif tickE (f ((0 : Nat) + Int.toNat (↑(Prod.fst (Subtype.val a)) : Int) * (1 : Nat))) != (1 : Int) then
            Q (SV.b false)
            [some (n, CH.sy (U := MapC) (Sy.row off [SV.ri len f] ob)),
            some
            ((0 : Nat),
            CH.ro (U := MapC)
            [SV.str (ByteArray.mk #[(116 : UInt8), (97 : UInt8), (110 : UInt8)]),
            SV.str (ByteArray.mk #[(115 : UInt8), (116 : UInt8), (97 : UInt8), (110 : UInt8)]),
            SV.str (ByteArray.mk #[(116 : UInt8), (97 : UInt8), (110 : UInt8)]), SV.str (ByteArray.mk #[(116 : UInt8), (97 : UInt8), (110 : UInt8)]),
            SV.str (ByteArray.mk #[]), SV.str (ByteArray.mk #[(105 : UInt8), (97 : UInt8)]), SV.str (ByteArray.mk #[(105 : UInt8), (110 : UInt8)]),
            SV.str (ByteArray.mk #[(105 : UInt8)]), SV.str (ByteArray.mk #[(105 : UInt8), (97 : UInt8)]),
            SV.str (ByteArray.mk #[(105 : UInt8), (98 : UInt8), (112 : UInt8)]), SV.str (ByteArray.mk #[(105 : UInt8), (97 : UInt8)]),
            SV.str (ByteArray.mk #[(105 : UInt8), (97 : UInt8), (111 : UInt8), (98 : UInt8), (112 : UInt8)]), SV.str (ByteArray.mk #[(105 : UInt8)]),
            SV.str (ByteArray.mk #[(105 : UInt8), (98 : UInt8), (112 : UInt8)]), SV.str (ByteArray.mk #[(105 : UInt8)]),
            SV.str (ByteArray.mk #[(116 : UInt8), (110 : UInt8)]), SV.str (ByteArray.mk #[(116 : UInt8), (110 : UInt8)])]
            T0),
            some ((3 : Nat), CH.ro (U := MapC) [SV.r32 (8 : Nat) f1] T1), some ((4 : Nat), CH.ro (U := MapC) [SV.r32 (64 : Nat) f2] T2)]
            else False
            else
            bif decide ((tickE (f ((0 : Nat) + Int.toNat (↑(Prod.fst (Subtype.val a)) : Int) * (1 : Nat))) != (1 : Int)) = false) then False
            else
            bif tickE (f ((0 : Nat) + Int.toNat (↑(Prod.fst (Subtype.val a)) : Int) * (1 : Nat))) != (1 : Int) then
            Q (SV.b false)
            [some (n, CH.sy (U := MapC) (Sy.row off [SV.ri len f] ob)),
            some
            ((0 : Nat),
            CH.ro (U := MapC)
            [SV.str (ByteArray.mk #[(116 : UInt8), (97 : UInt8), (110 : UInt8)]),
            SV.str (ByteArray.mk #[(115 : UInt8), (116 : UInt8), (97 : UInt8), (110 : UInt8)]),
            SV.str (ByteArray.mk #[(116 : UInt8), (97 : UInt8), (110 : UInt8)]), SV.str (ByteArray.mk #[(116 : UInt8), (97 : UInt8), (110 : UInt8)]),
            SV.str (ByteArray.mk #[]), SV.str (ByteArray.mk #[(105 : UInt8), (97 : UInt8)]), SV.str (ByteArray.mk #[(105 : UInt8), (110 : UInt8)]),
            SV.str (ByteArray.mk #[(105 : UInt8)]), SV.str (ByteArray.mk #[(105 : UInt8), (97 : UInt8)]),
            SV.str (ByteArray.mk #[(105 : UInt8), (98 : UInt8), (112 : UInt8)]), SV.str (ByteArray.mk #[(105 : UInt8), (97 : UInt8)]),
            SV.str (ByteArray.mk #[(105 : UInt8), (97 : UInt8), (111 : UInt8), (98 : UInt8), (112 : UInt8)]), SV.str (ByteArray.mk #[(105 : UInt8)]),
            SV.str (ByteArray.mk #[(105 : UInt8), (98 : UInt8), (112 : UInt8)]), SV.str (ByteArray.mk #[(105 : UInt8)]),
            SV.str (ByteArray.mk #[(116 : UInt8), (110 : UInt8)]), SV.str (ByteArray.mk #[(116 : UInt8), (110 : UInt8)])]
            T0),
            some ((3 : Nat), CH.ro (U := MapC) [SV.r32 (8 : Nat) f1] T1), some ((4 : Nat), CH.ro (U := MapC) [SV.r32 (64 : Nat) f2] T2)]
            else False
            else
            bif decide ((tickE (f ((0 : Nat) + Int.toNat (↑(Prod.fst (Subtype.val a)) : Int) * (1 : Nat))) != (1 : Int)) = false) then False
            else
            bif decide ((tickE (f ((0 : Nat) + Int.toNat (↑(Prod.fst (Subtype.val a)) : Int) * (1 : Nat))) != (1 : Int)) = false) then
            bif decide ((tickE (f ((0 : Nat) + Int.toNat (↑(Prod.fst (Subtype.val a)) : Int) * (1 : Nat))) != (1 : Int)) = false) then False
            else
            bif tickE (f ((0 : Nat) + Int.toNat (↑(Prod.fst (Subtype.val a)) : Int) * (1 : Nat))) != (1 : Int) then
            Q (SV.b false)
            [some (n, CH.sy (U := MapC) (Sy.row off [SV.ri len f] ob)),
            some
            ((0 : Nat),
            CH.ro (U := MapC)
            [SV.str (ByteArray.mk #[(116 : UInt8), (97 : UInt8), (110 : UInt8)]),
            SV.str (ByteArray.mk #[(115 : UInt8), (116 : UInt8), (97 : UInt8), (110 : UInt8)]),
            SV.str (ByteArray.mk #[(116 : UInt8), (97 : UInt8), (110 : UInt8)]), SV.str (ByteArray.mk #[(116 : UInt8), (97 : UInt8), (110 : UInt8)]),
            SV.str (ByteArray.mk #[]), SV.str (ByteArray.mk #[(105 : UInt8), (97 : UInt8)]), SV.str (ByteArray.mk #[(105 : UInt8), (110 : UInt8)]),
            SV.str (ByteArray.mk #[(105 : UInt8)]), SV.str (ByteArray.mk #[(105 : UInt8), (97 : UInt8)]),
            SV.str (ByteArray.mk #[(105 : UInt8), (98 : UInt8), (112 : UInt8)]), SV.str (ByteArray.mk #[(105 : UInt8), (97 : UInt8)]),
            SV.str (ByteArray.mk #[(105 : UInt8), (97 : UInt8), (111 : UInt8), (98 : UInt8), (112 : UInt8)]), SV.str (ByteArray.mk #[(105 : UInt8)]),
            SV.str (ByteArray.mk #[(105 : UInt8), (98 : UInt8), (112 : UInt8)]), SV.str (ByteArray.mk #[(105 : UInt8)]),
            SV.str (ByteArray.mk #[(116 : UInt8), (110 : UInt8)]), SV.str (ByteArray.mk #[(116 : UInt8), (110 : UInt8)])]
            T0),
            some ((3 : Nat), CH.ro (U := MapC) [SV.r32 (8 : Nat) f1] T1), some ((4 : Nat), CH.ro (U := MapC) [SV.r32 (64 : Nat) f2] T2)]
            else False
            else
            bif decide ((tickE (f ((0 : Nat) + Int.toNat (↑(Prod.fst (Subtype.val a)) : Int) * (1 : Nat))) != (1 : Int)) = false) then False
            else
            bif tickE (f ((0 : Nat) + Int.toNat (↑(Prod.fst (Subtype.val a)) : Int) * (1 : Nat))) != (1 : Int) then
            Q (SV.b false)
            [some (n, CH.sy (U := MapC) (Sy.row off [SV.ri len f] ob)),
            some
            ((0 : Nat),
            CH.ro (U := MapC)
            [SV.str (ByteArray.mk #[(116 : UInt8), (97 : UInt8), (110 : UInt8)]),
            SV.str (ByteArray.mk #[(115 : UInt8), (116 : UInt8), (97 : UInt8), (110 : UInt8)]),
            SV.str (ByteArray.mk #[(116 : UInt8), (97 : UInt8), (110 : UInt8)]), SV.str (ByteArray.mk #[(116 : UInt8), (97 : UInt8), (110 : UInt8)]),
            SV.str (ByteArray.mk #[]), SV.str (ByteArray.mk #[(105 : UInt8), (97 : UInt8)]), SV.str (ByteArray.mk #[(105 : UInt8), (110 : UInt8)]),
            SV.str (ByteArray.mk #[(105 : UInt8)]), SV.str (ByteArray.mk #[(105 : UInt8), (97 : UInt8)]),
            SV.str (ByteArray.mk #[(105 : UInt8), (98 : UInt8), (112 : UInt8)]), SV.str (ByteArray.mk #[(105 : UInt8), (97 : UInt8)]),
            SV.str (ByteArray.mk #[(105 : UInt8), (97 : UInt8), (111 : UInt8), (98 : UInt8), (112 : UInt8)]), SV.str (ByteArray.mk #[(105 : UInt8)]),
            SV.str (ByteArray.mk #[(105 : UInt8), (98 : UInt8), (112 : UInt8)]), SV.str (ByteArray.mk #[(105 : UInt8)]),
            SV.str (ByteArray.mk #[(116 : UInt8), (110 : UInt8)]), SV.str (ByteArray.mk #[(116 : UInt8), (110 : UInt8)])]
            T0),
            some ((3 : Nat), CH.ro (U := MapC) [SV.r32 (8 : Nat) f1] T1), some ((4 : Nat), CH.ro (U := MapC) [SV.r32 (64 : Nat) f2] T2)]
            else False
            else False
            else
            ∃ (h : Prod.fst (Prod.snd (Prod.snd (Prod.snd (Prod.snd (Subtype.val a))))) = Prod.fst (Prod.snd (Prod.snd (Prod.snd (Prod.snd (Subtype.val a)))))),
            ∀ (y : Unit),
            Q (SV.b true)
            [some (n, CH.sy (U := MapC) (Sy.row off [SV.ri len f] ob)),
            some
            ((0 : Nat),
            CH.ro (U := MapC)
            [SV.str (ByteArray.mk #[(116 : UInt8), (97 : UInt8), (110 : UInt8)]), SV.str (ByteArray.mk #[(115 : UInt8), (116 : UInt8), (97 : UInt8), (110 : UInt8)]),
            SV.str (ByteArray.mk #[(116 : UInt8), (97 : UInt8), (110 : UInt8)]), SV.str (ByteArray.mk #[(116 : UInt8), (97 : UInt8), (110 : UInt8)]), SV.str (ByteArray.mk #[]),
            SV.str (ByteArray.mk #[(105 : UInt8), (97 : UInt8)]), SV.str (ByteArray.mk #[(105 : UInt8), (110 : UInt8)]), SV.str (ByteArray.mk #[(105 : UInt8)]),
            SV.str (ByteArray.mk #[(105 : UInt8), (97 : UInt8)]), SV.str (ByteArray.mk #[(105 : UInt8), (98 : UInt8), (112 : UInt8)]), SV.str (ByteArray.mk #[(105 : UInt8), (97 : UInt8)]),
            SV.str (ByteArray.mk #[(105 : UInt8), (97 : UInt8), (111 : UInt8), (98 : UInt8), (112 : UInt8)]), SV.str (ByteArray.mk #[(105 : UInt8)]),
            SV.str (ByteArray.mk #[(105 : UInt8), (98 : UInt8), (112 : UInt8)]), SV.str (ByteArray.mk #[(105 : UInt8)]), SV.str (ByteArray.mk #[(116 : UInt8), (110 : UInt8)]),
            SV.str (ByteArray.mk #[(116 : UInt8), (110 : UInt8)])]
            T0),
            some ((3 : Nat), CH.ro (U := MapC) [SV.r32 (8 : Nat) f1] T1), some ((4 : Nat), CH.ro (U := MapC) [SV.r32 (64 : Nat) f2] T2)]) := by kernel_rfl

set_option maxRecDepth 100000 in
theorem sx_law0 (f1 f2 : Nat → BitVec 32) (T0 T1 T2 : RT) (Q : SV → List (Option (Nat × CH MapC)) → Prop) : (fnT Sg_5 (iv_nil f1 f2 T0 T1 T2) rc_sponsionlaw26_MachineTicks rv_sponsionlaw26_MachineTicks [.nils] [(1000000, some (0, .ro (signsL.map .str) T0)), (1000003, some (3, .ro [.r32 8 f1] T1)), (1000004, some (4, .ro [.r32 64 f2] T2))] (fun r s => Q r ([1000000, 1000003, 1000004].map s.h))) = (
  ∃ (h : (0 : Nat) = (0 : Nat)),
  ∃ (h : (3 : Nat) = (3 : Nat)),
    ∃ (h : (4 : Nat) = (4 : Nat)),
      ∀ (y : Unit),
        ∃ (h : (2 : Nat) = (2 : Nat)),
          ∃ (h : (1 : Nat) = (1 : Nat)),
            ∃ (h : (0 : Nat) = (0 : Nat)),
            ∃ (h : (1 : Nat) = (1 : Nat)),
            ∃ (h : (0 : Nat) = (0 : Nat)),
            ∀ (y : Nat),
            ∃ (h : (1 : Nat) = (1 : Nat)),
            ∃ (h : (0 : Nat) = (0 : Nat)),
            ∃ (h : y = y),
            ∃ (h : (3 : Nat) = (3 : Nat)),
            ∃ (h : (4 : Nat) = (4 : Nat)),
            ∀ (y : Nat × Nat × (Nat → Value)) (y_1 : Nat),
            ∃ (h : (934 : Nat) = (934 : Nat)),
            y_1 = y_1 ∧
            ∃ (h : (0 : Nat) = (0 : Nat)),
            (∃ (a :
            LInv.α
            (LInv.mk (Nat × Nat) [(3 : Nat), (6 : Nat), (27 : Nat), (28 : Nat), (29 : Nat)] [(3021 : Nat), (1000000 : Nat), (1000003 : Nat), (1000004 : Nat)]
            (fun (a : Nat × Nat) ↦
            ([((3 : Nat), SV.ptr (3021 : Nat) (Prod.fst a) (0 : Nat) (0 : Nat)), ((6 : Nat), SV.u64 (0 : BitVec (64 : Nat))), ((27 : Nat), SV.nils), ((28 : Nat), SV.i (0 : Int)),
            ((29 : Nat), SV.i (0 : Int))],
            [((3021 : Nat), some (Prod.fst a, machC (Prod.snd a) (0 : BitVec (64 : Nat)) (0 : Int) (0 : Int))), ((1000000 : Nat), some ((0 : Nat), CH.ro (U := MapC) (List.map SV.str signsL) T0)),
            ((1000003 : Nat), some ((3 : Nat), CH.ro (U := MapC) [SV.r32 (8 : Nat) f1] T1)), ((1000004 : Nat), some ((4 : Nat), CH.ro (U := MapC) [SV.r32 (64 : Nat) f2] T2))]))
            fun (x : Nat × Nat) ↦ (0 : Nat))),
            [((3 : Nat), some (SV.ptr (3021 : Nat) (Prod.fst y) (0 : Nat) (0 : Nat))), ((6 : Nat), some (SV.u64 (BitVec.ofNat (64 : Nat) (0 : Nat)))), ((27 : Nat), some SV.nils),
            ((28 : Nat), some (SV.i (0 : Int))), ((29 : Nat), some (SV.i (0 : Int)))] =
            [((3 : Nat), some (SV.ptr (3021 : Nat) (Prod.fst a) (0 : Nat) (0 : Nat))), ((6 : Nat), some (SV.u64 (0 : BitVec (64 : Nat)))), ((27 : Nat), some SV.nils), ((28 : Nat), some (SV.i (0 : Int))),
            ((29 : Nat), some (SV.i (0 : Int)))] ∧
            [((3021 : Nat), some (Prod.fst y, CH.cells (U := MapC) [SV.ptr (0 : Nat) (Prod.fst (Prod.snd y)) (0 : Nat) (0 : Nat), SV.u64 (0 : BitVec (64 : Nat)), SV.nils, SV.i (0 : Int), SV.i (0 : Int)] (91 : TypeId))),
            ((1000000 : Nat),
            some
            ((0 : Nat),
            CH.ro (U := MapC)
            [SV.str (ByteArray.mk #[(116 : UInt8), (97 : UInt8), (110 : UInt8)]), SV.str (ByteArray.mk #[(115 : UInt8), (116 : UInt8), (97 : UInt8), (110 : UInt8)]),
            SV.str (ByteArray.mk #[(116 : UInt8), (97 : UInt8), (110 : UInt8)]), SV.str (ByteArray.mk #[(116 : UInt8), (97 : UInt8), (110 : UInt8)]), SV.str (ByteArray.mk #[]),
            SV.str (ByteArray.mk #[(105 : UInt8), (97 : UInt8)]), SV.str (ByteArray.mk #[(105 : UInt8), (110 : UInt8)]), SV.str (ByteArray.mk #[(105 : UInt8)]),
            SV.str (ByteArray.mk #[(105 : UInt8), (97 : UInt8)]), SV.str (ByteArray.mk #[(105 : UInt8), (98 : UInt8), (112 : UInt8)]), SV.str (ByteArray.mk #[(105 : UInt8), (97 : UInt8)]),
            SV.str (ByteArray.mk #[(105 : UInt8), (97 : UInt8), (111 : UInt8), (98 : UInt8), (112 : UInt8)]), SV.str (ByteArray.mk #[(105 : UInt8)]),
            SV.str (ByteArray.mk #[(105 : UInt8), (98 : UInt8), (112 : UInt8)]), SV.str (ByteArray.mk #[(105 : UInt8)]), SV.str (ByteArray.mk #[(116 : UInt8), (110 : UInt8)]),
            SV.str (ByteArray.mk #[(116 : UInt8), (110 : UInt8)])]
            T0)),
            ((1000003 : Nat), some ((3 : Nat), CH.ro (U := MapC) [SV.r32 (8 : Nat) f1] T1)), ((1000004 : Nat), some ((4 : Nat), CH.ro (U := MapC) [SV.r32 (64 : Nat) f2] T2))] =
            [((3021 : Nat), some (Prod.fst a, CH.cells (U := MapC) [SV.ptr (0 : Nat) (Prod.snd a) (0 : Nat) (0 : Nat), SV.u64 (0 : BitVec (64 : Nat)), SV.nils, SV.i (0 : Int), SV.i (0 : Int)] (91 : TypeId))),
            ((1000000 : Nat),
            some
            ((0 : Nat),
            CH.ro (U := MapC)
            [SV.str (ByteArray.mk #[(116 : UInt8), (97 : UInt8), (110 : UInt8)]), SV.str (ByteArray.mk #[(115 : UInt8), (116 : UInt8), (97 : UInt8), (110 : UInt8)]),
            SV.str (ByteArray.mk #[(116 : UInt8), (97 : UInt8), (110 : UInt8)]), SV.str (ByteArray.mk #[(116 : UInt8), (97 : UInt8), (110 : UInt8)]), SV.str (ByteArray.mk #[]),
            SV.str (ByteArray.mk #[(105 : UInt8), (97 : UInt8)]), SV.str (ByteArray.mk #[(105 : UInt8), (110 : UInt8)]), SV.str (ByteArray.mk #[(105 : UInt8)]),
            SV.str (ByteArray.mk #[(105 : UInt8), (97 : UInt8)]), SV.str (ByteArray.mk #[(105 : UInt8), (98 : UInt8), (112 : UInt8)]), SV.str (ByteArray.mk #[(105 : UInt8), (97 : UInt8)]),
            SV.str (ByteArray.mk #[(105 : UInt8), (97 : UInt8), (111 : UInt8), (98 : UInt8), (112 : UInt8)]), SV.str (ByteArray.mk #[(105 : UInt8)]),
            SV.str (ByteArray.mk #[(105 : UInt8), (98 : UInt8), (112 : UInt8)]), SV.str (ByteArray.mk #[(105 : UInt8)]), SV.str (ByteArray.mk #[(116 : UInt8), (110 : UInt8)]),
            SV.str (ByteArray.mk #[(116 : UInt8), (110 : UInt8)])]
            T0)),
            ((1000003 : Nat), some ((3 : Nat), CH.ro (U := MapC) [SV.r32 (8 : Nat) f1] T1)), ((1000004 : Nat), some ((4 : Nat), CH.ro (U := MapC) [SV.r32 (64 : Nat) f2] T2))]) ∧
            ∀
            (a :
            LInv.α
            (LInv.mk (Nat × Nat) [(3 : Nat), (6 : Nat), (27 : Nat), (28 : Nat), (29 : Nat)] [(3021 : Nat), (1000000 : Nat), (1000003 : Nat), (1000004 : Nat)]
            (fun (a : Nat × Nat) ↦
            ([((3 : Nat), SV.ptr (3021 : Nat) (Prod.fst a) (0 : Nat) (0 : Nat)), ((6 : Nat), SV.u64 (0 : BitVec (64 : Nat))), ((27 : Nat), SV.nils), ((28 : Nat), SV.i (0 : Int)),
            ((29 : Nat), SV.i (0 : Int))],
            [((3021 : Nat), some (Prod.fst a, machC (Prod.snd a) (0 : BitVec (64 : Nat)) (0 : Int) (0 : Int))), ((1000000 : Nat), some ((0 : Nat), CH.ro (U := MapC) (List.map SV.str signsL) T0)),
            ((1000003 : Nat), some ((3 : Nat), CH.ro (U := MapC) [SV.r32 (8 : Nat) f1] T1)), ((1000004 : Nat), some ((4 : Nat), CH.ro (U := MapC) [SV.r32 (64 : Nat) f2] T2))]))
            fun (x : Nat × Nat) ↦ (0 : Nat))),
            ∃ (h : Prod.fst a = Prod.fst a),
            ∀ (y : Unit),
            Q (SV.b true)
            [some
            ((0 : Nat),
            CH.ro (U := MapC)
            [SV.str (ByteArray.mk #[(116 : UInt8), (97 : UInt8), (110 : UInt8)]), SV.str (ByteArray.mk #[(115 : UInt8), (116 : UInt8), (97 : UInt8), (110 : UInt8)]),
            SV.str (ByteArray.mk #[(116 : UInt8), (97 : UInt8), (110 : UInt8)]), SV.str (ByteArray.mk #[(116 : UInt8), (97 : UInt8), (110 : UInt8)]), SV.str (ByteArray.mk #[]),
            SV.str (ByteArray.mk #[(105 : UInt8), (97 : UInt8)]), SV.str (ByteArray.mk #[(105 : UInt8), (110 : UInt8)]), SV.str (ByteArray.mk #[(105 : UInt8)]),
            SV.str (ByteArray.mk #[(105 : UInt8), (97 : UInt8)]), SV.str (ByteArray.mk #[(105 : UInt8), (98 : UInt8), (112 : UInt8)]), SV.str (ByteArray.mk #[(105 : UInt8), (97 : UInt8)]),
            SV.str (ByteArray.mk #[(105 : UInt8), (97 : UInt8), (111 : UInt8), (98 : UInt8), (112 : UInt8)]), SV.str (ByteArray.mk #[(105 : UInt8)]),
            SV.str (ByteArray.mk #[(105 : UInt8), (98 : UInt8), (112 : UInt8)]), SV.str (ByteArray.mk #[(105 : UInt8)]), SV.str (ByteArray.mk #[(116 : UInt8), (110 : UInt8)]),
            SV.str (ByteArray.mk #[(116 : UInt8), (110 : UInt8)])]
            T0),
            some ((3 : Nat), CH.ro (U := MapC) [SV.r32 (8 : Nat) f1] T1), some ((4 : Nat), CH.ro (U := MapC) [SV.r32 (64 : Nat) f2] T2)]) := by kernel_rfl

set_option maxRecDepth 100000 in
theorem sx_lawE (n off cap : Nat) (f1 f2 : Nat → BitVec 32) (T0 T1 T2 : RT) (Q : SV → List (Option (Nat × CH MapC)) → Prop) : (fnT Sg_5 (iv_lawE n off cap f1 f2 T0 T1 T2) rc_sponsionlaw26_MachineTicks rv_sponsionlaw26_MachineTicks [.slc 1 n off 0 0 cap] [(1000000, some (0, .ro (signsL.map .str) T0)), (1000003, some (3, .ro [.r32 8 f1] T1)), (1000004, some (4, .ro [.r32 64 f2] T2))] (fun r s => Q r ([1000000, 1000003, 1000004].map s.h))) = (
  ∃ (h : (0 : Nat) = (0 : Nat)),
  ∃ (h : (3 : Nat) = (3 : Nat)),
    ∃ (h : (4 : Nat) = (4 : Nat)),
      ∀ (y : Unit),
        ∃ (h : (2 : Nat) = (2 : Nat)),
          ∃ (h : (1 : Nat) = (1 : Nat)),
            ∃ (h : (0 : Nat) = (0 : Nat)),
            ∃ (h : (1 : Nat) = (1 : Nat)),
            ∃ (h : (0 : Nat) = (0 : Nat)),
            ∀ (y : Nat),
            ∃ (h : (1 : Nat) = (1 : Nat)),
            ∃ (h : (0 : Nat) = (0 : Nat)),
            ∃ (h : y = y),
            ∃ (h : (3 : Nat) = (3 : Nat)),
            ∃ (h : (4 : Nat) = (4 : Nat)),
            ∀ (y : Nat × Nat × (Nat → Value)) (y_1 : Nat),
            ∃ (h : (934 : Nat) = (934 : Nat)),
            y_1 = y_1 ∧
            ∃ (h : (0 : Nat) = (0 : Nat)),
            (∃ (a :
            LInv.α
            (LInv.mk (Nat × Nat) [(3 : Nat), (6 : Nat), (27 : Nat), (28 : Nat), (29 : Nat)] [(3021 : Nat), (1000000 : Nat), (1000003 : Nat), (1000004 : Nat)]
            (fun (a : Nat × Nat) ↦
            ([((3 : Nat), SV.ptr (3021 : Nat) (Prod.fst a) (0 : Nat) (0 : Nat)), ((6 : Nat), SV.u64 (0 : BitVec (64 : Nat))), ((27 : Nat), SV.slc (1 : Nat) n off (0 : Nat) (0 : Nat) cap),
            ((28 : Nat), SV.i (0 : Int)), ((29 : Nat), SV.i (0 : Int))],
            [((3021 : Nat), some (Prod.fst a, machC (Prod.snd a) (0 : BitVec (64 : Nat)) (0 : Int) (0 : Int))), ((1000000 : Nat), some ((0 : Nat), CH.ro (U := MapC) (List.map SV.str signsL) T0)),
            ((1000003 : Nat), some ((3 : Nat), CH.ro (U := MapC) [SV.r32 (8 : Nat) f1] T1)), ((1000004 : Nat), some ((4 : Nat), CH.ro (U := MapC) [SV.r32 (64 : Nat) f2] T2))]))
            fun (x : Nat × Nat) ↦ (0 : Nat))),
            [((3 : Nat), some (SV.ptr (3021 : Nat) (Prod.fst y) (0 : Nat) (0 : Nat))), ((6 : Nat), some (SV.u64 (BitVec.ofNat (64 : Nat) (0 : Nat)))),
            ((27 : Nat), some (SV.slc (1 : Nat) n off (0 : Nat) (0 : Nat) cap)), ((28 : Nat), some (SV.i (0 : Int))), ((29 : Nat), some (SV.i (0 : Int)))] =
            [((3 : Nat), some (SV.ptr (3021 : Nat) (Prod.fst a) (0 : Nat) (0 : Nat))), ((6 : Nat), some (SV.u64 (0 : BitVec (64 : Nat)))),
            ((27 : Nat), some (SV.slc (1 : Nat) n off (0 : Nat) (0 : Nat) cap)), ((28 : Nat), some (SV.i (0 : Int))), ((29 : Nat), some (SV.i (0 : Int)))] ∧
            [((3021 : Nat), some (Prod.fst y, CH.cells (U := MapC) [SV.ptr (0 : Nat) (Prod.fst (Prod.snd y)) (0 : Nat) (0 : Nat), SV.u64 (0 : BitVec (64 : Nat)), SV.nils, SV.i (0 : Int), SV.i (0 : Int)] (91 : TypeId))),
            ((1000000 : Nat),
            some
            ((0 : Nat),
            CH.ro (U := MapC)
            [SV.str (ByteArray.mk #[(116 : UInt8), (97 : UInt8), (110 : UInt8)]), SV.str (ByteArray.mk #[(115 : UInt8), (116 : UInt8), (97 : UInt8), (110 : UInt8)]),
            SV.str (ByteArray.mk #[(116 : UInt8), (97 : UInt8), (110 : UInt8)]), SV.str (ByteArray.mk #[(116 : UInt8), (97 : UInt8), (110 : UInt8)]), SV.str (ByteArray.mk #[]),
            SV.str (ByteArray.mk #[(105 : UInt8), (97 : UInt8)]), SV.str (ByteArray.mk #[(105 : UInt8), (110 : UInt8)]), SV.str (ByteArray.mk #[(105 : UInt8)]),
            SV.str (ByteArray.mk #[(105 : UInt8), (97 : UInt8)]), SV.str (ByteArray.mk #[(105 : UInt8), (98 : UInt8), (112 : UInt8)]), SV.str (ByteArray.mk #[(105 : UInt8), (97 : UInt8)]),
            SV.str (ByteArray.mk #[(105 : UInt8), (97 : UInt8), (111 : UInt8), (98 : UInt8), (112 : UInt8)]), SV.str (ByteArray.mk #[(105 : UInt8)]),
            SV.str (ByteArray.mk #[(105 : UInt8), (98 : UInt8), (112 : UInt8)]), SV.str (ByteArray.mk #[(105 : UInt8)]), SV.str (ByteArray.mk #[(116 : UInt8), (110 : UInt8)]),
            SV.str (ByteArray.mk #[(116 : UInt8), (110 : UInt8)])]
            T0)),
            ((1000003 : Nat), some ((3 : Nat), CH.ro (U := MapC) [SV.r32 (8 : Nat) f1] T1)), ((1000004 : Nat), some ((4 : Nat), CH.ro (U := MapC) [SV.r32 (64 : Nat) f2] T2))] =
            [((3021 : Nat), some (Prod.fst a, CH.cells (U := MapC) [SV.ptr (0 : Nat) (Prod.snd a) (0 : Nat) (0 : Nat), SV.u64 (0 : BitVec (64 : Nat)), SV.nils, SV.i (0 : Int), SV.i (0 : Int)] (91 : TypeId))),
            ((1000000 : Nat),
            some
            ((0 : Nat),
            CH.ro (U := MapC)
            [SV.str (ByteArray.mk #[(116 : UInt8), (97 : UInt8), (110 : UInt8)]), SV.str (ByteArray.mk #[(115 : UInt8), (116 : UInt8), (97 : UInt8), (110 : UInt8)]),
            SV.str (ByteArray.mk #[(116 : UInt8), (97 : UInt8), (110 : UInt8)]), SV.str (ByteArray.mk #[(116 : UInt8), (97 : UInt8), (110 : UInt8)]), SV.str (ByteArray.mk #[]),
            SV.str (ByteArray.mk #[(105 : UInt8), (97 : UInt8)]), SV.str (ByteArray.mk #[(105 : UInt8), (110 : UInt8)]), SV.str (ByteArray.mk #[(105 : UInt8)]),
            SV.str (ByteArray.mk #[(105 : UInt8), (97 : UInt8)]), SV.str (ByteArray.mk #[(105 : UInt8), (98 : UInt8), (112 : UInt8)]), SV.str (ByteArray.mk #[(105 : UInt8), (97 : UInt8)]),
            SV.str (ByteArray.mk #[(105 : UInt8), (97 : UInt8), (111 : UInt8), (98 : UInt8), (112 : UInt8)]), SV.str (ByteArray.mk #[(105 : UInt8)]),
            SV.str (ByteArray.mk #[(105 : UInt8), (98 : UInt8), (112 : UInt8)]), SV.str (ByteArray.mk #[(105 : UInt8)]), SV.str (ByteArray.mk #[(116 : UInt8), (110 : UInt8)]),
            SV.str (ByteArray.mk #[(116 : UInt8), (110 : UInt8)])]
            T0)),
            ((1000003 : Nat), some ((3 : Nat), CH.ro (U := MapC) [SV.r32 (8 : Nat) f1] T1)), ((1000004 : Nat), some ((4 : Nat), CH.ro (U := MapC) [SV.r32 (64 : Nat) f2] T2))]) ∧
            ∀
            (a :
            LInv.α
            (LInv.mk (Nat × Nat) [(3 : Nat), (6 : Nat), (27 : Nat), (28 : Nat), (29 : Nat)] [(3021 : Nat), (1000000 : Nat), (1000003 : Nat), (1000004 : Nat)]
            (fun (a : Nat × Nat) ↦
            ([((3 : Nat), SV.ptr (3021 : Nat) (Prod.fst a) (0 : Nat) (0 : Nat)), ((6 : Nat), SV.u64 (0 : BitVec (64 : Nat))), ((27 : Nat), SV.slc (1 : Nat) n off (0 : Nat) (0 : Nat) cap),
            ((28 : Nat), SV.i (0 : Int)), ((29 : Nat), SV.i (0 : Int))],
            [((3021 : Nat), some (Prod.fst a, machC (Prod.snd a) (0 : BitVec (64 : Nat)) (0 : Int) (0 : Int))), ((1000000 : Nat), some ((0 : Nat), CH.ro (U := MapC) (List.map SV.str signsL) T0)),
            ((1000003 : Nat), some ((3 : Nat), CH.ro (U := MapC) [SV.r32 (8 : Nat) f1] T1)), ((1000004 : Nat), some ((4 : Nat), CH.ro (U := MapC) [SV.r32 (64 : Nat) f2] T2))]))
            fun (x : Nat × Nat) ↦ (0 : Nat))),
            ∃ (h : Prod.fst a = Prod.fst a),
            ∀ (y : Unit),
            Q (SV.b true)
            [some
            ((0 : Nat),
            CH.ro (U := MapC)
            [SV.str (ByteArray.mk #[(116 : UInt8), (97 : UInt8), (110 : UInt8)]), SV.str (ByteArray.mk #[(115 : UInt8), (116 : UInt8), (97 : UInt8), (110 : UInt8)]),
            SV.str (ByteArray.mk #[(116 : UInt8), (97 : UInt8), (110 : UInt8)]), SV.str (ByteArray.mk #[(116 : UInt8), (97 : UInt8), (110 : UInt8)]), SV.str (ByteArray.mk #[]),
            SV.str (ByteArray.mk #[(105 : UInt8), (97 : UInt8)]), SV.str (ByteArray.mk #[(105 : UInt8), (110 : UInt8)]), SV.str (ByteArray.mk #[(105 : UInt8)]),
            SV.str (ByteArray.mk #[(105 : UInt8), (97 : UInt8)]), SV.str (ByteArray.mk #[(105 : UInt8), (98 : UInt8), (112 : UInt8)]), SV.str (ByteArray.mk #[(105 : UInt8), (97 : UInt8)]),
            SV.str (ByteArray.mk #[(105 : UInt8), (97 : UInt8), (111 : UInt8), (98 : UInt8), (112 : UInt8)]), SV.str (ByteArray.mk #[(105 : UInt8)]),
            SV.str (ByteArray.mk #[(105 : UInt8), (98 : UInt8), (112 : UInt8)]), SV.str (ByteArray.mk #[(105 : UInt8)]), SV.str (ByteArray.mk #[(116 : UInt8), (110 : UInt8)]),
            SV.str (ByteArray.mk #[(116 : UInt8), (110 : UInt8)])]
            T0),
            some ((3 : Nat), CH.ro (U := MapC) [SV.r32 (8 : Nat) f1] T1), some ((4 : Nat), CH.ro (U := MapC) [SV.r32 (64 : Nat) f2] T2)]) := by kernel_rfl

end Go.Proofs
