import Derived.Test.YtgongenkdkiifaaGreatDoorMg2
set_option linter.unusedVariables false
set_option linter.unusedSimpArgs false
set_option maxRecDepth 100000
namespace Go.Proofs
open Go.Eng
/-- a step that only goes on by so many blocks -/
def sp_stepA : SV → Option Int
  | .agg [.u8 k, .nils, .i x, .u32 b, .u8 c] => (match decide (k = 1#8 ∧ b = 0#32 ∧ c = 0#8) with | true => some x | false => none)
  | _ => none
theorem sp_stepA_eq {v : SV} {x : Int} (h : sp_stepA v = some x) : v = .agg [.u8 1#8, .nils, .i x, .u32 0#32, .u8 0#8] := by
  unfold sp_stepA at h
  split at h
  · split at h
    · rename_i hd
      simp only [decide_eq_true_eq] at hd
      obtain ⟨rfl, rfl, rfl⟩ := hd
      injection h with h
      subst h
      rfl
    · simp at h
  · simp at h
def sp_one : Nat → List SV → List (Nat × CH MapC) → Option (Out MapC) := fun _ vs cs =>
  match vs with
  | [m, s] => (match sp_mach m cs, sp_stepA s with
    | some (n, n', nb, blk, dn, rf), some x => some ⟨[n = n', blk.toNat ≤ 549755813888], Unit, (), fun _ => (.tup [.nils, .i (tickE x)], [(3021, some (n', machC nb (tickB blk x) dn rf))])⟩
    | _, _ => none)
  | _ => none
def sp_step : Nat → List SV → List (Nat × CH MapC) → Option (Out MapC) := fun _ vs cs =>
  match vs with
  | [m, s] => (match sp_mach m cs, sp_stepA s with
    | some (n, n', nb, blk, dn, rf), some x => some ⟨[n = n', blk.toNat ≤ 549755813888], Unit, (), fun _ => (.agg [.i (tickE x), .nils], [(3021, some (n', machC nb (tickB blk x) (tickD dn x) (tickR rf x)))])⟩
    | _, _ => none)
  | _ => none
theorem ok_one : SpecOk rhoM Tryz.prog 15 (hSp kM sp_one) := by
  refine hsp_ok (Iv := iv_0) sg_2 (fn := Tryz.f15) (by kernel_rfl) ck_machine_Machine_one 2 (by kernel_rfl) ?_
  intro d vs cs o hlen ho hp
  unfold sp_one at ho
  split at ho
  · split at ho
    · rename_i n n' nb blk dn rf x hm hs
      obtain ⟨rfl, rfl⟩ := sp_mach_eq hm
      have := sp_stepA_eq hs
      subst this
      simp only [Option.some.injEq] at ho
      subst ho
      obtain ⟨hn, hb⟩ : n = n' ∧ blk.toNat ≤ 549755813888 := hp
      subst hn
      refine ⟨show nodupB [3021] = true from by decide, by kernel_rfl, [3021], by decide, ?_⟩
      refine (sx_one n nb n blk dn rf x _).mpr ?_
      intro y
      exact ⟨rfl, rfl, rfl, hb, fun _ => ⟨(), rfl, by simp [OutsL, simC, machC]⟩⟩
    · simp at ho
  · simp at ho
theorem ok_log : SpecOk rhoM Tryz.prog 8 (hSp kM sp_log) := by
  refine hsp_ok (Iv := iv_0) sg_2 (fn := Tryz.f8) (by kernel_rfl) ck_machine_Machine_Log 1 (by kernel_rfl) ?_
  intro d vs cs o hlen ho hp
  unfold sp_log at ho
  split at ho
  · rename_i m
    split at ho
    · rename_i n n' nb blk dn rf hm
      obtain ⟨rfl, rfl⟩ := sp_mach_eq hm
      simp only [Option.some.injEq] at ho
      subst ho
      have hn : n = n' := hp
      subst hn
      refine ⟨show nodupB [3021] = true from by decide, by kernel_rfl, [3021], by decide, ?_⟩
      refine (sx_log n 0 nb n blk dn rf 91 _).mpr ?_
      exact ⟨rfl, (), rfl, by simp [OutsL, simC, machC]⟩
    · simp at ho
  · simp at ho
def Sg_3 : Specs MapC := Sg_2.add 15 (hSp kM sp_one)
theorem sg_3 : SgOk rhoM Tryz.prog Sg_3 := sg_2.add ok_one
set_option maxRecDepth 100000 in
theorem sx_step (n nb n' : Nat) (blk : BitVec 64) (dn rf x : Int) (Q : SV → List (Option (Nat × CH MapC)) → Prop) : (fnT Sg_3 iv_0 rc_machine_Machine_Step rv_machine_Machine_Step [.ptr 3021 n 0 0, .agg [.u8 1#8, .nils, .i x, .u32 0#32, .u8 0#8]] [(3021, some (n', .cells [.ptr 0 nb 0 0, .u64 blk, .nils, .i dn, .i rf] 91))] (fun r s => Q r ([3021].map s.h))) = (
  ∀ (y y_1 : Nat),
  y = y ∧
    ∃ (h : (0 : Nat) = (0 : Nat)),
      ∃ (h : n = n'),
        ∃ (h : BitVec.toNat blk ≤ (549755813888 : Nat)),
          ∀ (y : Unit),
            bif tickE x != (0 : Int) then
              n = n' ∧
                ∃ (h : (1 : Nat) = (1 : Nat)),
                  n = n' ∧
                    ∃ (h : (0 : Nat) = (0 : Nat)),
                      ∃ (h : (1 : Nat) = (1 : Nat)),
                        ∃ (h : (0 : Nat) = (0 : Nat)),
                          ∃ (h : (2 : Nat) = (2 : Nat)),
                            y_1 = y_1 ∧
                              ∃ (h : (0 : Nat) = (0 : Nat)),
                                y_1 = y_1 ∧
                                  ∃ (h : (0 : Nat) = (0 : Nat)),
                                    Q (SV.agg [SV.i (tickE x), SV.nils]) [some (n, CH.cells (U := MapC) [SV.ptr (0 : Nat) nb (0 : Nat) (0 : Nat), SV.u64 (tickB blk x), SV.nils, SV.i dn, SV.i (IntKind.wrap IntKind.i64 (rf + (1 : Int)))] (91 : TypeId))]
            else
              n = n' ∧
                ∃ (h : (1 : Nat) = (1 : Nat)),
                  n = n' ∧
                    ∃ (h : (0 : Nat) = (0 : Nat)),
                      n = n ∧
                        ∃ (h : (1 : Nat) = (1 : Nat)),
                          n = n ∧
                            ∃ (h : (0 : Nat) = (0 : Nat)),
                              ∃ (h : (1 : Nat) = (1 : Nat)),
                                ∃ (h : (0 : Nat) = (0 : Nat)),
                                  ∃ (h : (2 : Nat) = (2 : Nat)),
                                    y_1 = y_1 ∧
                                      ∃ (h : (0 : Nat) = (0 : Nat)),
                                        y_1 = y_1 ∧
                                          ∃ (h : (0 : Nat) = (0 : Nat)),
                                            Q (SV.agg [SV.i (0 : Int), SV.nils])
                                              [some (n, CH.cells (U := MapC) [SV.ptr (0 : Nat) nb (0 : Nat) (0 : Nat), SV.u64 (tickB blk x), SV.nils, SV.i (IntKind.wrap IntKind.i64 (dn + (1 : Int))), SV.i rf] (91 : TypeId))]) := by kernel_rfl

end Go.Proofs
