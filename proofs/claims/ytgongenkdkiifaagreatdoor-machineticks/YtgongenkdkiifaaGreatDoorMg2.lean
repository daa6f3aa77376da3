import Derived.Test.YtgongenkdkiifaaGreatDoorMg1
import Derived.Test.YtgongenkdkiifaaGreatDoorMf
set_option linter.unusedVariables false
set_option linter.unusedSimpArgs false
set_option maxRecDepth 100000
namespace Go.Proofs
open Go.Eng
def badB (x : Int) : Bool := decide (x < 0) || decide (1048576 < x)
def tickE (x : Int) : Int := cond (badB x) 1 0
def tickB (blk : BitVec 64) (x : Int) : BitVec 64 := cond (badB x) blk (blk + BitVec.ofInt 64 x)
def tickD (dn x : Int) : Int := cond (badB x) dn (IntKind.i64.wrap (dn + 1))
def tickR (rf x : Int) : Int := cond (badB x) (IntKind.i64.wrap (rf + 1)) rf
def kM : List SV → List Nat := fun _ => [3021]
/-- a machine, and its chunk -/
def sp_mach (v : SV) (cs : List (Nat × CH MapC)) : Option (Nat × Nat × Nat × BitVec 64 × Int × Int) :=
  match v, cs with
  | .ptr k n b o, [(n', .cells [.ptr kq nb bq oq, .u64 blk, .nils, .i dn, .i rf] T)] => (match decide (k = 3021 ∧ b = 0 ∧ o = 0 ∧ kq = 0 ∧ bq = 0 ∧ oq = 0 ∧ T = 91) with | true => some (n, n', nb, blk, dn, rf) | false => none)
  | _, _ => none
theorem sp_mach_eq {v : SV} {cs : List (Nat × CH MapC)} {n n' nb : Nat} {blk : BitVec 64} {dn rf : Int} (h : sp_mach v cs = some (n, n', nb, blk, dn, rf)) : v = .ptr 3021 n 0 0 ∧ cs = [(n', machC nb blk dn rf)] := by
  unfold sp_mach at h
  split at h
  · split at h
    · rename_i hd
      simp only [decide_eq_true_eq] at hd
      obtain ⟨rfl, rfl, rfl, rfl, rfl, rfl, rfl⟩ := hd
      simp only [Option.some.injEq, Prod.mk.injEq] at h
      obtain ⟨rfl, rfl, rfl, rfl, rfl, rfl⟩ := h
      exact ⟨rfl, rfl⟩
    · simp at h
  · simp at h
def sp_tick : Nat → List SV → List (Nat × CH MapC) → Option (Out MapC) := fun _ vs cs =>
  match vs with
  | [m, .i x] => (match sp_mach m cs with
    | some (n, n', nb, blk, dn, rf) => some ⟨[n = n', blk.toNat ≤ 549755813888], Unit, (), fun _ => (.i (tickE x), [(3021, some (n', machC nb (tickB blk x) dn rf))])⟩
    | none => none)
  | _ => none
def sp_block : Nat → List SV → List (Nat × CH MapC) → Option (Out MapC) := fun _ vs cs =>
  match vs with
  | [m] => (match sp_mach m cs with
    | some (n, n', nb, blk, dn, rf) => some ⟨[n = n'], Unit, (), fun _ => (.u64 blk, [(3021, some (n', machC nb blk dn rf))])⟩
    | none => none)
  | _ => none
def sp_log : Nat → List SV → List (Nat × CH MapC) → Option (Out MapC) := fun _ vs cs =>
  match vs with
  | [m] => (match sp_mach m cs with
    | some (n, n', nb, blk, dn, rf) => some ⟨[n = n'], Unit, (), fun _ => (.nils, [(3021, some (n', machC nb blk dn rf))])⟩
    | none => none)
  | _ => none
def cloneF : List SV → Option (List DP × SV)
  | [.nils] => some ([], .nils)
  | _ => none
theorem ok_clone16 : SpecOk rhoM Tryz.prog 16 (pureSp cloneF) := by
  refine pure_ok (Iv := iv_0) sg_0 (fn := Tryz.f16) (by kernel_rfl) ck_slices_Clone__event_Event_event_Event 1 (by decide) ?_
  intro vs p v h hp
  unfold cloneF at h
  split at h
  · simp only [Option.some.injEq, Prod.mk.injEq] at h
    obtain ⟨rfl, rfl⟩ := h
    refine ⟨by simp, ?_⟩
    exact (sx_clone (fun r _ => r = .nils)).mpr rfl
  · simp at h
theorem tick_lt {blk : BitVec 64} {x : Int} (h : blk.toNat ≤ 549755813888) (h0 : ¬ x < 0) (h1 : ¬ 1048576 < x) : ¬ (1099511627776#64 < blk + BitVec.ofInt 64 x) := by
  rw [BitVec.lt_def, BitVec.toNat_add]
  have : (BitVec.ofInt 64 x).toNat = x.toNat := by
    rw [BitVec.toNat_ofInt]
    omega
  rw [this]
  simp
  omega
theorem ok_tick : SpecOk rhoM Tryz.prog 28 (hSp kM sp_tick) := by
  refine hsp_ok (Iv := iv_0) sg_0 (fn := Tryz.f28) (by kernel_rfl) ck_machine_Machine_tick 2 (by kernel_rfl) ?_
  intro d vs cs o hlen ho hp
  unfold sp_tick at ho
  split at ho
  · rename_i m x
    split at ho
    · rename_i n n' nb blk dn rf hm
      obtain ⟨rfl, rfl⟩ := sp_mach_eq hm
      simp only [Option.some.injEq] at ho
      subst ho
      obtain ⟨hn, hb⟩ : n = n' ∧ blk.toNat ≤ 549755813888 := hp
      subst hn
      refine ⟨show nodupB [3021] = true from by decide, by kernel_rfl, [3021], by decide, ?_⟩
      refine (sx_tick n 0 nb n blk dn rf x 91 _).mpr ?_
      have e : ∀ (E : Int) (B : BitVec 64), tickE x = E → tickB blk x = B → EndP (⟨[n = n, blk.toNat ≤ 549755813888], Unit, (), fun _ => (.i (tickE x), [(3021, some (n, machC nb (tickB blk x) dn rf))])⟩ : Out MapC) (.i E) [some (n, .cells [.ptr 0 nb 0 0, .u64 B, .nils, .i dn, .i rf] 91)] := by
        rintro _ _ rfl rfl
        exact ⟨(), rfl, by simp [OutsL, simC, machC]⟩
      by_cases h0 : x < 0
      · simp only [h0, decide_true, Bool.true_eq_false, decide_false, cond_true, cond_false, Bool.false_eq_true]
        exact e 1 blk (by simp [tickE, badB, h0]) (by simp [tickB, badB, h0])
      · by_cases h1 : 1048576 < x
        · simp only [h0, h1, decide_true, decide_false, cond_true, cond_false]
          exact e 1 blk (by simp [tickE, badB, h0, h1]) (by simp [tickB, badB, h0, h1])
        · simp only [h0, h1, decide_true, decide_false, cond_true, cond_false, tick_lt hb h0 h1, true_and, exists_prop, and_self]
          exact e 0 _ (by simp [tickE, badB, h0, h1]) (by simp [tickB, badB, h0, h1])
    · simp at ho
  · simp at ho
theorem ok_block : SpecOk rhoM Tryz.prog 7 (hSp kM sp_block) := by
  refine hsp_ok (Iv := iv_0) sg_0 (fn := Tryz.f7) (by kernel_rfl) ck_machine_Machine_Block 1 (by kernel_rfl) ?_
  intro d vs cs o hlen ho hp
  unfold sp_block at ho
  split at ho
  · rename_i m
    split at ho
    · rename_i n n' nb blk dn rf hm
      obtain ⟨rfl, rfl⟩ := sp_mach_eq hm
      simp only [Option.some.injEq] at ho
      subst ho
      have hn : n = n' := hp
      subst hn
      refine ⟨show nodupB [3021] = true from by decide, by kernel_rfl, [3021], by decide, ?_⟩
      refine (sx_block n 0 nb n blk dn rf 91 _).mpr ?_
      exact ⟨rfl, (), rfl, by simp [OutsL, simC, machC]⟩
    · simp at ho
  · simp at ho
def Sg_2 : Specs MapC := (Sg_0.add 28 (hSp kM sp_tick)).add 16 (pureSp cloneF)
theorem sg_2 : SgOk rhoM Tryz.prog Sg_2 := (sg_0.add ok_tick).add ok_clone16
set_option maxRecDepth 100000 in
theorem sx_log (n kq nb n' : Nat) (blk : BitVec 64) (dn rf : Int) (T : Nat) (Q : SV → List (Option (Nat × CH MapC)) → Prop) : (fnT Sg_2 iv_0 rc_machine_Machine_Log rv_machine_Machine_Log [.ptr 3021 n 0 0] [(3021, some (n', .cells [.ptr kq nb 0 0, .u64 blk, .nils, .i dn, .i rf] T))] (fun r s => Q r ([3021].map s.h))) = (
  n = n' ∧ Q SV.nils [some (n', CH.cells (U := MapC) [SV.ptr kq nb (0 : Nat) (0 : Nat), SV.u64 blk, SV.nils, SV.i dn, SV.i rf] T)]) := by kernel_rfl

set_option maxRecDepth 100000 in
theorem sx_one (n nb n' : Nat) (blk : BitVec 64) (dn rf x : Int) (Q : SV → List (Option (Nat × CH MapC)) → Prop) : (fnT Sg_2 iv_0 rc_machine_Machine_one rv_machine_Machine_one [.ptr 3021 n 0 0, .agg [.u8 1#8, .nils, .i x, .u32 0#32, .u8 0#8]] [(3021, some (n', .cells [.ptr 0 nb 0 0, .u64 blk, .nils, .i dn, .i rf] 91))] (fun r s => Q r ([3021].map s.h))) = (
  ∀ (y : Nat),
  y = y ∧
    y = y ∧
      ∃ (h : n = n'),
        ∃ (h : BitVec.toNat blk ≤ (549755813888 : Nat)), ∀ (y : Unit), Q (SV.tup [SV.nils, SV.i (tickE x)]) [some (n', CH.cells (U := MapC) [SV.ptr (0 : Nat) nb (0 : Nat) (0 : Nat), SV.u64 (tickB blk x), SV.nils, SV.i dn, SV.i rf] (91 : TypeId))]) := by kernel_rfl

end Go.Proofs
