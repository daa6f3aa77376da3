/- What a machine is at the beginning: the contract of begin. -/
import Derived.Test.YtgongenkdkiifaaGreatDoorMf0
import Derived.Test.YtgongenkdkiifaaGreatDoorMe
set_option linter.unusedVariables false
set_option maxRecDepth 100000
namespace Go.Proofs
open Go.Eng
def confN : List SV → Option Nat
  | [.agg [.i a, .i b, .u64 c1, .u64 c2, .u64 c3, .u64 c4, .u64 c5, .slc k n o1 o2 l c]] =>
    match decide (a = 0 ∧ b = 0 ∧ c1 = 0#64 ∧ c2 = 0#64 ∧ c3 = 0#64 ∧ c4 = 0#64 ∧ c5 = 0#64 ∧ k = 3019 ∧ o1 = 0 ∧ o2 = 0 ∧ l = 2 ∧ c = 2) with | true => some n | false => none
  | _ => none
theorem confN_eq {vs : List SV} {n : Nat} (h : confN vs = some n) : vs = [confV n] := by
  unfold confN at h
  split at h
  · split at h
    · rename_i hd
      simp only [decide_eq_true_eq] at hd
      obtain ⟨rfl, rfl, rfl, rfl, rfl, rfl, rfl, rfl, rfl, rfl, rfl, rfl⟩ := hd
      injection h with h
      subst h
      rfl
    · simp at h
  · simp at h
def knotsB : List SV → Bool
  | [.val (.complex .f64 a b), .val (.complex .f64 c d)] => decide (a = 0 ∧ b = 0 ∧ c = 4696837146684686336 ∧ d = 0)
  | _ => false
theorem knotsB_eq {l : List SV} (h : knotsB l = true) : l = knotsV := by
  unfold knotsB at h
  split at h
  · simp only [decide_eq_true_eq] at h
    obtain ⟨rfl, rfl, rfl, rfl⟩ := h
    rfl
  · simp at h
/-- a machine's chunk: its bridge, its block, how many steps were done and refused; nothing told -/
def machC (nb : Nat) (blk : BitVec 64) (dn rf : Int) : CH MapC := .cells [.ptr 0 nb 0 0, .u64 blk, .nils, .i dn, .i rf] 91
def kBeg : List SV → List Nat := fun _ => [3019, 1000003, 1000004]
def outBeg (d n nk : Nat) (f1 f2 : Nat → BitVec 32) (n1 n2 : Nat) (T1 T2 : RT) : Out MapC :=
  ⟨[n = nk, n1 = 3, n2 = 4], Nat × Nat × (Nat → Value), (0, 0, fun _ => .bool false), fun x => (.tup [.ptr d x.1 0 0, .rv 934 x.2.2, .i 0],
    [(d, some (x.1, machC x.2.1 0 0 0)), (1000003, some (n1, .ro [.r32 8 f1] T1)), (1000004, some (n2, .ro [.r32 64 f2] T2))])⟩
def sp_begin : Nat → List SV → List (Nat × CH MapC) → Option (Out MapC) := fun d vs cs =>
  match confN vs, cs with
  | some n, [(nk, .cells l T), (n1, .ro [.r32 8 f1] T1), (n2, .ro [.r32 64 f2] T2)] => (match knotsB l with | true => some (outBeg d n nk f1 f2 n1 n2 T1 T2) | false => none)
  | _, _ => none
theorem machB_eq {q : Option (Nat × CH MapC)} (h : machB q = true) : ∃ m p nb, q = some (m, .cells [.ptr p nb 0 0, .u64 0, .nils, .i 0, .i 0] 91) := by
  unfold machB at h
  split at h
  · rename_i m p b l d r T
    simp only [Bool.and_eq_true] at h
    obtain ⟨⟨⟨⟨⟨h1, h2⟩, h3⟩, h4⟩, h5⟩, h6⟩ := h
    have h6 := Nat.eq_of_beq_eq_true h6
    subst h6
    cases p <;> simp only [isPtr00, Bool.false_eq_true, Bool.and_eq_true] at h1
    have e1 := Nat.eq_of_beq_eq_true h1.1
    have e2 := Nat.eq_of_beq_eq_true h1.2
    subst e1; subst e2
    cases b <;> simp only [isU0, Bool.false_eq_true] at h2
    have e3 := Nat.eq_of_beq_eq_true h2
    have e3 := BitVec.eq_of_toNat_eq (y := 0#64) e3
    subst e3
    cases l <;> simp only [isNils, Bool.false_eq_true] at h3
    cases d <;> simp only [isI0, Bool.false_eq_true, decide_eq_true_eq] at h4
    subst h4
    cases r <;> simp only [isI0, Bool.false_eq_true, decide_eq_true_eq] at h5
    subst h5
    exact ⟨_, _, _, rfl⟩
  · simp at h
theorem ok_begin : SpecOk rhoM Tryz.prog 5 (hSp kBeg sp_begin) := by
  obtain ⟨sp, hsp⟩ := some_of (ev_begin (fun _ _ x => x) 0 0 (fun _ => 0) (fun _ => 0) (0, 0, 0) (0, 0, 0)).1
  refine hrun_ok (sgL.f 5 sp hsp) ?_
  intro d vs cs o hlen ho hp
  unfold sp_begin at ho
  split at ho
  · rename_i n nk l T n1 f1 T1 n2 f2 T2 hc
    split at ho
    · rename_i hl
      simp only [Option.some.injEq] at ho
      subst ho
      have hvs := confN_eq hc
      subst hvs
      have hl := knotsB_eq hl
      subst hl
      obtain ⟨hn0, hn1, hn2⟩ : n = nk ∧ n1 = 3 ∧ n2 = 4 := hp
      subst hn0; subst hn1; subst hn2
      refine ⟨show nodupB [3019, 1000003, 1000004] = true from by decide, [2001598, 1000003, 1000004], by decide, ?_⟩
      have hd : sp d [confV n] = sp 0 [confV n] := by
        have hlk : (lookF tabL 5).isSome = true := by kernel_rfl
        obtain ⟨e, he⟩ := Option.isSome_iff_exists.1 hlk
        exact SgR_d (n := 59) he hsp d _
      rw [hd]
      have key : (sp 0 [confV n]).T0 (fun e => okBeg (tabsB n T f1 f2 T1 T2) e = true ∧ ptrN e.1 = chN (putH (tabsB n T f1 f2 T1 T2) e.2 2001598) ∧ [1000003, 1000004].map (putH (tabsB n T f1 f2 T1 T2) e.2) = [some (3, .ro [.r32 8 f1] T1), some (4, .ro [.r32 64 f2] T2)]) ⟨fun _ => none, tabsB n T f1 f2 T1 T2⟩ := by
        refine ev_T0 _ 0 [] (fun _ _ x => x) ?_
        intro ν _
        obtain ⟨q1, q2, q3, q4⟩ := ev_begin ν n T f1 f2 T1 T2
        unfold beginQ at q1 q2 q3 q4
        rw [hsp] at q1 q2 q3 q4
        cases hq : (sp 0 [confV n]).ev ν 0 (tabsB n T f1 f2 T1 T2) [] with
        | none => rw [show specR (some sp) 0 [confV n] = sp 0 [confV n] from rfl, hq] at q1; simp [evB] at q1
        | some q =>
          obtain ⟨O, e⟩ := q
          rw [show specR (some sp) 0 [confV n] = sp 0 [confV n] from rfl, hq] at q1 q2 q3 q4
          exact ⟨O, e, rfl, allEq_iff.2 (map_eq_all q2), q1, q4, q3⟩
      refine R.T_mono _ ?_ key
      rintro _ _ ⟨v, ws⟩ ⟨h1, h2, h3⟩
      simp only [okBeg] at h1
      split at h1
      · rename_i k m b o W z
        simp only [Bool.and_eq_true] at h1
        obtain ⟨⟨⟨⟨⟨⟨a1, a2⟩, a3⟩, a4⟩, a5⟩, a6⟩, a7⟩ := h1
        have a2 := Nat.eq_of_beq_eq_true a2
        have a3 := Nat.eq_of_beq_eq_true a3
        subst a2; subst a3
        cases z <;> simp only [isI0, Bool.false_eq_true, decide_eq_true_eq] at a4
        subst a4
        have a5 := Nat.eq_of_beq_eq_true a5
        obtain ⟨m', p, nb, hm⟩ := machB_eq a7
        simp only [hm, chN, ptrN] at h2
        subst h2
        have hlen : (cellsL W).length = 934 := by rw [← lenL_eq a6]; exact a5
        have hW : (SV.agg W).den = (SV.rv 934 fun j => (cellsL W).getD j (.bool false)).den := by
          have e1 : (SV.agg W).den = .agg (cellsL W).toArray := by simp [SV.den, cellsL]
          rw [e1]
          simp only [SV.den]
          congr 2
          apply List.ext_getElem
          · simp [hlen]
          · intro j h1 h2
            have hj : (cellsL W)[j] ∈ cellsL W := List.getElem_mem h1
            simp [List.getD, h1, oneV_of (okSegs_one a6 _ hj)]
        refine ⟨(m, nb, fun j => (cellsL W).getD j (.bool false)), ?_, ?_⟩
        · simp only [outBeg, SV.den, denL] at hW ⊢
          rw [hW]
        have h3' : putH (tabsB n T f1 f2 T1 T2) ws 1000003 = some (3, .ro [.r32 8 f1] T1) ∧ putH (tabsB n T f1 f2 T1 T2) ws 1000004 = some (4, .ro [.r32 64 f2] T2) := by simpa using h3
        show OutsL [putH (tabsB n T f1 f2 T1 T2) ws 2001598, putH (tabsB n T f1 f2 T1 T2) ws 1000003, putH (tabsB n T f1 f2 T1 T2) ws 1000004] _
        rw [hm, h3'.1, h3'.2]
        simp [outBeg, OutsL, simC, machC, SV.strip, stripL]
      · simp at h1
    · simp at ho
  · simp at ho
end Go.Proofs
