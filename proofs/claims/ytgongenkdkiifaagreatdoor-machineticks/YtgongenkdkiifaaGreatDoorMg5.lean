import Derived.Test.YtgongenkdkiifaaGreatDoorMg4
set_option linter.unusedVariables false
set_option linter.unusedSimpArgs false
set_option maxRecDepth 100000
namespace Go.Proofs
open Go.Eng
theorem wrap_small {i : Nat} (h : i < 61) : IntKind.wrap IntKind.i64 ((i : Int) + 1) = ((i + 1 : Nat) : Int) := by
  have : ((i : Int) + 1) % 2 ^ 64 = (i : Int) + 1 := by omega
  simp only [IntKind.wrap, IntKind.signed, IntKind.bits, this]
  rw [if_neg (by simp; omega)]
  omega
theorem addB {blk : BitVec 64} {x : Int} {i : Nat} (h0 : ¬ x < 0) (h1 : ¬ 1048576 < x) (hb : blk.toNat ≤ i * 1048576) (hi : i < 61) : (blk + BitVec.ofInt 64 x).toNat ≤ (i + 1) * 1048576 := by
  rw [BitVec.toNat_add, BitVec.toNat_ofInt]
  omega
theorem addB_ne {blk : BitVec 64} {x : Int} {i : Nat} (h0 : ¬ x < 0) (h1 : ¬ 1048576 < x) (hb : blk.toNat ≤ i * 1048576) (hi : i < 61) : (blk + BitVec.ofInt 64 x).toNat = blk.toNat + x.toNat := by
  rw [BitVec.toNat_add, BitVec.toNat_ofInt]
  omega
def LawQ (n off len : Nat) (f : Nat → Int) (ob : Obj) (f1 f2 : Nat → BitVec 32) (T0 T1 T2 : RT) (r : SV) (l : List (Option (Nat × CH MapC))) : Prop :=
  r = .b true ∧ l = [some (n, .sy (.row off [.ri len f] ob)), some (0, .ro (signsL.map .str) T0), some (3, .ro [.r32 8 f1] T1), some (4, .ro [.r32 64 f2] T2)]
def LawQ0 (f1 f2 : Nat → BitVec 32) (T0 T1 T2 : RT) (r : SV) (l : List (Option (Nat × CH MapC))) : Prop :=
  r = .b true ∧ l = [some (0, .ro (signsL.map .str) T0), some (3, .ro [.r32 8 f1] T1), some (4, .ro [.r32 64 f2] T2)]
theorem law_T (n off len cap : Nat) (f : Nat → Int) (ob : Obj) (f1 f2 : Nat → BitVec 32) (T0 T1 T2 : RT) : fnT Sg_5 (iv_law n off len cap f ob f1 f2 T0 T1 T2) rc_sponsionlaw26_MachineTicks rv_sponsionlaw26_MachineTicks [.slc 1 n off 0 len cap]
    [(1, some (n, .sy (.row off [.ri len f] ob))), (1000000, some (0, .ro (signsL.map .str) T0)), (1000003, some (3, .ro [.r32 8 f1] T1)), (1000004, some (4, .ro [.r32 64 f2] T2))]
    (fun r s => LawQ n off len f ob f1 f2 T0 T1 T2 r ([1, 1000000, 1000003, 1000004].map s.h)) := by
  refine (sx_law n off len cap f ob f1 f2 T0 T1 T2 _).mpr ?_
  refine ⟨rfl, rfl, rfl, fun _ => ?_⟩
  cases h60 : decide ((60 : Int) < (len : Int)) with
  | true => exact ⟨rfl, rfl, rfl, fun _ => ⟨rfl, rfl⟩⟩
  | false =>
    have hlen : len ≤ 60 := by have := of_decide_eq_false h60; omega
    simp only [cond_false]
    simp only [exists_prop, true_and]
    refine fun _ y _ => ⟨?_, ?_⟩
    · exact ⟨⟨(0, 0, 0, 0, y.1, y.2.1), by simp⟩, rfl, rfl⟩
    · rintro ⟨⟨i, blk, dn, rf, nm, nb⟩, hi, hb⟩
      dsimp only at hi hb ⊢
      cases hlt : decide ((i : Int) < (len : Int)) with
      | false => simp only [cond_false, exists_prop, true_and]; exact fun _ => ⟨rfl, rfl⟩
      | true =>
        have hlt' : i < len := by have := of_decide_eq_true hlt; omega
        have e : 0 + Int.toNat (i : Int) * 1 = i := by simp
        have hi0 : (0 : Int) ≤ i ∧ (i : Int) < len := by omega
        have hbl : blk.toNat ≤ 549755813888 := by omega
        simp only [cond_true, e, exists_prop, true_and, hi0, hlt', hbl, and_self]
        have ew := wrap_small (show i < 61 by omega)
        have d1 : decide (true = false) = false := rfl
        have d2 : decide (false = false) = true := rfl
        have d3 : ((1 : Int) != 1) = false := rfl
        have d4 : ((0 : Int) != 1) = true := rfl
        have d6 : ((1 : Int) != 0) = true := rfl
        have d7 : ((0 : Int) != 0) = false := rfl
        have d5 : (blk != blk) = false := by simp
        have hb1 : blk.toNat ≤ (i + 1) * 1048576 := Nat.le_trans hb (Nat.mul_le_mul_right _ (Nat.le_succ i))
        intro _ _
        by_cases hx0 : f i < 0
        · have hd0 : decide (f i < 0) = true := by simpa using hx0
          have hbad : badB (f i) = true := by simp [badB, hx0]
          have e1 : tickE (f i) = 1 := by simp [tickE, hbad]
          have e2 : tickB blk (f i) = blk := by simp [tickB, hbad]
          simp only [hd0, e1, e2, d1, d2, d3, d5, decide_true, decide_false, cond_true, cond_false, ew]
          exact fun _ => ⟨⟨(i + 1, blk, _, _, nm, nb), hlt', hb1⟩, ⟨rfl, rfl⟩, by show len - (i + 1) < len - i; omega⟩
        · have hd0 : decide (f i < 0) = false := by simpa using hx0
          by_cases hx1 : 1048576 < f i
          · have hd1 : decide (1048576 < f i) = true := by simpa using hx1
            have hbad : badB (f i) = true := by simp [badB, hx1]
            have e1 : tickE (f i) = 1 := by simp [tickE, hbad]
            have e2 : tickB blk (f i) = blk := by simp [tickB, hbad]
            simp only [hd0, hd1, e1, e2, d1, d2, d3, d5, decide_true, decide_false, cond_true, cond_false, ew]
            exact fun _ => ⟨⟨(i + 1, blk, _, _, nm, nb), hlt', hb1⟩, ⟨rfl, rfl⟩, by show len - (i + 1) < len - i; omega⟩
          · have hd1 : decide (1048576 < f i) = false := by simpa using hx1
            have hbad : badB (f i) = false := by simp [badB, hx0, hx1]
            have e1 : tickE (f i) = 0 := by simp [tickE, hbad]
            have e2 : tickB blk (f i) = blk + BitVec.ofInt 64 (f i) := by simp [tickB, hbad]
            have d8 : ((blk + BitVec.ofInt 64 (f i)) != (blk + BitVec.ofInt 64 (f i))) = false := by simp
            simp only [hd0, hd1, e1, e2, d8, d1, d2, d3, d4, d5, d6, d7, decide_true, decide_false, cond_true, cond_false, ew]
            exact fun _ => ⟨⟨(i + 1, blk + BitVec.ofInt 64 (f i), _, _, nm, nb), hlt', addB hx0 hx1 hb (by omega)⟩, ⟨rfl, rfl⟩, by show len - (i + 1) < len - i; omega⟩
theorem law_T0 (f1 f2 : Nat → BitVec 32) (T0 T1 T2 : RT) : fnT Sg_5 (iv_nil f1 f2 T0 T1 T2) rc_sponsionlaw26_MachineTicks rv_sponsionlaw26_MachineTicks [.nils]
    [(1000000, some (0, .ro (signsL.map .str) T0)), (1000003, some (3, .ro [.r32 8 f1] T1)), (1000004, some (4, .ro [.r32 64 f2] T2))]
    (fun r s => LawQ0 f1 f2 T0 T1 T2 r ([1000000, 1000003, 1000004].map s.h)) := by
  refine (sx_law0 f1 f2 T0 T1 T2 _).mpr ?_
  simp only [exists_prop, true_and]
  refine fun _ _ y _ => ⟨?_, ?_⟩
  · exact ⟨(y.1, y.2.1), rfl, rfl⟩
  · exact fun a _ => ⟨rfl, rfl⟩
theorem law_TE (n off cap : Nat) (f1 f2 : Nat → BitVec 32) (T0 T1 T2 : RT) : fnT Sg_5 (iv_lawE n off cap f1 f2 T0 T1 T2) rc_sponsionlaw26_MachineTicks rv_sponsionlaw26_MachineTicks [.slc 1 n off 0 0 cap]
    [(1000000, some (0, .ro (signsL.map .str) T0)), (1000003, some (3, .ro [.r32 8 f1] T1)), (1000004, some (4, .ro [.r32 64 f2] T2))]
    (fun r s => LawQ0 f1 f2 T0 T1 T2 r ([1000000, 1000003, 1000004].map s.h)) := by
  refine (sx_lawE n off cap f1 f2 T0 T1 T2 _).mpr ?_
  simp only [exists_prop, true_and]
  refine fun _ _ y _ => ⟨?_, ?_⟩
  · exact ⟨(y.1, y.2.1), rfl, rfl⟩
  · exact fun a _ => ⟨rfl, rfl⟩
end Go.Proofs
