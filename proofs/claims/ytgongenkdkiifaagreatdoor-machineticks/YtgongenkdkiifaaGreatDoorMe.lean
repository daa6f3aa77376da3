/- lives: its contract. -/
import Derived.Test.YtgongenkdkiifaaGreatDoorMe0
set_option linter.unusedVariables false
set_option maxRecDepth 100000
namespace Go.Proofs
open Go.Eng
theorem SgR_d {base : Specs MapC} {tab : List FE} {n g : Nat} {sp : Go.Eng.Spec MapC} {e : FE} (hl : lookF tab g = some e) (h : (SgR base tab (n + 1)).f g = some sp) (d : Nat) (vs : List SV) : sp d vs = sp 0 vs := by
  have h : (match lookF tab g with | some e => some (fnR (SgR base tab n) e.nt e.rc e.rvs) | none => base.f g) = some sp := h
  rw [hl] at h
  injection h with h
  subst h
  rfl
theorem ok_lives : SpecOk rhoM Tryz.prog 4 (hSp kL sp_lives) := by
  obtain ⟨sp, hsp⟩ := some_of (ev_lives (fun _ _ x => x) (fun _ => 0) (fun _ => 0) (0, 0, 0) (0, 0, 0) (0, 0, 0)).1
  refine hrun_ok (sgL.f 4 sp hsp) ?_
  intro d vs cs o hlen ho hp
  unfold sp_lives at ho
  split at ho
  · rename_i n0 l T0 n1 f1 T1 n2 f2 T2
    split at ho
    · rename_i hl
      simp only [Option.some.injEq] at ho
      subst ho
      have := strsB_eq hl
      subst this
      obtain ⟨hn0, hn1, hn2⟩ : n0 = 0 ∧ n1 = 3 ∧ n2 = 4 := hp
      subst hn0; subst hn1; subst hn2
      refine ⟨show nodupB [1000000, 1000003, 1000004] = true from by decide, [1000000, 1000003, 1000004], by decide, ?_⟩
      have hd : sp d [] = sp 0 [] := by
        have hlk : lookF tabL 4 = some ⟨4, 39, rc_sponsionlaw26_lives, rv_sponsionlaw26_lives⟩ := by kernel_rfl
        exact SgR_d (n := 59) hlk hsp d []
      rw [hd]
      have := closed_H (t := fun _ => none) (r := sp 0 []) (h := tabs3 f1 f2 T0 T1 T2) (G := okL) (ks := [1000000, 1000003, 1000004]) (v := [some (0, .ro (signsL.map .str) T0), some (3, .ro [.r32 8 f1] T1), some (4, .ro [.r32 64 f2] T2)])
        (fun ν => by have := (ev_lives ν f1 f2 T0 T1 T2).1; unfold livesQ at this; rw [hsp] at this; exact this)
        (fun ν => by have := (ev_lives ν f1 f2 T0 T1 T2).2.1; unfold livesQ at this; rw [hsp] at this; exact this)
        (fun ν => by have := (ev_lives ν f1 f2 T0 T1 T2).2.2; unfold livesQ at this; rw [hsp] at this; exact this)
      refine R.T_mono _ ?_ this
      rintro _ _ ⟨v, ws⟩ ⟨h1, h2⟩
      simp only [okL] at h1
      split at h1
      · subst h1
        refine ⟨(), rfl, ?_⟩
        show OutsL ([1000000, 1000003, 1000004].map (putH (tabs3 f1 f2 T0 T1 T2) ws)) _
        rw [h2]
        simp [outL, OutsL, simC]
      · simp at h1
    · simp at ho
  · simp at ho
end Go.Proofs
