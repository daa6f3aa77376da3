/- A contract out of a run: the callee's chunks alone, the caller's apart. -/
import Derived.Test.YtgongenkdkiifaaGreatDoorEngR
set_option linter.unusedVariables false
namespace Go.Eng
variable {U : Type} {ρ : U → Nat → Hp → Prop} {P : Program}

theorem Does.mono {f : Nat} {args : Array Value} {w : World} {R R' : Ending → World → Prop} (h : Does P f args w R) (hr : ∀ e w', R e w' → R' e w') : Does P f args w R' := by
  rcases h with ⟨v, w', h1, h2⟩ | ⟨h1, h2⟩
  · exact .inl ⟨v, w', h1, hr _ _ h2⟩
  · exact .inr ⟨h1, h2.mono hr⟩
theorem satH.addGh {F : Hp → Prop} {h : Nat → Option (Nat × CH U)} {g : Hp} (x : satH ρ F h g) (n : Nat) : satH ρ F (fun j => if j = 0 then some (n, .sy .gh) else h j) g := by
  obtain ⟨p, r, h1, h2, h3, h4, h5, h6⟩ := x.drop 0
  refine ⟨p, r, ?_, h2, h3, h4, h5, h6⟩
  intro k
  have := h1 k
  by_cases e : k = 0
  · subst e; simp at this; simp; exact this
  · simpa [e] using this
/-- the chunks that are handed over, and the number under key 0 -/
def runH0 (ks : List Nat) (cs : List (Nat × CH U)) : Nat → Option (Nat × CH U) := lookH ((0, some (2000000, .sy .gh)) :: zipH ks cs)
theorem hrun_ok {fi : Nat} {sp1 : Spec U} (h1 : SpecOk ρ P fi sp1) {keys : List SV → List Nat} {f : Nat → List SV → List (Nat × CH U) → Option (Out U)}
    (h : ∀ d vs cs o, (keys vs).length = cs.length → f d vs cs = some o → allP o.pre → nodupB (keys vs) = true ∧ ∃ ls : List Nat, nodupB ls = true ∧
      (sp1 d vs).T0 (fun e => EndP o e.1 (ls.map (putH (runH0 (keys vs) cs) e.2))) ⟨fun _ => none, runH0 (keys vs) cs⟩) : SpecOk ρ P fi (hSp keys f) := by
  refine ⟨?_⟩
  intro F c d vs s w hsat hsame hsafe
  obtain ⟨cs, e1, e2, e3⟩ := rdHs_elim hsafe
  simp only [List.reverse_nil, List.nil_append] at e2 e3
  cases ho : f d vs cs with
  | none => rw [ho] at e2; exact e2.elim
  | some o =>
    rw [ho] at e2 e3
    simp only [outR] at e2 e3
    obtain ⟨hp, _⟩ := asrts_safe e2
    have hlen : (keys vs).length = cs.length := by
      have := congrArg List.length e1
      simpa using this
    obtain ⟨q1, ls, q3, q4⟩ := h d vs cs o hlen ho hp
    have q1 := nodupB_nodup q1
    have q3 := nodupB_nodup q3
    have hl := lend_all (keys vs) s.h (fun _ => none) q1 (fun _ _ => rfl) (fun _ _ => rfl) hsat.shut
    have hl2 := (hl.ext (h' := lookH (zipH (keys vs) cs)) (fun j => by rw [lookH_zip _ _ e1])).addGh 2000000
    have hl3 := hl2.ext (h' := runH0 (keys vs) cs) (fun j => rfl)
    obtain ⟨hsafe', hpath'⟩ := (R.T_iff _).1 q4
    refine Does.mono (h1.calls _ c d vs ⟨fun _ => none, runH0 (keys vs) cs⟩ w hl3 hsame hsafe') ?_
    rintro e w' ⟨α', β', eff, hpa, rfl, h7, h8⟩
    obtain ⟨x, x1, x2⟩ := hpath' _ _ _ hpa
    obtain ⟨h'', h9⟩ := back_all ls _ _ _ q3 (outs_of x2) h7
    obtain ⟨α, β, pth⟩ := e3 [] [] ((o.res x).1, (keys vs).map (fun k => (k, none)) ++ (o.res x).2) (asrts_path hp (.all x .ret))
    refine ⟨_, _, _, pth, ?_, ?_, h8⟩
    · rw [x1]
    · have := h9.reopen
      rw [putH_none] at this
      rw [putH_append]
      exact this
/-- what lies under these keys in the end -/
def evHs (h : Nat → Option (Nat × CH U)) (ks : List Nat) (q : Option (List (Nat × Nat) × Eff U)) : List (Option (Nat × CH U)) := match q with | some (_, e) => ks.map (putH h e.2) | none => []
theorem closed_H {r : R U} {t : Nat → Option SV} {h : Nat → Option (Nat × CH U)} {G : Eff U → Bool} {ks : List Nat} {v : List (Option (Nat × CH U))} (h1 : ∀ ν : Nu, evB G (r.ev ν 0 h []) = true) (h2 : ∀ ν : Nu, evL (r.ev ν 0 h []) = evR (r.ev ν 0 h []))
    (h3 : ∀ ν : Nu, evHs h ks (r.ev ν 0 h []) = v) : r.T0 (fun e => G e = true ∧ ks.map (putH h e.2) = v) ⟨t, h⟩ := by
  refine ev_T0 r 0 [] (fun _ _ x => x) ?_
  intro ν _
  have q1 := h1 ν
  have q2 := h2 ν
  have q3 := h3 ν
  cases hq : r.ev ν 0 h [] with
  | none => rw [hq] at q1; simp [evB] at q1
  | some q =>
    obtain ⟨O, e⟩ := q
    rw [hq] at q1 q2 q3
    exact ⟨O, e, rfl, allEq_iff.2 (map_eq_all q2), q1, q3⟩
end Go.Eng
