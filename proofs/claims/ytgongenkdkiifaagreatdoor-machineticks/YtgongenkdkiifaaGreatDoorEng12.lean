/- Contracts of functions that read and write memory: which chunks they take, and what they give back. -/
import Derived.Test.YtgongenkdkiifaaGreatDoorEngS
set_option linter.unusedVariables false
set_option linter.unusedSimpArgs false
namespace Go.Eng
variable {U : Type} {ρ : U → Nat → Hp → Prop} {P : Program}

mutual
/-- a value without the keys of its pointers -/
def SV.strip : SV → SV
  | .ptr _ n b o => .ptr 0 n 0 (b + o)
  | .slc _ n b o l c => .slc 0 n 0 (b + o) l c
  | .mp _ n => .mp 0 n
  | .fn f cs => .fn f (stripL cs)
  | .agg cs => .agg (stripL cs)
  | .tup cs => .tup (stripL cs)
  | v => v
def stripL : List SV → List SV
  | [] => []
  | v :: vs => v.strip :: stripL vs
end
mutual
theorem strip_den : ∀ v : SV, v.strip.den = v.den
  | .ptr .. => by simp [SV.strip, SV.den]
  | .slc .. => by simp [SV.strip, SV.den]
  | .mp .. => by simp [SV.strip, SV.den]
  | .fn f cs => by simp [SV.strip, SV.den, stripL_den cs]
  | .agg cs => by simp [SV.strip, SV.den, stripL_den cs]
  | .tup cs => by simp [SV.strip, SV.den, stripL_den cs]
  | .und => rfl
  | .val _ => rfl
  | .i _ => rfl
  | .i32 _ => rfl
  | .u8 _ => rfl
  | .u16 _ => rfl
  | .u32 _ => rfl
  | .u64 _ => rfl
  | .b _ => rfl
  | .str _ => rfl
  | .nilp => rfl
  | .nils => rfl
  | .r8 _ _ => rfl
  | .r32 _ _ => rfl
  | .r64 _ _ => rfl
  | .ri _ _ => rfl
  | .rv _ _ => rfl
  | .any .. => rfl
theorem stripL_den : ∀ vs : List SV, denL (stripL vs) = denL vs
  | [] => rfl
  | v :: vs => by simp [stripL, denL, strip_den v, stripL_den vs]
end
/-- do two chunks say the same, but for keys? -/
def simC : CH U → CH U → Prop
  | .cells cs T, .cells cs' T' => stripL cs = stripL cs' ∧ T = T'
  | .ro cs T, .ro cs' T' => stripL cs = stripL cs' ∧ T = T'
  | .obj u, .obj u' => u = u'
  | .sy q, .sy q' => q = q'
  | _, _ => False
theorem simC_holds {c c' : CH U} {n : Nat} {g : Hp} (h : simC c c') (hc : c.holds ρ n g) : c'.holds ρ n g := by
  have e : ∀ {cs cs' : List SV}, stripL cs = stripL cs' → cellsL cs = cellsL cs' := by
    intro cs cs' h
    unfold cellsL
    rw [← stripL_den cs, ← stripL_den cs', h]
  cases c <;> cases c' <;> simp only [simC] at h <;> try exact h.elim
  · obtain ⟨h1, rfl⟩ := h
    simp only [CH.holds] at hc ⊢
    rw [← e h1]; exact hc
  · obtain ⟨h1, rfl⟩ := h
    simp only [CH.holds] at hc ⊢
    rw [← e h1]; exact hc
  · subst h; exact hc
  · subst h; exact hc

/-- what a function gives: what it asks, what is drawn, and what comes of it -/
structure Out (U : Type) where
  pre : List DP
  α : Type
  x : α
  res : α → Eff U
def outR : Option (Out U) → R U
  | some o => R.asrts o.pre (.all o.α o.x fun x => .ret (o.res x))
  | none => .fail
/-- the chunks under these keys -/
def rdHs (kk : List (Nat × CH U) → R U) : List Nat → List (Nat × CH U) → R U
  | [], acc => kk acc.reverse
  | k :: ks, acc => .rdH k fun c => match c with | some c => rdHs kk ks (c :: acc) | none => .fail
/-- a contract: which chunks are taken, by the arguments; what comes of their contents -/
def hSp (keys : List SV → List Nat) (f : Nat → List SV → List (Nat × CH U) → Option (Out U)) : Spec U := fun d vs =>
  rdHs (fun cs => outR (match f d vs cs with
    | some o => some { o with res := fun x => ((o.res x).1, (keys vs).map (fun k => (k, none)) ++ (o.res x).2) }
    | none => none)) (keys vs) []

/-- chunks of a function, as its caller gets them: each from a key of its own -/
def Outs (h : Nat → Option (Nat × CH U)) : List Nat → List (Nat × Option (Nat × CH U)) → Prop
  | [], [] => True
  | l :: ls, (_, some (n, c)) :: os => (match h l with | some (n', c') => n' = n ∧ simC c' c | none => False) ∧ Outs h ls os
  | _, _ => False

theorem rdHs_elim {s : St U} {kk : List (Nat × CH U) → R U} : ∀ {ks : List Nat} {acc : List (Nat × CH U)}, Safe (rdHs kk ks acc) s →
    ∃ cs, ks.map s.h = cs.map some ∧ Safe (kk (acc.reverse ++ cs)) s ∧ ∀ α β e, Path (kk (acc.reverse ++ cs)) s α β e → ∃ α' β', Path (rdHs kk ks acc) s α' β' e := by
  intro ks
  induction ks with
  | nil => intro acc h; exact ⟨[], rfl, by simpa [rdHs] using h, fun α β e p => ⟨α, β, by simpa [rdHs] using p⟩⟩
  | cons k ks ih =>
    intro acc h
    cases hk : s.h k with
    | none => simp [Safe, rdHs, R.T, hk] at h
    | some c =>
      have h' : Safe (rdHs kk ks (c :: acc)) s := by
        simp only [Safe, rdHs, R.T, hk] at h
        exact R.T_mono _ (fun _ _ _ _ => trivial) h
      obtain ⟨cs, h1, h2, h3⟩ := ih h'
      refine ⟨c :: cs, by simp [hk, h1], by simpa using h2, ?_⟩
      intro α β e p
      obtain ⟨α', β', p'⟩ := h3 α β e (by simpa using p)
      refine ⟨α', k :: β', .rdH ?_⟩
      rw [hk]
      exact p'

theorem satH.ext {F : Hp → Prop} {h h' : Nat → Option (Nat × CH U)} {g : Hp} (x : satH ρ F h g) (e : ∀ k, h k = h' k) : satH ρ F h' g := by
  have : h = h' := funext e
  rw [← this]; exact x
theorem satH.frame {F F' : Hp → Prop} {h : Nat → Option (Nat × CH U)} {g : Hp} (x : satH ρ F h g) (e : ∀ r, F r → F' r) : satH ρ F' h g := by
  obtain ⟨p, r, h1, h2, h3, h4, h5, h6⟩ := x
  exact ⟨p, r, h1, h2, h3, e r h4, h5, h6⟩
/-- a chunk said otherwise -/
theorem satH.sim {F : Hp → Prop} {h : Nat → Option (Nat × CH U)} {g : Hp} (x : satH ρ F h g) {k n : Nat} {c c' : CH U} (hk : h k = some (n, c)) (hs : simC c c') : satH ρ F (fun j => if j = k then some (n, c') else h j) g := by
  obtain ⟨p, r, h1, h2, h3, h4, h5, h6⟩ := x
  refine ⟨p, r, ?_, h2, h3, h4, h5, h6⟩
  intro j
  by_cases e : j = k
  · subst e
    have := h1 j
    rw [hk] at this
    simpa using simC_holds hs this
  · simpa [e] using h1 j

/-- which chunks the callee begins with -/
def zipH (ks : List Nat) (cs : List (Nat × CH U)) : List (Nat × Option (Nat × CH U)) := List.zipWith (fun k c => (k, some c)) ks cs

theorem lend_all {F : Hp → Prop} {h0 : Nat → Option (Nat × CH U)} {g : Hp} : ∀ (ks : List Nat) (h h' : Nat → Option (Nat × CH U)), ks.Nodup → (∀ k ∈ ks, h' k = none) → (∀ k ∈ ks, h k = h0 k) → satH ρ (fun r => satH ρ F h r) h' g →
    satH ρ (fun r => satH ρ F (fun j => if j ∈ ks then none else h j) r) (fun j => if j ∈ ks then h0 j else h' j) g := by
  intro ks
  induction ks with
  | nil => intro h h' _ _ _ x; simpa using x
  | cons k ks ih =>
    intro h h' hn hh he x
    have hk := x.lend (k := k) (l := k) (hh k (by simp))
    have hnk : k ∉ ks := (List.nodup_cons.1 hn).1
    have := ih (fun j => if j = k then none else h j) (fun j => if j = k then h k else h' j) (List.nodup_cons.1 hn).2 (by
      intro j hj
      have : j ≠ k := fun e => hnk (e ▸ hj)
      simpa [this] using hh j (by simp [hj])) (by
      intro j hj
      have : j ≠ k := fun e => hnk (e ▸ hj)
      simpa [this] using he j (by simp [hj])) hk
    refine (this.ext ?_).frame ?_
    · intro j
      by_cases e : j = k
      · subst e; simp [hnk, he j (by simp)]
      · simp [e]
    · intro r hr
      refine hr.ext ?_
      intro j
      by_cases e : j = k
      · subst e; simp
      · simp [e]

theorem back_all {F : Hp → Prop} {g : Hp} : ∀ (ls : List Nat) (os : List (Nat × Option (Nat × CH U))) (h h' : Nat → Option (Nat × CH U)), ls.Nodup → Outs h' ls os → satH ρ (fun r => satH ρ F h r) h' g →
    ∃ h'', satH ρ (fun r => satH ρ F (putH h os) r) h'' g := by
  intro ls
  induction ls with
  | nil => intro os h h' _ ho x; cases os with | nil => exact ⟨h', x⟩ | cons => exact ho.elim
  | cons l ls ih =>
    intro os h h' hn ho x
    cases os with
    | nil => exact ho.elim
    | cons o os =>
      obtain ⟨k, c⟩ := o
      cases c with
      | none => exact ho.elim
      | some c =>
        obtain ⟨n, c⟩ := c
        obtain ⟨h1, h2⟩ := ho
        cases hl : h' l with
        | none => rw [hl] at h1; exact h1.elim
        | some c0 =>
          obtain ⟨n', c'⟩ := c0
          rw [hl] at h1
          obtain ⟨rfl, hs⟩ := h1
          have x1 := x.sim hl hs
          have x2 := x1.back k l
          simp only [if_true] at x2
          have hnl : l ∉ ls := (List.nodup_cons.1 hn).1
          have h3 : Outs (fun j => if j = l then none else if j = l then some (n', c) else h' j) ls os := by
            clear ih x x1 x2
            have : ∀ (ls : List Nat) (os : List (Nat × Option (Nat × CH U))), l ∉ ls → Outs h' ls os → Outs (fun j => if j = l then none else if j = l then some (n', c) else h' j) ls os := by
              intro ls
              induction ls with
              | nil => intro os _ h; cases os with | nil => trivial | cons => exact h.elim
              | cons m ls ih2 =>
                intro os hm h
                cases os with
                | nil => exact h.elim
                | cons o os =>
                  obtain ⟨ok, oc⟩ := o
                  cases oc with
                  | none => exact h.elim
                  | some oc =>
                    obtain ⟨on, oc⟩ := oc
                    have hml : m ≠ l := fun e => hm (by simp [e])
                    exact ⟨by simpa [hml] using h.1, ih2 os (fun e => hm (by simp [e])) h.2⟩
            exact this ls os hnl h2
          exact ih os _ _ (List.nodup_cons.1 hn).2 h3 x2

theorem putH_none : ∀ (ks : List Nat) (h : Nat → Option (Nat × CH U)), (fun j => if j ∈ ks then none else h j) = putH h (ks.map fun k => (k, none)) := by
  intro ks
  induction ks with
  | nil => intro h; simp [putH]
  | cons k ks ih =>
    intro h
    simp only [List.map_cons, putH]
    rw [← ih]
    funext j
    by_cases e : j = k
    · subst e; simp
    · simp [e]
theorem putH_append : ∀ (a b : List (Nat × Option (Nat × CH U))) (h : Nat → Option (Nat × CH U)), putH h (a ++ b) = putH (putH h a) b := by
  intro a
  induction a with
  | nil => intro b h; rfl
  | cons x a ih => intro b h; obtain ⟨k, c⟩ := x; simp only [List.cons_append, putH]; exact ih b _

theorem lookH_zip {h0 : Nat → Option (Nat × CH U)} : ∀ (ks : List Nat) (cs : List (Nat × CH U)), ks.map h0 = cs.map some → ∀ j, lookH (zipH ks cs) j = if j ∈ ks then h0 j else none := by
  intro ks
  induction ks with
  | nil => intro cs h j; cases cs <;> simp at h; simp [zipH, lookH]
  | cons k ks ih =>
    intro cs h j
    cases cs with
    | nil => simp at h
    | cons c cs =>
      simp only [List.map_cons, List.cons.injEq] at h
      have := ih cs h.2 j
      show (if j = k then some c else lookH (zipH ks cs) j) = _
      by_cases e : j = k
      · subst e; simp [h.1]
      · simp [e, this]

/-- the same, of what lies under the callee's keys -/
def OutsL : List (Option (Nat × CH U)) → List (Nat × Option (Nat × CH U)) → Prop
  | [], [] => True
  | q :: qs, (_, some (n, c)) :: os => (match q with | some (n', c') => n' = n ∧ simC c' c | none => False) ∧ OutsL qs os
  | _, _ => False
theorem outs_of {h : Nat → Option (Nat × CH U)} : ∀ {ls : List Nat} {os : List (Nat × Option (Nat × CH U))}, OutsL (ls.map h) os → Outs h ls os := by
  intro ls
  induction ls with
  | nil => intro os x; cases os with | nil => trivial | cons => exact x.elim
  | cons l ls ih =>
    intro os x
    cases os with
    | nil => exact x.elim
    | cons o os =>
      obtain ⟨k, c⟩ := o
      cases c with
      | none => exact x.elim
      | some c => obtain ⟨n, c⟩ := c; exact ⟨x.1, ih x.2⟩
/-- what must be so at the end of a function -/
def EndP (o : Out U) (r : SV) (qs : List (Option (Nat × CH U))) : Prop := ∃ x, r.den = (o.res x).1.den ∧ OutsL qs (o.res x).2
def memB (x : Nat) : List Nat → Bool
  | [] => false
  | y :: ys => Nat.beq x y || memB x ys
def nodupB : List Nat → Bool
  | [] => true
  | x :: xs => !(memB x xs) && nodupB xs
theorem memB_mem {x : Nat} : ∀ {l : List Nat}, memB x l = false → x ∉ l := by
  intro l
  induction l with
  | nil => intro _; simp
  | cons y l ih =>
    intro h
    simp only [memB, Bool.or_eq_false_iff] at h
    intro hm
    rcases List.mem_cons.1 hm with e | e
    · subst e; have := h.1; simp at this
    · exact ih h.2 e
theorem nodupB_nodup : ∀ {l : List Nat}, nodupB l = true → l.Nodup := by
  intro l
  induction l with
  | nil => intro _; exact List.nodup_nil
  | cons x l ih =>
    intro h
    simp only [nodupB, Bool.and_eq_true, Bool.not_eq_true'] at h
    exact List.nodup_cons.2 ⟨memB_mem h.1, ih h.2⟩
theorem hsp_ok {Sg : Specs U} {Iv : Invs U} (hSg : SgOk ρ P Sg) {fi : Nat} {fn : Func} (hf : P.funcs[fi]? = some fn) {rc : RC} {rvs : List RV} (hc : chkFn P fn rc rvs = true) (n : Nat) (hn : Nat.ble n fn.ntmps = true)
    {keys : List SV → List Nat} {f : Nat → List SV → List (Nat × CH U) → Option (Out U)}
    (h : ∀ d vs cs o, (keys vs).length = cs.length → f d vs cs = some o → allP o.pre → nodupB (keys vs) = true ∧ Nat.ble vs.length n = true ∧ ∃ ls : List Nat, nodupB ls = true ∧
      fnT Sg Iv rc rvs vs (zipH (keys vs) cs) fun r s => EndP o r (ls.map s.h)) : SpecOk ρ P fi (hSp keys f) := by
  refine ⟨?_⟩
  intro F c d vs s w hsat hsame hsafe
  obtain ⟨cs, h1, h2, h3⟩ := rdHs_elim hsafe
  simp only [List.reverse_nil, List.nil_append] at h2 h3
  cases ho : f d vs cs with
  | none => rw [ho] at h2; exact h2.elim
  | some o =>
    rw [ho] at h2 h3
    simp only [outR] at h2 h3
    obtain ⟨hp, _⟩ := asrts_safe h2
    have hlen : (keys vs).length = cs.length := by
      have := congrArg List.length h1
      simpa using this
    obtain ⟨q1, q2, ls, q3, q4⟩ := h d vs cs o hlen ho hp
    have q1 := nodupB_nodup q1
    have q2 := Nat.le_of_ble_eq_true q2
    have q3 := nodupB_nodup q3
    have hn := Nat.le_of_ble_eq_true hn
    have hl := lend_all (keys vs) s.h (fun _ => none) q1 (fun _ _ => rfl) (fun _ _ => rfl) hsat.shut
    have hl2 := hl.ext (h' := lookH (zipH (keys vs) cs)) (fun j => by rw [lookH_zip _ _ h1])
    refine (callable_of hf hc).does (Calls.mono (run_fn hSg hf hc (by omega) hl2 hsame q4) ?_)
    rintro e w' ⟨r, s', ⟨x, e1, e2⟩, rfl, h7, h8⟩
    obtain ⟨h'', h9⟩ := back_all ls _ _ _ q3 (outs_of e2) h7
    obtain ⟨α, β, pth⟩ := h3 [] [] ((o.res x).1, (keys vs).map (fun k => (k, none)) ++ (o.res x).2) (asrts_path hp (.all x .ret))
    refine ⟨_, _, _, pth, ?_, ?_, h8⟩
    · rw [e1]
    · have := h9.reopen
      rw [putH_none] at this
      rw [putH_append]
      exact this
end Go.Eng
