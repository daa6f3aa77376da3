/- Rows of abstract cells: read, and written. -/
import Derived.Test.YtgongenkdkiifaaGreatDoorEng3
namespace Go.Eng

theorem oneV_one (v : Value) : (oneV v).oneCell' = true := by
  unfold oneV; split
  · assumption
  · rfl
theorem oneV_of {v : Value} (h : v.oneCell' = true) : oneV v = v := by simp [oneV, h]
theorem cells_of_one {v : Value} (h : v.oneCell' = true) : v.cells.toList = [v] := by
  cases v <;> first | rfl | (simp [Value.oneCell'] at h)

/-- how many cells: one, a row of numbers, or what cannot lie in memory as it stands -/
inductive Kd where
  | one
  | row (n : Nat) (f : Nat → SV)
  | bad

def SV.kd : SV → Kd
  | .und => .bad
  | .val _ => .one
  | .i _ => .one
  | .i32 _ => .one
  | .u8 _ => .one
  | .u16 _ => .one
  | .u32 _ => .one
  | .u64 _ => .one
  | .b _ => .one
  | .str _ => .one
  | .ptr .. => .one
  | .nilp => .one
  | .slc .. => .one
  | .nils => .one
  | .mp .. => .one
  | .fn .. => .one
  | .r8 n f => .row n fun j => .u8 (f j)
  | .r32 n f => .row n fun j => .u32 (f j)
  | .r64 n f => .row n fun j => .u64 (f j)
  | .ri n f => .row n fun j => .i (f j)
  | .rv n f => .row n fun j => .val (f j)
  | .any .. => .bad
  | .agg _ => .bad
  | .tup _ => .bad

theorem kd_one {c : SV} (h : c.kd = .one) : c.den.oneCell' = true := by
  cases c <;> first | (simp [SV.kd] at h; done) | rfl | exact oneV_one _
theorem cells_one {c : SV} (h : c.kd = .one) : c.cells = [c.den] := cells_of_one (kd_one h)
theorem cells_row {c : SV} {n : Nat} {f : Nat → SV} (h : c.kd = .row n f) : c.cells = (List.range n).map fun j => (f j).den := by
  cases c <;> first
    | (simp [SV.kd] at h; done)
    | (simp only [SV.kd, Kd.row.injEq] at h; obtain ⟨rfl, rfl⟩ := h; simp [SV.cells, SV.den, Value.cells]; done)
theorem row_one {c : SV} {n : Nat} {f : Nat → SV} (h : c.kd = .row n f) (j : Nat) : (f j).kd = .one := by
  cases c <;> first
    | (simp [SV.kd] at h; done)
    | (simp only [SV.kd, Kd.row.injEq] at h; obtain ⟨rfl, rfl⟩ := h; rfl)

/-- the cell o behind place pos -/
def getC : List SV → Nat → Nat → Option (List DP × SV)
  | [], _, _ => none
  | c :: cs, 0, o =>
    match c.kd with
    | .row n f => some ([o < n], f o)
    | .one => match o with | 0 => some ([], c) | o + 1 => getC cs 0 o
    | .bad => none
  | c :: cs, pos + 1, o =>
    match c.kd with
    | .row n f => if n ≤ pos + 1 then getC cs (pos + 1 - n) o else some ([pos + 1 + o < n], f (pos + 1 + o))
    | .one => getC cs pos o
    | .bad => none

theorem getC_den : ∀ {cs : List SV} {pos o : Nat} {p : List DP} {v : SV}, getC cs pos o = some (p, v) → allP p → (cellsL cs)[pos + o]? = some v.den ∧ v.kd = .one := by
  intro cs
  induction cs with
  | nil => intro pos o p v h; simp [getC] at h
  | cons c cs ih =>
    intro pos o p v h hp
    rw [cellsL_cons]
    cases pos with
    | zero =>
      simp only [getC] at h
      cases hc : c.kd with
      | bad => simp [hc] at h
      | row n f =>
        simp only [hc, Option.some.injEq, Prod.mk.injEq] at h
        obtain ⟨rfl, rfl⟩ := h
        have hp : o < n := hp
        refine ⟨?_, row_one hc _⟩
        rw [cells_row hc, List.getElem?_append_left (by simpa using hp)]
        simp [hp]
      | one =>
        simp only [hc] at h
        rw [cells_one hc]
        cases o with
        | zero =>
          simp only [Option.some.injEq, Prod.mk.injEq] at h
          obtain ⟨_, rfl⟩ := h
          exact ⟨by simp, hc⟩
        | succ o =>
          simp only at h
          obtain ⟨h1, h2⟩ := ih h hp
          refine ⟨?_, h2⟩
          rw [show 0 + (o + 1) = (0 + o) + 1 by omega]
          simpa using h1
    | succ pos =>
      simp only [getC] at h
      cases hc : c.kd with
      | bad => simp [hc] at h
      | row n f =>
        simp only [hc] at h
        rw [cells_row hc]
        split at h
        · rename_i hn
          obtain ⟨h1, h2⟩ := ih h hp
          refine ⟨?_, h2⟩
          rw [List.getElem?_append_right (by simp; omega)]
          simp only [List.length_map, List.length_range]
          rw [show pos + 1 + o - n = pos + 1 - n + o by omega]
          exact h1
        · simp only [Option.some.injEq, Prod.mk.injEq] at h
          obtain ⟨rfl, rfl⟩ := h
          have hp : pos + 1 + o < n := hp
          refine ⟨?_, row_one hc _⟩
          rw [List.getElem?_append_left (by simpa using hp)]
          simp [hp]
      | one =>
        simp only [hc] at h
        obtain ⟨h1, h2⟩ := ih h hp
        refine ⟨?_, h2⟩
        rw [cells_one hc, show pos + 1 + o = (pos + o) + 1 by omega]
        simpa using h1

/-- the first so many cells -/
def takeC : List SV → Nat → Option (List SV)
  | _, 0 => some []
  | [], _ + 1 => none
  | c :: cs, m + 1 =>
    match c.kd with
    | .row n _ => if n ≤ m + 1 then (takeC cs (m + 1 - n)).map (c :: ·) else none
    | .one => (takeC cs m).map (c :: ·)
    | .bad => none
/-- those behind them -/
def dropC : List SV → Nat → Option (List SV)
  | cs, 0 => some cs
  | [], _ + 1 => none
  | c :: cs, m + 1 =>
    match c.kd with
    | .row n _ => if n ≤ m + 1 then dropC cs (m + 1 - n) else none
    | .one => dropC cs m
    | .bad => none

theorem takeC_den : ∀ {cs : List SV} {m : Nat} {xs : List SV}, takeC cs m = some xs → cellsL xs = (cellsL cs).take m ∧ m ≤ (cellsL cs).length := by
  intro cs
  induction cs with
  | nil =>
    intro m xs h
    cases m with
    | zero => simp [takeC] at h; subst h; simp [cellsL_nil]
    | succ m => simp [takeC] at h
  | cons c cs ih =>
    intro m xs h
    cases m with
    | zero => simp [takeC] at h; subst h; simp [cellsL_nil]
    | succ m =>
      simp only [takeC] at h
      rw [cellsL_cons]
      cases hc : c.kd with
      | bad => simp [hc] at h
      | row n f =>
        simp only [hc] at h
        split at h
        · rename_i hn
          obtain ⟨ys, hy, rfl⟩ := Option.map_eq_some_iff.1 h
          obtain ⟨h1, h2⟩ := ih hy
          have hl : c.cells.length = n := by rw [cells_row hc]; simp
          rw [cellsL_cons, h1]
          refine ⟨?_, by simp [hl]; omega⟩
          rw [List.take_append, hl, List.take_of_length_le (l := c.cells) (i := m + 1) (by omega)]
        · simp at h
      | one =>
        simp only [hc] at h
        obtain ⟨ys, hy, rfl⟩ := Option.map_eq_some_iff.1 h
        obtain ⟨h1, h2⟩ := ih hy
        rw [cellsL_cons, h1, cells_one hc]
        exact ⟨by simp, by simp; omega⟩

theorem dropC_den : ∀ {cs : List SV} {m : Nat} {xs : List SV}, dropC cs m = some xs → cellsL xs = (cellsL cs).drop m ∧ m ≤ (cellsL cs).length := by
  intro cs
  induction cs with
  | nil =>
    intro m xs h
    cases m with
    | zero => simp [dropC] at h; subst h; simp [cellsL_nil]
    | succ m => simp [dropC] at h
  | cons c cs ih =>
    intro m xs h
    cases m with
    | zero => simp [dropC] at h; subst h; simp
    | succ m =>
      simp only [dropC] at h
      rw [cellsL_cons]
      cases hc : c.kd with
      | bad => simp [hc] at h
      | row n f =>
        simp only [hc] at h
        split at h
        · rename_i hn
          obtain ⟨h1, h2⟩ := ih h
          have hl : c.cells.length = n := by rw [cells_row hc]; simp
          rw [h1]
          refine ⟨?_, by simp [hl]; omega⟩
          rw [List.drop_append, hl, List.drop_eq_nil_of_le (as := c.cells) (i := m + 1) (by omega)]
          simp
        · simp at h
      | one =>
        simp only [hc] at h
        obtain ⟨h1, h2⟩ := ih h
        rw [h1, cells_one hc]
        exact ⟨by simp, by simp; omega⟩

/-- a part of a row -/
def subR (c : SV) (o m : Nat) : Option (List DP × SV) :=
  match c with
  | .r8 n f => some ([o + m ≤ n], .r8 m fun j => f (o + j))
  | .r32 n f => some ([o + m ≤ n], .r32 m fun j => f (o + j))
  | .r64 n f => some ([o + m ≤ n], .r64 m fun j => f (o + j))
  | .ri n f => some ([o + m ≤ n], .ri m fun j => f (o + j))
  | _ => none

theorem subR_den {c v : SV} {o m : Nat} {p : List DP} (h : subR c o m = some (p, v)) (hp : allP p) : v.cells = (c.cells.drop o).take m ∧ o + m ≤ c.cells.length ∧ v.den = .agg v.cells.toArray := by
  cases c <;> simp only [subR, Option.some.injEq, Prod.mk.injEq, reduceCtorEq] at h <;> obtain ⟨rfl, rfl⟩ := h
  all_goals
    rename_i n _
    have hp : o + m ≤ n := hp
    refine ⟨?_, by simpa [SV.cells, SV.den, Value.cells] using hp, by simp [SV.cells, SV.den, Value.cells]⟩
    simp only [SV.cells, SV.den, Value.cells]
    apply List.ext_getElem?
    intro j
    simp only [List.getElem?_take, List.getElem?_drop, List.getElem?_map]
    by_cases hj : j < m
    · rw [List.getElem?_range hj, List.getElem?_range (by omega)]
      simp [hj]
    · simp [hj]

/-- where a row begins -/
def rowAt : List SV → Nat → Option SV
  | [], _ => none
  | c :: _, 0 => match c.kd with | .row _ _ => some c | _ => none
  | c :: cs, pos + 1 =>
    match c.kd with
    | .row n _ => if n ≤ pos + 1 then rowAt cs (pos + 1 - n) else none
    | .one => rowAt cs pos
    | .bad => none

theorem rowAt_den : ∀ {cs : List SV} {pos : Nat} {c : SV}, rowAt cs pos = some c → ∃ post, (cellsL cs).drop pos = c.cells ++ post ∧ pos + c.cells.length ≤ (cellsL cs).length := by
  intro cs
  induction cs with
  | nil => intro pos c h; simp [rowAt] at h
  | cons x cs ih =>
    intro pos c h
    rw [cellsL_cons]
    cases pos with
    | zero =>
      simp only [rowAt] at h
      split at h
      · simp only [Option.some.injEq] at h; subst h; exact ⟨cellsL cs, by simp, by simp⟩
      · simp at h
    | succ pos =>
      simp only [rowAt] at h
      cases hc : x.kd with
      | bad => simp [hc] at h
      | row n f =>
        simp only [hc] at h
        split at h
        · rename_i hn
          have hl : x.cells.length = n := by rw [cells_row hc]; simp
          obtain ⟨post, h1, h2⟩ := ih h
          refine ⟨post, ?_, by simp [hl]; omega⟩
          rw [List.drop_append, hl, List.drop_eq_nil_of_le (by omega), List.nil_append, h1]
        · simp at h
      | one =>
        simp only [hc] at h
        obtain ⟨post, h1, h2⟩ := ih h
        refine ⟨post, ?_, by rw [cells_one hc]; simp; omega⟩
        rw [cells_one hc]
        simpa using h1

/-- all rows, cell by cell -/
def explode : List SV → List SV
  | [] => []
  | c :: cs => match c.kd with | .row n f => (List.range n).map f ++ explode cs | _ => c :: explode cs
theorem cellsL_append (a b : List SV) : cellsL (a ++ b) = cellsL a ++ cellsL b := by
  induction a with
  | nil => simp [cellsL_nil]
  | cons x a ih => simp [cellsL_cons, ih]
theorem explode_den : ∀ cs : List SV, cellsL (explode cs) = cellsL cs := by
  intro cs
  induction cs with
  | nil => rfl
  | cons c cs ih =>
    rw [explode]
    cases hc : c.kd with
    | row n f =>
      simp only
      rw [cellsL_append, cellsL_cons, ih, cells_row hc]
      congr 1
      have : ∀ l : List Nat, cellsL (l.map f) = l.map fun j => (f j).den := by
        intro l
        induction l with
        | nil => rfl
        | cons x l ih2 => rw [List.map_cons, cellsL_cons, ih2, cells_one (row_one hc x)]; rfl
      exact this _
    | one => simp only [cellsL_cons, ih]
    | bad => simp only [cellsL_cons, ih]
/-- m cells from pos on, where parts end -/
def getB (cs : List SV) (pos m : Nat) : Option SV :=
  match dropC cs pos with
  | some ds => match takeC ds m with | some xs => some (.agg xs) | none => none
  | none => none
theorem getB_den {cs : List SV} {pos m : Nat} {v : SV} (h : getB cs pos m = some v) : v.den = .agg (((cellsL cs).drop pos).take m).toArray ∧ pos + m ≤ (cellsL cs).length := by
  unfold getB at h
  split at h
  · rename_i ds hd
    split at h
    · rename_i xs hx
      simp only [Option.some.injEq] at h
      subst h
      obtain ⟨h1, h2⟩ := dropC_den hd
      obtain ⟨h3, h4⟩ := takeC_den hx
      rw [h1] at h3 h4
      refine ⟨?_, by simp at h4; omega⟩
      have h3' : flat (denL xs) = ((cellsL cs).drop pos).take m := h3
      simp only [SV.den, h3']
    · simp at h
  · simp at h
def shortIn (m : Nat) (c : SV) : Bool := match c.kd with | .row n _ => Nat.ble m n | _ => true
/-- m cells from pos + o on, as one value -/
def getA (cs : List SV) (pos o m : Nat) : Option (List DP × SV) :=
  match rowAt cs pos with
  | some c => (match shortIn m c with
    | true => subR c o m
    | false => match getB cs (pos + o) m with | some v => some ([], v) | none => match getB (explode cs) (pos + o) m with | some v => some ([], v) | none => none)
  | none =>
    match getB cs pos m with
    | some v => some ([o = 0], v)
    | none => match getB (explode cs) (pos + o) m with | some v => some ([], v) | none => none

theorem getA_den {cs : List SV} {pos o m : Nat} {p : List DP} {v : SV} (h : getA cs pos o m = some (p, v)) (hp : allP p) :
    v.den = .agg (((cellsL cs).drop (pos + o)).take m).toArray ∧ pos + o + m ≤ (cellsL cs).length := by
  have ex : ∀ {v : SV}, getB (explode cs) (pos + o) m = some v → v.den = .agg (((cellsL cs).drop (pos + o)).take m).toArray ∧ pos + o + m ≤ (cellsL cs).length := by
    intro v h
    have := getB_den h
    rw [explode_den] at this
    exact this
  unfold getA at h
  split at h
  · rename_i c hc
    split at h
    · obtain ⟨post, h1, h2⟩ := rowAt_den hc
      obtain ⟨h3, h4, h5⟩ := subR_den h hp
      refine ⟨?_, by omega⟩
      rw [h5, h3]
      congr 2
      rw [← List.drop_drop, h1, List.drop_append_of_le_length (by omega)]
      rw [List.take_append_of_le_length (by simp; omega)]
    · split at h
      · rename_i v' hv
        simp only [Option.some.injEq, Prod.mk.injEq] at h
        obtain ⟨_, rfl⟩ := h
        exact getB_den hv
      · split at h
        · rename_i v' hv
          simp only [Option.some.injEq, Prod.mk.injEq] at h
          obtain ⟨_, rfl⟩ := h
          exact ex hv
        · simp at h
  · split at h
    · rename_i v' hv
      simp only [Option.some.injEq, Prod.mk.injEq] at h
      obtain ⟨rfl, rfl⟩ := h
      have hp : o = 0 := hp
      subst hp
      exact getB_den hv
    · split at h
      · rename_i v' hv
        simp only [Option.some.injEq, Prod.mk.injEq] at h
        obtain ⟨_, rfl⟩ := h
        exact ex hv
      · simp at h

/-- a row with a cell, or a part, changed -/
def updR (c : SV) (o : Nat) (v : SV) : Option (List DP × SV) :=
  match c, v with
  | .r8 n f, .u8 x => some ([o < n], .r8 n fun j => if j = o then x else f j)
  | .r32 n f, .u32 x => some ([o < n], .r32 n fun j => if j = o then x else f j)
  | .r64 n f, .u64 x => some ([o < n], .r64 n fun j => if j = o then x else f j)
  | .ri n f, .i x => some ([o < n], .ri n fun j => if j = o then x else f j)
  | .r8 n f, .r8 m g => if m = n then some ([o = 0], .r8 n g) else some ([o + m ≤ n], .r8 n fun j => if o ≤ j ∧ j < o + m then g (j - o) else f j)
  | .r32 n f, .r32 m g => if m = n then some ([o = 0], .r32 n g) else some ([o + m ≤ n], .r32 n fun j => if o ≤ j ∧ j < o + m then g (j - o) else f j)
  | .r64 n f, .r64 m g => if m = n then some ([o = 0], .r64 n g) else some ([o + m ≤ n], .r64 n fun j => if o ≤ j ∧ j < o + m then g (j - o) else f j)
  | _, _ => none

theorem set_range (n o : Nat) (h : o < n) (F : Nat → Value) (x : Value) :
    ((List.range n).map F).take o ++ [x] ++ ((List.range n).map F).drop (o + 1) = (List.range n).map fun j => if j = o then x else F j := by
  apply List.ext_getElem?
  intro j
  simp only [List.append_assoc, List.getElem?_append, List.length_take, List.length_map, List.length_range, List.length_singleton, List.getElem?_take, List.getElem?_drop, List.getElem?_map]
  have hm : min o n = o := by omega
  rw [hm]
  by_cases h1 : j < o
  · simp [h1, List.getElem?_range (show j < n by omega)]; omega
  · by_cases h2 : j = o
    · subst h2; simp [List.getElem?_range h]
    · have h3 : ¬ j - o < 1 := by omega
      simp only [h1, if_false, h3]
      rw [show o + 1 + (j - o - 1) = j by omega]
      by_cases h4 : j < n
      · simp [List.getElem?_range h4, h2]
      · simp [h4]

theorem set_ranges (n o m : Nat) (h : o + m ≤ n) (F G : Nat → Value) :
    ((List.range n).map F).take o ++ (List.range m).map G ++ ((List.range n).map F).drop (o + m) = (List.range n).map fun j => if o ≤ j ∧ j < o + m then G (j - o) else F j := by
  apply List.ext_getElem?
  intro j
  simp only [List.append_assoc, List.getElem?_append, List.length_take, List.length_map, List.length_range, List.getElem?_take, List.getElem?_drop, List.getElem?_map]
  have hm : min o n = o := by omega
  rw [hm]
  by_cases h1 : j < o
  · simp [h1, List.getElem?_range (show j < n by omega)]; omega
  · by_cases h2 : j - o < m
    · simp only [h1, if_false, h2, if_true]
      rw [List.getElem?_range h2, List.getElem?_range (show j < n by omega)]
      simp only [Option.map_some]
      rw [if_pos ⟨by omega, by omega⟩]
    · simp only [h1, if_false, h2]
      rw [show o + m + (j - o - m) = j by omega]
      by_cases h4 : j < n
      · simp only [List.getElem?_range h4, Option.map_some]; rw [if_neg (by omega)]
      · simp [h4]

theorem updR_den {c v c' : SV} {o : Nat} {p : List DP} (h : updR c o v = some (p, c')) (hp : allP p) :
    c'.cells = c.cells.take o ++ v.cells ++ c.cells.drop (o + v.cells.length) ∧ o + v.cells.length ≤ c.cells.length ∧ (∀ x ∈ v.cells, x.oneCell' = true) := by
  cases c <;> cases v <;> simp only [updR, Option.some.injEq, Prod.mk.injEq, reduceCtorEq] at h
  case r8.u8 n f x =>
    obtain ⟨rfl, rfl⟩ := h
    have hp : o < n := hp
    refine ⟨?_, by simp [SV.cells, SV.den, Value.cells]; omega, by simp [SV.cells, SV.den, Value.cells, Value.oneCell']⟩
    simp only [SV.cells, SV.den, Value.cells, List.length_singleton]
    rw [set_range n o hp]; apply List.map_congr_left; intro j _; split <;> rfl
  case r32.u32 n f x =>
    obtain ⟨rfl, rfl⟩ := h
    have hp : o < n := hp
    refine ⟨?_, by simp [SV.cells, SV.den, Value.cells]; omega, by simp [SV.cells, SV.den, Value.cells, Value.oneCell']⟩
    simp only [SV.cells, SV.den, Value.cells, List.length_singleton]
    rw [set_range n o hp]; apply List.map_congr_left; intro j _; split <;> rfl
  case r64.u64 n f x =>
    obtain ⟨rfl, rfl⟩ := h
    have hp : o < n := hp
    refine ⟨?_, by simp [SV.cells, SV.den, Value.cells]; omega, by simp [SV.cells, SV.den, Value.cells, Value.oneCell']⟩
    simp only [SV.cells, SV.den, Value.cells, List.length_singleton]
    rw [set_range n o hp]; apply List.map_congr_left; intro j _; split <;> rfl
  case ri.i n f x =>
    obtain ⟨rfl, rfl⟩ := h
    have hp : o < n := hp
    refine ⟨?_, by simp [SV.cells, SV.den, Value.cells]; omega, by simp [SV.cells, SV.den, Value.cells, Value.oneCell']⟩
    simp only [SV.cells, SV.den, Value.cells, List.length_singleton]
    rw [set_range n o hp]; apply List.map_congr_left; intro j _; split <;> rfl
  all_goals
    rename_i n f m g
    split at h
    · rename_i hmn
      simp only [Option.some.injEq, Prod.mk.injEq] at h
      obtain ⟨rfl, rfl⟩ := h
      have hp : o = 0 := hp
      subst hp; subst hmn
      refine ⟨by simp [SV.cells, SV.den, Value.cells], by simp [SV.cells, SV.den, Value.cells], ?_⟩
      intro x hx
      simp only [SV.cells, SV.den, Value.cells, List.mem_map] at hx
      obtain ⟨j, _, rfl⟩ := hx
      rfl
    · simp only [Option.some.injEq, Prod.mk.injEq] at h
      obtain ⟨rfl, rfl⟩ := h
      have hp : o + m ≤ n := hp
      refine ⟨?_, by simp [SV.cells, SV.den, Value.cells]; omega, ?_⟩
      · simp only [SV.cells, SV.den, Value.cells, List.length_map, List.length_range]
        rw [set_ranges n o m hp]; apply List.map_congr_left; intro j _; split <;> rfl
      · intro x hx
        simp only [SV.cells, SV.den, Value.cells, List.mem_map] at hx
        obtain ⟨j, _, rfl⟩ := hx
        rfl

/-- the cells with one row changed that begins at pos -/
def modRow : List SV → Nat → (SV → Option (List DP × SV)) → Option (List DP × List SV)
  | [], _, _ => none
  | c :: cs, 0, F => match F c with | some (p, c') => some (p, c' :: cs) | none => none
  | c :: cs, pos + 1, F =>
    match c.kd with
    | .row n _ => if n ≤ pos + 1 then (match modRow cs (pos + 1 - n) F with | some (p, l) => some (p, c :: l) | none => none) else none
    | .one => match modRow cs pos F with | some (p, l) => some (p, c :: l) | none => none
    | .bad => none

theorem modRow_den : ∀ {cs : List SV} {pos o : Nat} {v : SV} {p : List DP} {l : List SV}, modRow cs pos (fun c => updR c o v) = some (p, l) → allP p →
    cellsL l = (cellsL cs).take (pos + o) ++ v.cells ++ (cellsL cs).drop (pos + o + v.cells.length) ∧ pos + o + v.cells.length ≤ (cellsL cs).length ∧ (∀ x ∈ v.cells, x.oneCell' = true) := by
  intro cs
  induction cs with
  | nil => intro pos o v p l h; simp [modRow] at h
  | cons c cs ih =>
    intro pos o v p l h hp
    cases pos with
    | zero =>
      simp only [modRow] at h
      split at h
      · rename_i q c' hc
        simp only [Option.some.injEq, Prod.mk.injEq] at h
        obtain ⟨rfl, rfl⟩ := h
        obtain ⟨h1, h2, h3⟩ := updR_den hc hp
        rw [cellsL_cons, cellsL_cons, h1, Nat.zero_add]
        refine ⟨?_, by simp; omega, h3⟩
        rw [List.take_append_of_le_length (by omega), List.drop_append_of_le_length (by omega)]
        simp
      · simp at h
    | succ pos =>
      simp only [modRow] at h
      have main : ∀ (n : Nat) (q : Nat), c.cells.length = n → pos + 1 = n + q → ∀ l', cellsL l' = (cellsL cs).take (q + o) ++ v.cells ++ (cellsL cs).drop (q + o + v.cells.length) → q + o + v.cells.length ≤ (cellsL cs).length →
          cellsL (c :: l') = (cellsL (c :: cs)).take (pos + 1 + o) ++ v.cells ++ (cellsL (c :: cs)).drop (pos + 1 + o + v.cells.length) ∧ pos + 1 + o + v.cells.length ≤ (cellsL (c :: cs)).length := by
        intro n q hn hq l' e1 e2
        rw [cellsL_cons, cellsL_cons, e1]
        refine ⟨?_, by simp; omega⟩
        rw [List.take_append, List.drop_append, List.take_of_length_le (l := c.cells) (i := pos + 1 + o) (by omega), List.drop_eq_nil_of_le (as := c.cells) (i := pos + 1 + o + v.cells.length) (by omega)]
        rw [show pos + 1 + o - c.cells.length = q + o by omega, show pos + 1 + o + v.cells.length - c.cells.length = q + o + v.cells.length by omega]
        simp
      cases hc : c.kd with
      | bad => simp [hc] at h
      | row n f =>
        simp only [hc] at h
        split at h
        · rename_i hn
          split at h
          · rename_i q l' hq
            simp only [Option.some.injEq, Prod.mk.injEq] at h
            obtain ⟨rfl, rfl⟩ := h
            obtain ⟨h1, h2, h3⟩ := ih hq hp
            obtain ⟨h4, h5⟩ := main n (pos + 1 - n) (by rw [cells_row hc]; simp) (by omega) l' h1 h2
            exact ⟨h4, h5, h3⟩
          · simp at h
        · simp at h
      | one =>
        simp only [hc] at h
        split at h
        · rename_i q l' hq
          simp only [Option.some.injEq, Prod.mk.injEq] at h
          obtain ⟨rfl, rfl⟩ := h
          obtain ⟨h1, h2, h3⟩ := ih hq hp
          obtain ⟨h4, h5⟩ := main 1 pos (by rw [cells_one hc]; simp) (by omega) l' h1 h2
          exact ⟨h4, h5, h3⟩
        · simp at h

/-- what a value has for memory -/
def SV.segs : SV → List SV
  | .agg cs => cs
  | v => [v]
theorem segs_den (v : SV) : cellsL v.segs = v.cells := by
  cases v <;> simp [SV.segs, cellsL, denL, flat, SV.cells, SV.den, Value.cells]

def okSegs : List SV → Bool
  | [] => true
  | c :: cs => (match c.kd with | .bad => false | _ => true) && okSegs cs
theorem okSegs_one : ∀ {l : List SV}, okSegs l = true → ∀ x ∈ cellsL l, x.oneCell' = true := by
  intro l
  induction l with
  | nil => intro _ x hx; simp [cellsL_nil] at hx
  | cons c cs ih =>
    intro h x hx
    simp only [okSegs, Bool.and_eq_true] at h
    rw [cellsL_cons, List.mem_append] at hx
    rcases hx with hx | hx
    · cases hc : c.kd with
      | bad => simp [hc] at h
      | row n f =>
        rw [cells_row hc] at hx
        obtain ⟨j, _, rfl⟩ := List.mem_map.1 hx
        exact kd_one (row_one hc j)
      | one =>
        rw [cells_one hc] at hx
        simp at hx; subst hx; exact kd_one hc
    · exact ih h.2 x hx

/-- the value v laid into the m cells from pos + o on -/
def setA0 (cs : List SV) (pos o m : Nat) (v : SV) : Option (List DP × List SV) :=
  match rowAt cs pos with
  | some _ => modRow cs pos fun c => updR c o v
  | none =>
    if okSegs v.segs then
      match takeC cs pos with
      | some xs => match dropC cs (pos + m) with | some ys => some ([o = 0], xs ++ v.segs ++ ys) | none => none
      | none => none
    else none

theorem setA0_den {cs : List SV} {pos o m : Nat} {v : SV} {p : List DP} {l : List SV} (h : setA0 cs pos o m v = some (p, l)) (hp : allP p) (hm : v.cells.length = m) :
    cellsL l = (cellsL cs).take (pos + o) ++ v.cells ++ (cellsL cs).drop (pos + o + v.cells.length) ∧ pos + o + v.cells.length ≤ (cellsL cs).length ∧ (∀ x ∈ v.cells, x.oneCell' = true) := by
  unfold setA0 at h
  split at h
  · exact modRow_den h hp
  · split at h
    · rename_i hs
      split at h
      · rename_i xs hx
        split at h
        · rename_i ys hy
          simp only [Option.some.injEq, Prod.mk.injEq] at h
          obtain ⟨rfl, rfl⟩ := h
          have hp : o = 0 := hp
          subst hp
          obtain ⟨h1, h2⟩ := takeC_den hx
          obtain ⟨h3, h4⟩ := dropC_den hy
          refine ⟨?_, by omega, ?_⟩
          · rw [cellsL_append, cellsL_append, segs_den, h1, h3, hm, Nat.add_zero]
          · intro x hx; rw [← segs_den] at hx; exact okSegs_one hs x hx
        · simp at h
      · simp at h
    · simp at h

/-- the same, where rows are in the way cell by cell -/
def setB (cs : List SV) (pos m : Nat) (v : SV) : Option (List SV) :=
  match okSegs v.segs, takeC (explode cs) pos, dropC (explode cs) (pos + m) with
  | true, some xs, some ys => some (xs ++ v.segs ++ ys)
  | _, _, _ => none
def setA (cs : List SV) (pos o m : Nat) (v : SV) : Option (List DP × List SV) :=
  match setA0 cs pos o m v with
  | some r => some r
  | none => match setB cs (pos + o) m v with | some l => some ([], l) | none => none
theorem setA_den {cs : List SV} {pos o m : Nat} {v : SV} {p : List DP} {l : List SV} (h : setA cs pos o m v = some (p, l)) (hp : allP p) (hm : v.cells.length = m) :
    cellsL l = (cellsL cs).take (pos + o) ++ v.cells ++ (cellsL cs).drop (pos + o + v.cells.length) ∧ pos + o + v.cells.length ≤ (cellsL cs).length ∧ (∀ x ∈ v.cells, x.oneCell' = true) := by
  unfold setA at h
  split at h
  · rename_i r hr
    simp only [Option.some.injEq] at h
    subst h
    exact setA0_den hr hp hm
  · split at h
    · rename_i l' hl
      simp only [Option.some.injEq, Prod.mk.injEq] at h
      obtain ⟨_, rfl⟩ := h
      unfold setB at hl
      split at hl
      · rename_i xs ys hs hx hy
        simp only [Option.some.injEq] at hl
        subst hl
        obtain ⟨h1, h2⟩ := takeC_den hx
        obtain ⟨h3, h4⟩ := dropC_den hy
        rw [explode_den] at h1 h2 h3 h4
        refine ⟨?_, by omega, ?_⟩
        · rw [cellsL_append, cellsL_append, segs_den, h1, h3, hm]
        · intro x hx; rw [← segs_den] at hx; exact okSegs_one hs x hx
      · simp at hl
    · simp at h

end Go.Eng
