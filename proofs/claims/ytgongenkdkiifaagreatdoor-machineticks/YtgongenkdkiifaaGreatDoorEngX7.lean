/- More families: a part of an array, zeros behind a slice. -/
import Derived.Test.YtgongenkdkiifaaGreatDoorEngX5
set_option linter.unusedSimpArgs false
set_option linter.unusedVariables false
namespace Go.Eng
variable {U : Type} {ρ : U → Nat → Hp → Prop} {P : Program}

/-! ## a part of an array -/
def sliceaF (n sz : Nat) (lo hi : Bool) : List SV → Option (List DP × SV)
  | [.ptr k nb b o] => match lo, hi with | false, false => some ([], .slc k nb b o n n) | _, _ => none
  | [.ptr k nb b o, .i l] =>
    match lo, hi with
    | true, false => some ([⟨0 ≤ l ∧ l ≤ n, decSl l n⟩], cutS sz k nb b o n l.toNat n)
    | false, true => some ([⟨0 ≤ l ∧ l ≤ n, decSl l n⟩], .slc k nb b o l.toNat n)
    | _, _ => none
  | [.ptr k nb b o, .i l, .i h] => match lo, hi with | true, true => some ([⟨0 ≤ h ∧ h ≤ n, decSl h n⟩, ⟨0 ≤ l ∧ l ≤ h, decSl2 l h⟩], cutS sz k nb b o n l.toNat h.toNat) | _, _ => none
  | _ => none
theorem xok_slicea {T e : TypeId} {lo hi : Bool} {i : TypeInfo} {n sz : Nat} (hT : P.underlying T = some (.array n e)) (hi' : P.info? e = some i) (hsz : i.size = sz) : XOk ρ P (.slice T lo hi) (pureSp (U := U) (sliceaF n sz lo hi)) := by
  refine xok_pure ?_
  intro o xs a vs w p v ht hv hf hp
  obtain ⟨x, l, r, h1, rfl, rfl, rfl⟩ := tag_slice ht
  have hex : execOp a.eval o = (do let q ← Instr.sliceAt T (a.eval x) (l.map a.eval) (r.map a.eval) none; pure (.value q)) := by unfold execOp; rw [h1]; rfl
  rw [hex]
  rw [denL_eq] at hv
  have hs0 : ∀ (ad : Addr), (Instr.sliceAt T (.pointer (some ad)) none none none).run P w = .ok (.slice (some (if n = 0 then ad else ad.add 0)) n n) w := by
    intro ad
    simp [Instr.sliceAt, run_underlying hT, Instr.sureAddr, Instr.sliceBounds, sizeOf, info_run hi', hsz]
  have hs1 : ∀ (ad : Addr) (z : Int), 0 ≤ z → z ≤ n → (Instr.sliceAt T (.pointer (some ad)) (some (.int .i64 z)) none none).run P w = .ok (.slice (some (if n = z.toNat then ad else ad.add (z.toNat * sz))) (n - z.toNat) (n - z.toNat)) w := by
    intro ad z h0 h1
    simp [Instr.sliceAt, run_underlying hT, Instr.sureAddr, Instr.sliceBounds, Instr.sliceBound, asIntOf, h0, h1, sizeOf, info_run hi', hsz]
  have hs2 : ∀ (ad : Addr) (z : Int), 0 ≤ z → z ≤ n → (Instr.sliceAt T (.pointer (some ad)) none (some (.int .i64 z)) none).run P w = .ok (.slice (some (if n = 0 then ad else ad.add 0)) z.toNat n) w := by
    intro ad z h0 h1
    simp [Instr.sliceAt, run_underlying hT, Instr.sureAddr, Instr.sliceBounds, Instr.sliceBound, asIntOf, h0, h1, sizeOf, info_run hi', hsz]
  have hs3 : ∀ (ad : Addr) (y z : Int), 0 ≤ z → z ≤ n → 0 ≤ y → y ≤ z → (Instr.sliceAt T (.pointer (some ad)) (some (.int .i64 y)) (some (.int .i64 z)) none).run P w = .ok (.slice (some (if n = y.toNat then ad else ad.add (y.toNat * sz))) (z.toNat - y.toNat) (n - y.toNat)) w := by
    intro ad y z h0 h1 h2 h3
    have h4 : y ≤ (z.toNat : Int) := by omega
    simp only [Instr.sliceAt, Sem.run_bind, run_underlying hT, Result.andThen_ok, Instr.sureAddr, Instr.sliceBounds, Instr.sliceBound, asIntOf, Sem.run_pure, h0, h1, h2, h4, and_self, if_true, sizeOf, info_run hi', hsz]
  have add0 : ∀ (n o : Nat), (⟨n, o, none⟩ : Addr).add 0 = ⟨n, o, none⟩ := by intro n o; simp [Addr.add]
  have cut : ∀ (k nb b o l h : Nat), (cutS sz k nb b o n l h).den = .slice (some (if n = l then ⟨nb, b + o, none⟩ else (⟨nb, b + o, none⟩ : Addr).add (l * sz))) (h - l) (n - l) := by
    intro k nb b o l h
    rw [cutS_den]
    split <;> rfl
  unfold sliceaF at hf
  split at hf
  · rename_i k nb b off
    cases l <;> cases r <;> simp at hf
    obtain ⟨rfl, rfl⟩ := hf
    simp only [Option.toList_none, List.append_nil, List.map_cons, List.map_nil, List.cons.injEq, and_true] at hv
    simp [hv, SV.den, hs0, add0]
  · rename_i k nb b off z
    cases l with
    | none =>
      cases r with
      | none => simp at hf
      | some r =>
        simp only [Option.isSome_none, Option.isSome_some, Option.some.injEq, Prod.mk.injEq] at hf
        obtain ⟨rfl, rfl⟩ := hf
        have hp : 0 ≤ z ∧ z ≤ n := hp
        simp only [Option.toList_none, Option.toList_some, List.append_nil, List.singleton_append, List.map_cons, List.map_nil, List.cons.injEq, and_true] at hv
        simp [hv.1, hv.2, SV.den, hs2 _ _ hp.1 hp.2, add0]
    | some l =>
      cases r with
      | none =>
        simp only [Option.isSome_none, Option.isSome_some, Option.some.injEq, Prod.mk.injEq] at hf
        obtain ⟨rfl, rfl⟩ := hf
        have hp : 0 ≤ z ∧ z ≤ n := hp
        simp only [Option.toList_none, Option.toList_some, List.append_nil, List.singleton_append, List.map_cons, List.map_nil, List.cons.injEq, and_true] at hv
        rw [cut]
        simp [hv.1, hv.2, SV.den, hs1 _ _ hp.1 hp.2]
      | some r => simp at hf
  · rename_i k nb b off z y
    cases l with
    | none => simp at hf
    | some l =>
      cases r with
      | none => simp at hf
      | some r =>
        simp only [Option.isSome_some, Option.some.injEq, Prod.mk.injEq] at hf
        obtain ⟨rfl, rfl⟩ := hf
        have hp : (0 ≤ y ∧ y ≤ n) ∧ (0 ≤ z ∧ z ≤ y) := hp
        obtain ⟨⟨h2, h3⟩, h4, h5⟩ := hp
        simp only [Option.toList_some, List.singleton_append, List.cons_append, List.nil_append, List.map_cons, List.map_nil, List.cons.injEq, and_true] at hv
        rw [cut]
        simp [hv.1, hv.2.1, hv.2.2, SV.den, hs3 _ _ _ h2 h3 h4 h5]
  · simp at hf

/-! ## zeros behind a slice -/
theorem zeroCells_made (z : Array Value) (n : Nat) : Builtin.zeroCells z n = madeCells z (n * z.size) := rfl
section
variable {w : World} {T Tx e : TypeId} {i : TypeInfo} {z : Value} {kx k0 : IntKind}
theorem run_appz_room (ty : TypeId) (hT : P.underlying T = some (.slice e)) (hTx : P.underlying Tx = some (.int k0)) (hi : P.info? e = some i) (hz : i.zero = some z) (n len cap : Nat) (cur : Array Value) (hcs : w.heap[n]? = some (.cells cur e)) (m : Nat)
    (hm : m < 9223372036854775808) (hby : m * i.bytes ≤ 281474976710656) (h0 : 0 < m * i.size) (hzs : z.cells.size = i.size) (hone : ∀ v ∈ (Builtin.zeroCells z.cells m).toList, v.oneCell' = true) (hroom : len + m ≤ cap) (hfit : len * i.size + m * i.size ≤ cur.size) :
    (Builtin.append_ #[T, Tx] ty #[.slice (some ⟨n, 0, none⟩) len cap, .int kx m]).run P w =
      .ok (.slice (some ⟨n, 0, none⟩) (len + m) cap) (w.setRow n (cur.toList.take (len * i.size) ++ (Builtin.zeroCells z.cells m).toList ++ cur.toList.drop (len * i.size + m * i.size)).toArray) := by
  have hw : IntKind.i64.wrap (m : Int) = m := IntWalk.i64_in _ (by omega)
  have hlz : (Builtin.zeroCells z.cells m).toList.length = m * i.size := by simp [zeroCells_made, size_madeCells, hzs]
  have hst := run_storeCells_at P n (len * i.size) e (Builtin.zeroCells z.cells m).toList 0 cur w hcs (by rw [hlz]; omega) hone
  simp only [Nat.add_zero, hlz] at hst
  have h1 : ¬ ((m : Int) < 0) := by omega
  have h2 : ¬ (281474976710656 < (m : Int) * (i.bytes : Int)) := by
    have : (m : Int) * (i.bytes : Int) = ((m * i.bytes : Nat) : Int) := by simp
    omega
  have h3 : ¬ (m * i.size = 0) := by omega
  have h4 : ¬ (m = 0 ∨ i.size = 0) := by
    rintro (e | e) <;> simp [e] at h0
  simp [Builtin.append_, run_underlying hT, run_underlying hTx, sizeOf, typeInfo, zeroValue, hi, hz, asInt, asIntOf, hw, h1, h2, hroom, h4, Addr.add_lit]
  simp only [add_none, Nat.zero_add, hst, Result.andThen_ok, Sem.run_pure]
  rw [if_neg h3, List.append_assoc]
theorem run_appz_grow (ty : TypeId) (hT : P.underlying T = some (.slice e)) (hTx : P.underlying Tx = some (.int k0)) (hi : P.info? e = some i) (hz : i.zero = some z) (ad : Addr) (len cap : Nat) (olds : List Value) (hlo : olds.length = len * i.size)
    (hold : ∀ j v, olds[j]? = some v → w.cell? (ad.add j) = some v) (m : Nat) (hm : m < 9223372036854775808) (hby : m * i.bytes ≤ 281474976710656) (h0 : 0 < m * i.size)
    (hg : cap < len + m) (h63 : ((len + m : Nat) : Int) ≤ 9223372036854775807) (hfit : Builtin.nextslicecap (len + m) cap * i.bytes ≤ 281474976710656) :
    (Builtin.append_ #[T, Tx] ty #[.slice (some ad) len cap, .int kx m]).run P w =
      .ok (.slice (some ⟨w.heap.size, 0, none⟩) (len + m) (grownCap w (len + m) cap e))
        (w.drew.alloc (.cells (olds.toArray ++ Builtin.zeroCells z.cells m ++ Builtin.zeroCells z.cells (grownCap w (len + m) cap e - (len + m))) e)) := by
  have hw : IntKind.i64.wrap (m : Int) = m := IntWalk.i64_in _ (by omega)
  have h1 : ¬ ((m : Int) < 0) := by omega
  have h2 : ¬ (281474976710656 < (m : Int) * (i.bytes : Int)) := by
    have : (m : Int) * (i.bytes : Int) = ((m * i.bytes : Nat) : Int) := by simp
    omega
  have h3 : ¬ (m * i.size = 0) := by omega
  have h4 : ¬ (m = 0 ∨ i.size = 0) := by
    rintro (e | e) <;> simp [e] at h0
  have hn : ¬ (len + m ≤ cap) := by omega
  have h63' : ¬ (9223372036854775807 < ((len : Int) + (m : Int))) := by omega
  have h48' : ¬ (281474976710656 < Builtin.nextslicecap (len + m) cap * i.bytes) := by omega
  have hold' := run_firstCells_some (P := P) w.drew i.size len ad len cap olds hlo (by simpa using hold)
  simp [Builtin.append_, run_underlying hT, run_underlying hTx, sizeOf, typeInfo, zeroValue, hi, hz, asInt, asIntOf, hw, h1, h2, hn, h63', h48', Question.forced, hold', newRow, grownCap, h3, h4]
end

theorem zeros_len {z : Array Value} (n : Nat) : (Builtin.zeroCells z n).toList.length = n * z.size := by simp [zeroCells_made, size_madeCells]
/-- zeros behind a slice: so many -/
def appzN (kk : Nat → R U) : SV → R U
  | .u64 n => kk n.toNat
  | .i n => .asrt (0 ≤ n) (kk n.toNat)
  | _ => .fail
def appzR (sz by' : Nat) (e : TypeId) (zs : List SV) : Spec U := fun d vs =>
  match vs with
  | [.slc k n b o len cap, x] => appzN (fun m => .asrt (m * by' ≤ 281474976710656 ∧ m < 9223372036854775808) (match okSegs zs with | true => appK sz by' e d (.slc k n b o len cap) (repS zs m) m | false => .fail)) x
  | _ => .fail
theorem appzN_elim {kk : Nat → R U} {x : SV} {s : St U} (h : Safe (appzN kk x) s) : ∃ kx m, x.den = .int kx ((m : Nat) : Int) ∧ Safe (kk m) s ∧ ∀ α β e, Path (kk m) s α β e → Path (appzN kk x) s α β e := by
  cases x <;> try exact h.elim
  case u64 n => exact ⟨.u64, n.toNat, rfl, h, fun _ _ _ p => p⟩
  case i n =>
    obtain ⟨h1, h2⟩ := h
    exact ⟨.i64, n.toNat, by simp [SV.den, Int.toNat_of_nonneg h1], h2, fun _ _ _ p => .need h1 p⟩

theorem xok_appz {T Tx e : TypeId} {i : TypeInfo} {z : Value} {k0 : IntKind} {zs : List SV} {sz by' : Nat} (hT : P.underlying T = some (.slice e)) (hTx : P.underlying Tx = some (.int k0)) (hi : P.info? e = some i) (hz : i.zero = some z) (hsz : i.size = sz) (hby : i.bytes = by')
    (hzs : z.cells.size = sz) (h0 : 0 < sz) (hzz : eqVL z.cells.toList zs = true) : XOk ρ P (.bi .append [T, Tx]) (appzR (U := U) sz by' e zs) := by
  intro o xs d vs F c s a w ht hv hsat hsame hsafe
  obtain ⟨cs0, hex⟩ := run_bi ht hv
  unfold appzR at hsafe
  split at hsafe
  case h_2 => exact hsafe.elim
  rename_i k n b0 o0 len cap x
  obtain ⟨kx, m, hxd, hs1, hpa1⟩ := appzN_elim hsafe
  obtain ⟨⟨hmb, hm63⟩, hs1⟩ := hs1
  cases hok : okSegs zs with
  | false => rw [hok] at hs1; exact hs1.elim
  | true =>
  rw [hok] at hs1
  have hs2 : Safe (appK sz by' e d (.slc k n b0 o0 len cap) (repS zs m) m) s := hs1
  have fin : ∀ {α β : List Nat} {eff : Eff U} {w' : World}, Path (appK sz by' e d (.slc k n b0 o0 len cap) (repS zs m) m) s α β eff →
      (Builtin.append_ #[T, Tx] o.type #[(SV.slc k n b0 o0 len cap).den, x.den]).run P w = .ok eff.1.den w' → satH ρ F (putH s.h eff.2) (hp w') → Same c w' →
      ∃ α β eff w', Path (appzR sz by' e zs d [.slc k n b0 o0 len cap, x]) s α β eff ∧ ((execOp a.eval o).run P w = .ok (.value eff.1.den) w' ∨ ((execOp a.eval o).run P w = .ok .skip w' ∧ eff.1 = .und)) ∧ satH ρ F (putH s.h eff.2) (hp w') ∧ Same c w' := by
    intro α β eff w' p hr hh hsm
    refine ⟨α, β, eff, w', ?_, .inl ?_, hh, hsm⟩
    · refine hpa1 _ _ _ (.need ⟨hmb, hm63⟩ ?_)
      rw [hok]; exact p
    · rw [hex]
      have : (denL [.slc k n b0 o0 len cap, x]).toArray = #[(SV.slc k n b0 o0 len cap).den, x.den] := by simp [denL]
      rw [this]
      simp only [builtin, Sem.run_bind, hr, Result.andThen_ok, Sem.run_pure]
  clear hsafe hv hex hs1 hpa1
  subst hsz
  subst hby
  have hnewz : ∀ m, (Builtin.zeroCells z.cells m).toList = cellsL (repS zs m) := by
    intro m
    rw [zeroCells_made]
    exact repS_den (eqVL_den hzz) (by rw [hzs]; exact h0) m
  cases m with
  | zero =>
    unfold appK at hs2
    obtain ⟨hle, _⟩ := hs2
    refine fin (eff := (.slc k n b0 o0 len cap, [])) (w' := w) (by unfold appK; exact .need hle .ret) ?_ hsat hsame
    rw [hxd]
    have hle : len ≤ cap := hle
    have hw0 : IntKind.i64.wrap ((0 : Nat) : Int) = 0 := by decide
    simp [Builtin.append_, SV.den, run_underlying hT, run_underlying hTx, sizeOf, typeInfo, info_run hi, hi, asInt, asIntOf, hle, storeCells, IntKind.wrap, IntKind.signed, IntKind.bits]
  | succ m =>
    have hlen : (cellsL (repS zs (m + 1))).length = (m + 1) * i.size := by rw [← hnewz, zeros_len, hzs]
    have hone : ∀ u ∈ cellsL (repS zs (m + 1)), u.oneCell' = true := by
      have : ∀ m, okSegs (repS zs m) = true := by
        intro m
        induction m with
        | zero => rfl
        | succ m ih =>
          rw [repS]
          have app : ∀ (a b : List SV), okSegs a = true → okSegs b = true → okSegs (a ++ b) = true := by
            intro a b ha hb
            induction a with
            | nil => exact hb
            | cons x a ih => simp only [okSegs, Bool.and_eq_true, List.cons_append] at ha ⊢; exact ⟨ha.1, ih ha.2⟩
          exact app _ _ hok ih
      exact okSegs_one (this _)
    generalize hnew : repS zs (m + 1) = new at *
    cases b0 with
    | succ => unfold appK at hs2; exact hs2.elim
    | zero =>
    cases o0 with
    | succ => unfold appK at hs2; exact hs2.elim
    | zero =>
      unfold appK at hs2
      simp only at hs2
      have hs2 : Safe _ s := hs2
      cases hk : s.h k with
      | none => simp [Safe, R.T, hk] at hs2
      | some q =>
        obtain ⟨n', ch⟩ := q
        cases ch with
        | obj u => simp [Safe, R.T, hk] at hs2
        | sy => simp [Safe, R.T, hk] at hs2
        | ro => simp [Safe, R.T, hk] at hs2
        | cells cs T0 =>
          simp only [Safe, R.T, hk] at hs2
          obtain ⟨hnn, rfl, hs2⟩ := hs2
          have hnn : n = n' := hnn
          subst hnn
          cases h2 : takeC cs (len * i.size) with
          | none => simp [h2, R.T] at hs2
          | some used =>
           cases h3 : dropC cs (len * i.size) with
           | none => simp [h2, h3, R.T] at hs2
           | some rest =>
            simp only [h2, h3] at hs2
            obtain ⟨t1, t2⟩ := takeC_den h2
            obtain ⟨t3, _⟩ := dropC_den h3
            obtain ⟨hlc, hrest, hs3, hsp⟩ := spareR_elim (s := s) (R.T_mono _ (fun _ _ _ _ => trivial) hs2)
            have hcap : lenS cs = cap * i.size := by
              rw [← lenS_den] at hrest ⊢
              rw [t3, List.length_drop, Nat.sub_mul] at hrest
              have := Nat.mul_le_mul_right i.size hlc
              omega
            obtain ⟨g1, g2, g3, g4⟩ := grow_elim (s := s) hs3
            have hcs : w.heap[n]? = some (.cells (cellsL cs).toArray T0) := hsat.cells hk
            have pth : ∀ {eff : Eff U}, Path (growR i.size i.bytes T0 d (len + (m + 1)) (used ++ new) [(k, none)]) s [] [] eff → Path (appK i.size i.bytes T0 d (.slc k n 0 0 len cap) new (m + 1)) s [] [k] eff := by
              intro eff p
              unfold appK
              refine .rdH ?_
              rw [hk]
              refine .same rfl (.need rfl ?_)
              simp only [h2, h3]
              exact hsp _ _ _ p
            have hul : (cellsL used).length = len * i.size := by rw [t1]; simp; omega
            by_cases hroom : len + (m + 1) ≤ cap
            · have hfit : len * i.size + (cellsL new).length ≤ (cellsL cs).toArray.size := by
                rw [hlen, List.size_toArray, lenS_den, hcap, ← Nat.add_mul]; exact Nat.mul_le_mul_right _ hroom
              have hr := run_appz_room (P := P) (kx := kx) o.type hT hTx hi hz n len cap (cellsL cs).toArray hcs (m + 1) hm63 hmb (Nat.mul_pos (Nat.succ_pos m) h0) hzs (by rw [hnewz, hnew]; exact hone) hroom (by rw [hlen] at hfit; exact hfit)
              rw [hnewz, hnew, ← hlen] at hr
              have hcl : (cellsL cs).length = cap * i.size := by rw [lenS_den, hcap]
              refine fin (pth (g4 n cap ((cellsL cs).drop (len * i.size + (cellsL new).length)) hroom ?_)) (w' := w.setRow n ((cellsL cs).take (len * i.size) ++ cellsL new ++ (cellsL cs).drop (len * i.size + (cellsL new).length)).toArray) ?_ ?_ ⟨hsame.tape, hsame.os, hsame.output⟩
              · rw [g3, List.length_drop, hcl, hlen, ← Nat.add_mul]
                have := Nat.mul_le_mul_right i.size hroom
                omega
              · rw [hxd]
                simpa [SV.den] using hr
              · rw [hp_setRow _ hcs]
                have e1 : (cellsL cs).take (len * i.size) ++ cellsL new ++ (cellsL cs).drop (len * i.size + (cellsL new).length) = cellsL ((used ++ new) ++ [anyL ((cellsL cs).drop (len * i.size + (cellsL new).length))]) := by
                  rw [cellsL_any, cellsL_append, t1]
                rw [e1]
                have := (hsat.setCells (cs' := (used ++ new) ++ [anyL ((cellsL cs).drop (len * i.size + (cellsL new).length))]) (T' := T0) hk).move (k := k) (d := d) (n := n) (c := CH.cells ((used ++ new) ++ [anyL ((cellsL cs).drop (len * i.size + (cellsL new).length))]) T0) (if_pos rfl)
                have e2 : (fun j => if j = d then some (n, CH.cells ((used ++ new) ++ [anyL ((cellsL cs).drop (len * i.size + (cellsL new).length))]) T0) else if j = k then none else if j = k then some (n, CH.cells ((used ++ new) ++ [anyL ((cellsL cs).drop (len * i.size + (cellsL new).length))]) T0) else s.h j) = putH s.h ([(k, none)] ++ [(d, some (n, CH.cells ((used ++ new) ++ [anyL ((cellsL cs).drop (len * i.size + (cellsL new).length))]) T0))]) := by
                  funext j
                  simp only [List.singleton_append, putH]
                  by_cases e : j = d
                  · simp [e]
                  · by_cases e' : j = k
                    · simp [e']
                    · simp [e, e']
                rw [← e2]
                exact this
            · have hn63 : ((len + (m + 1) : Nat) : Int) ≤ 9223372036854775807 := by simp only [maxLen] at g2; omega
              have holds : ∀ j v, (cellsL used)[j]? = some v → w.cell? ((⟨n, 0, none⟩ : Addr).add j) = some v := by
                intro j v hj
                rw [add_none, cell_of hcs, Nat.zero_add]
                rw [t1, List.getElem?_take] at hj
                split at hj
                · exact hj
                · simp at hj
              have hr := run_appz_grow (P := P) (kx := kx) o.type hT hTx hi hz ⟨n, 0, none⟩ len cap (cellsL used) hul holds (m + 1) hm63 hmb (Nat.mul_pos (Nat.succ_pos m) h0) (by omega) hn63 (growslice_fits (by omega) g1)
              have hzn : Builtin.zeroCells z.cells (m + 1) = (cellsL new).toArray := by rw [← hnew, ← hnewz]
              rw [hzn] at hr
              have hge := grownCap_ge w (len + (m + 1)) cap T0
              refine fin (pth (g4 w.heap.size (grownCap w (len + (m + 1)) cap T0) (Builtin.zeroCells z.cells (grownCap w (len + (m + 1)) cap T0 - (len + (m + 1)))).toList hge ?_)) (w' := w.drew.alloc (.cells ((cellsL used).toArray ++ (cellsL new).toArray ++ Builtin.zeroCells z.cells (grownCap w (len + (m + 1)) cap T0 - (len + (m + 1)))) T0)) ?_ ?_ ⟨hsame.tape, hsame.os, hsame.output⟩
              · rw [g3]
                simp only [Array.length_toList, size_zeroCells, hzs, ← Nat.add_mul]
                congr 1; omega
              · rw [hxd]
                simpa [SV.den] using hr
              · rw [hp_alloc]
                have e1 : ((cellsL used).toArray ++ (cellsL new).toArray ++ Builtin.zeroCells z.cells (grownCap w (len + (m + 1)) cap T0 - (len + (m + 1)))) = (cellsL ((used ++ new) ++ [anyL (Builtin.zeroCells z.cells (grownCap w (len + (m + 1)) cap T0 - (len + (m + 1)))).toList])).toArray := by
                  rw [cellsL_any, cellsL_append]; apply Array.ext'; simp
                rw [e1]
                have := (hsat.drop k).new (k := d) (c := .cells ((used ++ new) ++ [anyL (Builtin.zeroCells z.cells (grownCap w (len + (m + 1)) cap T0 - (len + (m + 1)))).toList]) T0) (hp_size w) rfl
                exact this
end Go.Eng
