import Derived.Test.YtgongenkdkiifaaGreatDoorMe0
set_option linter.unusedVariables false
set_option linter.unusedSimpArgs false
set_option maxRecDepth 100000
namespace Go.Proofs
open Go.Eng
def iv_0 : Invs MapC := fun _ => none
/- (*sponsion/machine.Machine).tick, [24, 3] -> [61], 30 slots -/
def rc_machine_Machine_tick : RC := (.seq (.reg false [] [⟨(some 4), none, (.mov (.c (.i 0))), 28004⟩])
  (.seq (.block 0 (.seq (.reg false [] [⟨(some 6), none, (.mov (.t 1)), 28006⟩,
       ⟨(some 7), none, (.bin .lss (.t 6) (.c (.i 0))), 28007⟩,
       ⟨(some 8), none, (.mov (.t 7)), 28008⟩,
       ⟨(some 9), (some (8, false)), (.mov (.t 1)), 28009⟩,
       ⟨(some 10), (some (8, false)), (.bin .gtr (.t 9) (.c (.i 1048576))), 28010⟩,
       ⟨(some 11), none, (.pick (.t 8) (.c (.b true)) (.t 10)), 28011⟩,
       ⟨(some 5), none, (.mov (.t 11)), 28005⟩])
    (.cond (.t 5)
      (.seq (.reg false [] [⟨(some 4), none, (.mov (.c (.i 1))), 28004⟩])
      .ret)
      (.seq (.reg false [] [⟨(some 13), none, (.mov (.t 0)), 28013⟩,
         ⟨(some 14), none, (.nil (.t 13)), 28014⟩,
         ⟨(some 15), none, (.faddr 1 (.t 14)), 28015⟩,
         ⟨(some 16), none, (.load false 1 (.t 15)), 28016⟩,
         ⟨(some 17), none, (.mov (.t 1)), 28017⟩,
         ⟨(some 18), none, (.conv .u64 (.t 17)), 28018⟩,
         ⟨(some 19), none, (.bin .add (.t 16) (.t 18)), 28019⟩,
         ⟨(some 20), none, (.bin .gtr (.t 19) (.c (.u64 1099511627776#64))), 28020⟩,
         ⟨(some 12), none, (.mov (.t 20)), 28012⟩])
      (.cond (.t 12)
        (.seq (.reg false [] [⟨(some 4), none, (.mov (.c (.i 2))), 28004⟩])
        .ret)
        .skip)))))
  (.seq (.reg false [] [⟨(some 21), none, (.mov (.t 0)), 28021⟩,
     ⟨(some 22), none, (.nil (.t 21)), 28022⟩,
     ⟨(some 23), none, (.faddr 1 (.t 22)), 28023⟩,
     ⟨(some 24), none, (.load false 1 (.t 23)), 28024⟩,
     ⟨(some 25), none, (.mov (.t 1)), 28025⟩,
     ⟨(some 26), none, (.conv .u64 (.t 25)), 28026⟩,
     ⟨(some 27), none, (.bin .add (.t 24) (.t 26)), 28027⟩,
     ⟨(some 28), none, (.nil (.t 21)), 28028⟩,
     ⟨(some 29), none, (.faddr 1 (.t 28)), 28029⟩,
     ⟨none, none, (.store 1 (.t 29) (.t 27)), 28544⟩])
  (.seq (.reg false [] [⟨(some 4), none, (.mov (.c (.i 0))), 28004⟩])
  .ret))))
def rv_machine_Machine_tick : List RV := [.tmp 4]
theorem ck_machine_Machine_tick : chkFn Tryz.prog Tryz.f28 rc_machine_Machine_tick rv_machine_Machine_tick = true := by kernel_rfl

/- (*sponsion/machine.Machine).Block, [24] -> [25], 7 slots -/
def rc_machine_Machine_Block : RC := (.seq (.reg false [] [⟨(some 2), none, (.mov (.c (.u64 0#64))), 7002⟩])
  (.seq (.reg false [] [⟨(some 3), none, (.mov (.t 0)), 7003⟩,
     ⟨(some 4), none, (.nil (.t 3)), 7004⟩,
     ⟨(some 5), none, (.faddr 1 (.t 4)), 7005⟩,
     ⟨(some 6), none, (.load false 1 (.t 5)), 7006⟩,
     ⟨(some 2), none, (.mov (.t 6)), 7002⟩])
  .ret))
def rv_machine_Machine_Block : List RV := [.tmp 2]
theorem ck_machine_Machine_Block : chkFn Tryz.prog Tryz.f7 rc_machine_Machine_Block rv_machine_Machine_Block = true := by kernel_rfl

/- (*sponsion/machine.Machine).Log, [24] -> [68], 8 slots -/
def rc_machine_Machine_Log : RC := (.seq (.reg false [] [⟨(some 2), none, (.mov (.c .nils)), 8002⟩])
  (.seq (.reg false [] [⟨(some 3), none, (.mov (.t 0)), 8003⟩,
     ⟨(some 4), none, (.nil (.t 3)), 8004⟩,
     ⟨(some 5), none, (.faddr 2 (.t 4)), 8005⟩,
     ⟨(some 6), none, (.load false 1 (.t 5)), 8006⟩,
     ⟨(some 7), none, (.call 16 [(.t 6)]), 8007⟩,
     ⟨(some 2), none, (.mov (.t 7)), 8002⟩])
  .ret))
def rv_machine_Machine_Log : List RV := [.tmp 2]
theorem ck_machine_Machine_Log : chkFn Tryz.prog Tryz.f8 rc_machine_Machine_Log rv_machine_Machine_Log = true := by kernel_rfl

/- slices.Clone[[]sponsion/event.Event,sponsion/event.Event], [68] -> [68], 8 slots -/
def rc_slices_Clone__event_Event_event_Event : RC := (.seq (.reg false [] [⟨(some 2), none, (.mov (.c .nils)), 16002⟩])
  (.seq (.seq (.reg false [] [⟨(some 3), none, (.mov (.t 0)), 16003⟩,
      ⟨(some 4), none, (.xt (.bin .eql 68 68) [(.t 3), (.c .nils)]), 16004⟩])
   (.cond (.t 4)
     (.seq (.reg false [] [⟨(some 2), none, (.mov (.c .nils)), 16002⟩])
     .ret)
     .skip))
  (.seq (.reg false [] [⟨(some 5), none, (.xt (.bsl 68 0 []) []), 16005⟩,
     ⟨(some 6), none, (.mov (.t 0)), 16006⟩,
     ⟨(some 7), none, (.xt (.bi .append [68, 68]) [(.t 5), (.t 6)]), 16007⟩,
     ⟨(some 2), none, (.mov (.t 7)), 16002⟩])
  .ret)))
def rv_slices_Clone__event_Event_event_Event : List RV := [.tmp 2]
theorem ck_slices_Clone__event_Event_event_Event : chkFn Tryz.prog Tryz.f16 rc_slices_Clone__event_Event_event_Event rv_slices_Clone__event_Event_event_Event = true := by kernel_rfl

set_option maxRecDepth 100000 in
theorem sx_tick (n kq nb n' : Nat) (blk : BitVec 64) (dn rf x : Int) (T : Nat) (Q : SV → List (Option (Nat × CH MapC)) → Prop) : (fnT Sg_0 iv_0 rc_machine_Machine_tick rv_machine_Machine_tick [.ptr 3021 n 0 0, .i x] [(3021, some (n', .cells [.ptr kq nb 0 0, .u64 blk, .nils, .i dn, .i rf] T))] (fun r s => Q r ([3021].map s.h))) = (
  bif decide (decide (x < (0 : Int)) = false) then
  bif decide (decide (x < (0 : Int)) = false) then
    bif decide (x < (0 : Int)) then Q (SV.i (1 : Int)) [some (n', CH.cells (U := MapC) [SV.ptr kq nb (0 : Nat) (0 : Nat), SV.u64 blk, SV.nils, SV.i dn, SV.i rf] T)]
    else
      bif decide ((1048576 : Int) < x) then Q (SV.i (1 : Int)) [some (n', CH.cells (U := MapC) [SV.ptr kq nb (0 : Nat) (0 : Nat), SV.u64 blk, SV.nils, SV.i dn, SV.i rf] T)]
      else
        n = n' ∧
          bif decide (BitVec.ofNat (64 : Nat) (1099511627776 : Nat) < blk + BitVec.ofInt (64 : Nat) x) then Q (SV.i (2 : Int)) [some (n', CH.cells (U := MapC) [SV.ptr kq nb (0 : Nat) (0 : Nat), SV.u64 blk, SV.nils, SV.i dn, SV.i rf] T)]
          else n = n' ∧ ∃ (h : (1 : Nat) = (1 : Nat)), n = n' ∧ ∃ (h : (0 : Nat) = (0 : Nat)), Q (SV.i (0 : Int)) [some (n, CH.cells (U := MapC) [SV.ptr kq nb (0 : Nat) (0 : Nat), SV.u64 (blk + BitVec.ofInt (64 : Nat) x), SV.nils, SV.i dn, SV.i rf] T)]
  else bif decide (x < (0 : Int)) then Q (SV.i (1 : Int)) [some (n', CH.cells (U := MapC) [SV.ptr kq nb (0 : Nat) (0 : Nat), SV.u64 blk, SV.nils, SV.i dn, SV.i rf] T)] else False
else bif decide (decide (x < (0 : Int)) = false) then False else bif decide (x < (0 : Int)) then Q (SV.i (1 : Int)) [some (n', CH.cells (U := MapC) [SV.ptr kq nb (0 : Nat) (0 : Nat), SV.u64 blk, SV.nils, SV.i dn, SV.i rf] T)] else False) := by kernel_rfl

set_option maxRecDepth 100000 in
theorem sx_block (n kq nb n' : Nat) (blk : BitVec 64) (dn rf : Int) (T : Nat) (Q : SV → List (Option (Nat × CH MapC)) → Prop) : (fnT Sg_0 iv_0 rc_machine_Machine_Block rv_machine_Machine_Block [.ptr 3021 n 0 0] [(3021, some (n', .cells [.ptr kq nb 0 0, .u64 blk, .nils, .i dn, .i rf] T))] (fun r s => Q r ([3021].map s.h))) = (
  n = n' ∧ Q (SV.u64 blk) [some (n', CH.cells (U := MapC) [SV.ptr kq nb (0 : Nat) (0 : Nat), SV.u64 blk, SV.nils, SV.i dn, SV.i rf] T)]) := by kernel_rfl

set_option maxRecDepth 100000 in
theorem sx_clone (Q : SV → List (Option (Nat × CH MapC)) → Prop) : (fnT Sg_0 iv_0 rc_slices_Clone__event_Event_event_Event rv_slices_Clone__event_Event_event_Event [.nils] [] (fun r s => Q r ([].map s.h))) = (
  Q SV.nils []) := by kernel_rfl

end Go.Proofs
