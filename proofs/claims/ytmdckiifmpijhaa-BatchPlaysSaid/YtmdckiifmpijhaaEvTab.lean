/- The program's functions as the evaluator takes them, printed by a program of this repository (PrintTab.lean, mktab.py); that they are the program's is proved at the end. -/
import Derived.Test.YtmdckiifmpijhaaEvComp
import Derived.Test.YtmdckiifmpijhaaEvRun
import Derived.Test.YtmdckiifmpijhaaChecked
import Derived.KernelRfl
namespace Go.Proofs.Ytmdckiifmpijhaa.Ev
open Go

/-- 'hostler/hostlerlaw07.GlobalShares' -/
def F3 : AFunc := ⟨72, [.tmp 4],
  .seq (.region [
    ⟨(some 4), .mv (.const (.bool false)), none⟩])
  (.seq (.seq (.region [
    ⟨(some 13), .call 12 [], none⟩,
    ⟨(some 14), .un .not (.tmp 13), none⟩])
  (.cond (.tmp 14)
    (.seq (.region [
      ⟨(some 4), .mv (.const (.bool false)), none⟩])
    (.ret))
    (.skip)))
  (.seq (.region [
    ⟨(some 15), .mv (.tmp 0), none⟩,
    ⟨(some 16), .bin .rem (.tmp 15) (.const (.int .u8 64)), none⟩,
    ⟨(some 17), .toInt .i64 (.tmp 16), none⟩,
    ⟨(some 18), .bin .add (.const (.int .i64 1)) (.tmp 17), none⟩,
    ⟨(some 19), .mv (.tmp 1), none⟩,
    ⟨(some 20), .bin .rem (.tmp 19) (.const (.int .u16 2000)), none⟩,
    ⟨(some 21), .toInt .i64 (.tmp 20), none⟩,
    ⟨(some 5), .mv (.tmp 18), none⟩,
    ⟨(some 6), .mv (.tmp 21), none⟩])
  (.seq (.region [
    ⟨(some 22), .mv (.tmp 5), none⟩,
    ⟨(some 23), .call 13 [(.tmp 22)], none⟩,
    ⟨(some 7), .mv (.tmp 23), none⟩])
  (.seq (.region [
    ⟨(some 24), .mv (.tmp 7), none⟩,
    ⟨(some 25), .mv (.tmp 6), none⟩,
    ⟨(some 26), .call 15 [(.const (.int .i64 0)), (.tmp 25)], none⟩,
    ⟨(some 27), .call 14 [(.tmp 24), (.tmp 26)], none⟩])
  (.seq (.region [
    ⟨(some 28), .mv (.tmp 7), none⟩,
    ⟨(some 29), .call 16 [(.tmp 28)], none⟩,
    ⟨(some 8), .mv (.tmp 29), none⟩])
  (.seq (.seq (.region [
    ⟨(some 30), .mv (.tmp 8), none⟩,
    ⟨(some 31), .mv (.tmp 6), none⟩,
    ⟨(some 32), .bin .gtr (.tmp 30) (.tmp 31), none⟩,
    ⟨(some 33), .mv (.tmp 32), none⟩,
    ⟨(some 34), .mv (.tmp 8), (some (33, false))⟩,
    ⟨(some 35), .bin .gtr (.tmp 34) (.const (.int .i64 128)), (some (33, false))⟩,
    ⟨(some 36), .pick (.tmp 33) (.const (.bool true)) (.tmp 35), none⟩,
    ⟨(some 37), .mv (.tmp 36), none⟩,
    ⟨(some 38), .mv (.tmp 8), (some (37, false))⟩,
    ⟨(some 39), .bin .eql (.tmp 38) (.const (.int .i64 0)), (some (37, false))⟩,
    ⟨(some 40), .mv (.tmp 6), (some (37, false))⟩,
    ⟨(some 41), .bin .eql (.tmp 40) (.const (.int .i64 0)), (some (37, false))⟩,
    ⟨(some 42), .eqBool true (.tmp 39) (.tmp 41), (some (37, false))⟩,
    ⟨(some 43), .pick (.tmp 37) (.const (.bool true)) (.tmp 42), none⟩])
  (.cond (.tmp 43)
    (.seq (.region [
      ⟨(some 4), .mv (.const (.bool false)), none⟩])
    (.ret))
    (.skip)))
  (.seq (.region [
    ⟨(some 9), .mv (.const (.int .i64 0)), none⟩])
  (.seq (.seq (.region [
    ⟨(some 44), .mv (.const (.int .i64 0)), none⟩])
  (.block 0 (.loop (.seq (.region [
      ⟨(some 45), .bin .lss (.tmp 44) (.const (.int .i64 20000)), none⟩])
    (.seq (.cond (.tmp 45)
      (.skip)
      (.exit 0))
    (.seq (.block 1 (.seq (.region [
      ⟨(some 46), .mv (.tmp 7), none⟩,
      ⟨(some 47), .call 17 [(.tmp 46)], none⟩,
      ⟨(some 10), .mv (.tmp 47), none⟩])
    (.seq (.seq (.region [
      ⟨(some 48), .mv (.tmp 10), none⟩,
      ⟨(some 49), .lenS (.tmp 48), none⟩,
      ⟨(some 50), .bin .eql (.tmp 49) (.const (.int .i64 0)), none⟩])
    (.cond (.tmp 50)
      (.exit 0)
      (.skip)))
    (.seq (.region [
      ⟨(some 51), .mv (.tmp 10), none⟩,
      ⟨(some 52), .lenS (.tmp 51), none⟩,
      ⟨(some 53), .mv (.const (.int .i64 0)), none⟩])
    (.block 2 (.loop (.seq (.region [
        ⟨(some 54), .bin .lss (.tmp 53) (.tmp 52), none⟩])
      (.seq (.cond (.tmp 54)
        (.skip)
        (.exit 2))
      (.seq (.block 3 (.seq (.region [
        ⟨(some 55), .idxAddr 1 none (.tmp 51) (.tmp 53), none⟩,
        ⟨(some 56), .load1 (.tmp 55), none⟩,
        ⟨(some 12), .mv (.tmp 56), none⟩])
      (.seq (.seq (.region [
        ⟨(some 57), .mv (.tmp 12), none⟩,
        ⟨(some 58), .mv (.tmp 9), none⟩,
        ⟨(some 59), .bin .neq (.tmp 57) (.tmp 58), none⟩])
      (.cond (.tmp 59)
        (.seq (.region [
          ⟨(some 4), .mv (.const (.bool false)), none⟩])
        (.ret))
        (.skip)))
      (.region [
        ⟨(some 60), .mv (.tmp 9), none⟩,
        ⟨(some 61), .bin .add (.tmp 60) (.const (.int .i64 1)), none⟩,
        ⟨(some 9), .mv (.tmp 61), none⟩]))))
      (.region [
        ⟨(some 62), .bin .add (.tmp 53) (.const (.int .i64 1)), none⟩,
        ⟨(some 53), .mv (.tmp 62), none⟩]))))))))))
    (.region [
      ⟨(some 63), .bin .add (.tmp 44) (.const (.int .i64 1)), none⟩,
      ⟨(some 44), .mv (.tmp 63), none⟩])))))))
  (.seq (.region [
    ⟨(some 64), .mv (.tmp 9), none⟩,
    ⟨(some 65), .mv (.tmp 6), none⟩,
    ⟨(some 66), .bin .eql (.tmp 64) (.tmp 65), none⟩,
    ⟨(some 67), .mv (.tmp 66), none⟩,
    ⟨(some 68), .mv (.tmp 7), (some (67, true))⟩,
    ⟨(some 69), .call 18 [(.tmp 68)], (some (67, true))⟩,
    ⟨(some 70), .bin .eql (.tmp 69) (.const (.int .i64 0)), (some (67, true))⟩,
    ⟨(some 71), .pick (.tmp 67) (.tmp 70) (.const (.bool false)), none⟩,
    ⟨(some 4), .mv (.tmp 71), none⟩])
  (.ret))))))))))⟩

/-- 'hostler/hostlerlaw05.BatchHalves' -/
def F4 : AFunc := ⟨63, [.tmp 2],
  .seq (.region [
    ⟨(some 2), .mv (.const (.bool false)), none⟩])
  (.seq (.seq (.region [
    ⟨(some 7), .call 19 [], none⟩,
    ⟨(some 8), .un .not (.tmp 7), none⟩,
    ⟨(some 9), .mv (.tmp 8), none⟩,
    ⟨(some 10), .mv (.tmp 0), (some (9, false))⟩,
    ⟨(some 11), .lenS (.tmp 10), (some (9, false))⟩,
    ⟨(some 12), .bin .gtr (.tmp 11) (.const (.int .i64 60)), (some (9, false))⟩,
    ⟨(some 13), .pick (.tmp 9) (.const (.bool true)) (.tmp 12), none⟩])
  (.cond (.tmp 13)
    (.seq (.region [
      ⟨(some 14), .call 19 [], none⟩,
      ⟨(some 2), .mv (.tmp 14), none⟩])
    (.ret))
    (.skip)))
  (.seq (.region [
    ⟨(some 15), .mv (.tmp 0), none⟩,
    ⟨(some 16), .call 20 [(.tmp 15)], none⟩,
    ⟨(some 3), .mv (.tmp 16), none⟩])
  (.seq (.region [
    ⟨(some 4), .mv (.const .nilslice), none⟩])
  (.seq (.block 0 (.loop (.seq (.seq (.region [
      ⟨(some 17), .mv (.tmp 3), none⟩,
      ⟨(some 18), .call 21 [(.tmp 17)], none⟩,
      ⟨(some 19), .bin .gtr (.tmp 18) (.const (.int .i64 0)), none⟩])
    (.cond (.tmp 19)
      (.skip)
      (.exit 0)))
    (.block 1 (.seq (.region [
      ⟨(some 20), .mv (.tmp 3), none⟩,
      ⟨(some 21), .call 21 [(.tmp 20)], none⟩,
      ⟨(some 5), .mv (.tmp 21), none⟩])
    (.seq (.region [
      ⟨(some 22), .mv (.tmp 3), none⟩,
      ⟨(some 23), .call 22 [(.tmp 22)], none⟩,
      ⟨(some 6), .mv (.tmp 23), none⟩])
    (.seq (.seq (.region [
      ⟨(some 24), .mv (.tmp 6), none⟩,
      ⟨(some 25), .cmpNil false 0 (.tmp 24) (.const .nilptr), none⟩,
      ⟨(some 26), .mv (.tmp 25), none⟩,
      ⟨(some 27), .mv (.tmp 6), (some (26, false))⟩,
      ⟨(some 28), .call 21 [(.tmp 27)], (some (26, false))⟩,
      ⟨(some 29), .mv (.tmp 3), (some (26, false))⟩,
      ⟨(some 30), .call 21 [(.tmp 29)], (some (26, false))⟩,
      ⟨(some 31), .bin .add (.tmp 28) (.tmp 30), (some (26, false))⟩,
      ⟨(some 32), .mv (.tmp 5), (some (26, false))⟩,
      ⟨(some 33), .bin .neq (.tmp 31) (.tmp 32), (some (26, false))⟩,
      ⟨(some 34), .pick (.tmp 26) (.const (.bool true)) (.tmp 33), none⟩,
      ⟨(some 35), .mv (.tmp 34), none⟩,
      ⟨(some 36), .mv (.tmp 6), (some (35, false))⟩,
      ⟨(some 37), .call 21 [(.tmp 36)], (some (35, false))⟩,
      ⟨(some 38), .mv (.tmp 3), (some (35, false))⟩,
      ⟨(some 39), .call 21 [(.tmp 38)], (some (35, false))⟩,
      ⟨(some 40), .bin .sub (.tmp 37) (.tmp 39), (some (35, false))⟩,
      ⟨(some 41), .bin .gtr (.tmp 40) (.const (.int .i64 1)), (some (35, false))⟩,
      ⟨(some 42), .pick (.tmp 35) (.const (.bool true)) (.tmp 41), none⟩,
      ⟨(some 43), .mv (.tmp 42), none⟩,
      ⟨(some 44), .mv (.tmp 6), (some (43, false))⟩,
      ⟨(some 45), .call 21 [(.tmp 44)], (some (43, false))⟩,
      ⟨(some 46), .mv (.tmp 3), (some (43, false))⟩,
      ⟨(some 47), .call 21 [(.tmp 46)], (some (43, false))⟩,
      ⟨(some 48), .bin .lss (.tmp 45) (.tmp 47), (some (43, false))⟩,
      ⟨(some 49), .pick (.tmp 43) (.const (.bool true)) (.tmp 48), none⟩])
    (.cond (.tmp 49)
      (.seq (.region [
        ⟨(some 2), .mv (.const (.bool false)), none⟩])
      (.ret))
      (.skip)))
    (.region [
      ⟨(some 50), .mv (.tmp 4), none⟩,
      ⟨(some 51), .mv (.tmp 6), none⟩,
      ⟨(some 52), .call 23 [(.tmp 51)], none⟩,
      ⟨(some 53), .append 1 8 [(.int .i64 0)] (.tmp 50) (.tmp 52), none⟩,
      ⟨(some 4), .mv (.tmp 53), none⟩]))))))))
  (.seq (.region [
    ⟨(some 54), .mv (.tmp 4), none⟩,
    ⟨(some 55), .mv (.tmp 0), none⟩,
    ⟨(some 56), .call 24 [(.tmp 54), (.tmp 55)], none⟩,
    ⟨(some 57), .mv (.tmp 56), none⟩,
    ⟨(some 58), .mv (.tmp 3), (some (57, true))⟩,
    ⟨(some 59), .call 22 [(.tmp 58)], (some (57, true))⟩,
    ⟨(some 60), .call 21 [(.tmp 59)], (some (57, true))⟩,
    ⟨(some 61), .bin .eql (.tmp 60) (.const (.int .i64 0)), (some (57, true))⟩,
    ⟨(some 62), .pick (.tmp 57) (.tmp 61) (.const (.bool false)), none⟩,
    ⟨(some 2), .mv (.tmp 62), none⟩])
  (.ret))))))⟩

/-- 'hostler/hostlerlaw05.BatchOrder' -/
def F5 : AFunc := ⟨73, [.tmp 2],
  .seq (.region [
    ⟨(some 2), .mv (.const (.bool false)), none⟩])
  (.seq (.seq (.region [
    ⟨(some 13), .call 19 [], none⟩,
    ⟨(some 14), .un .not (.tmp 13), none⟩,
    ⟨(some 15), .mv (.tmp 14), none⟩,
    ⟨(some 16), .mv (.tmp 0), (some (15, false))⟩,
    ⟨(some 17), .lenS (.tmp 16), (some (15, false))⟩,
    ⟨(some 18), .bin .gtr (.tmp 17) (.const (.int .i64 20)), (some (15, false))⟩,
    ⟨(some 19), .pick (.tmp 15) (.const (.bool true)) (.tmp 18), none⟩])
  (.cond (.tmp 19)
    (.seq (.region [
      ⟨(some 20), .call 19 [], none⟩,
      ⟨(some 2), .mv (.tmp 20), none⟩])
    (.ret))
    (.skip)))
  (.seq (.region [
    ⟨(some 21), .call 20 [(.const .nilslice)], none⟩,
    ⟨(some 3), .mv (.tmp 21), none⟩])
  (.seq (.region [
    ⟨(some 4), .mv (.const .nilslice), none⟩])
  (.seq (.seq (.region [
    ⟨(some 22), .mv (.tmp 0), none⟩,
    ⟨(some 23), .lenS (.tmp 22), none⟩,
    ⟨(some 24), .mv (.const (.int .i64 0)), none⟩])
  (.block 0 (.loop (.seq (.region [
      ⟨(some 25), .bin .lss (.tmp 24) (.tmp 23), none⟩])
    (.seq (.cond (.tmp 25)
      (.skip)
      (.exit 0))
    (.seq (.block 1 (.seq (.region [
      ⟨(some 26), .idxAddr 1 none (.tmp 22) (.tmp 24), none⟩,
      ⟨(some 27), .load1 (.tmp 26), none⟩,
      ⟨(some 6), .mv (.tmp 27), none⟩])
    (.seq (.seq (.region [
      ⟨(some 28), .mv (.tmp 6), none⟩,
      ⟨(some 29), .lenS (.tmp 28), none⟩,
      ⟨(some 30), .bin .gtr (.tmp 29) (.const (.int .i64 20)), none⟩])
    (.cond (.tmp 30)
      (.seq (.region [
        ⟨(some 2), .mv (.const (.bool true)), none⟩])
      (.ret))
      (.skip)))
    (.seq (.region [
      ⟨(some 31), .mv (.tmp 3), none⟩,
      ⟨(some 32), .mv (.tmp 6), none⟩,
      ⟨(some 33), .call 25 [(.tmp 31), (.tmp 32)], none⟩])
    (.region [
      ⟨(some 34), .mv (.tmp 4), none⟩,
      ⟨(some 35), .mv (.tmp 6), none⟩,
      ⟨(some 36), .append 1 8 [(.int .i64 0)] (.tmp 34) (.tmp 35), none⟩,
      ⟨(some 4), .mv (.tmp 36), none⟩])))))
    (.region [
      ⟨(some 37), .bin .add (.tmp 24) (.const (.int .i64 1)), none⟩,
      ⟨(some 24), .mv (.tmp 37), none⟩])))))))
  (.seq (.seq (.region [
    ⟨(some 38), .mv (.tmp 4), none⟩,
    ⟨(some 39), .lenS (.tmp 38), none⟩,
    ⟨(some 40), .mv (.const (.int .i64 0)), none⟩])
  (.block 2 (.loop (.seq (.region [
      ⟨(some 41), .bin .lss (.tmp 40) (.tmp 39), none⟩])
    (.seq (.cond (.tmp 41)
      (.skip)
      (.exit 2))
    (.seq (.block 3 (.seq (.region [
      ⟨(some 42), .idxAddr 1 none (.tmp 38) (.tmp 40), none⟩,
      ⟨(some 43), .load1 (.tmp 42), none⟩,
      ⟨(some 8), .mv (.tmp 43), none⟩])
    (.seq (.region [
      ⟨(some 45), .mv (.tmp 3), none⟩,
      ⟨(some 46), .call 26 [(.tmp 45)], none⟩,
      ⟨(some 44), .mv (.tmp 46), none⟩,
      ⟨(some 47), .extract 0 (.tmp 44), none⟩,
      ⟨(some 48), .extract 1 (.tmp 44), none⟩,
      ⟨(some 9), .mv (.tmp 47), none⟩,
      ⟨(some 10), .mv (.tmp 48), none⟩])
    (.seq (.region [
      ⟨(some 49), .mv (.tmp 10), none⟩,
      ⟨(some 50), .un .not (.tmp 49), none⟩,
      ⟨(some 51), .mv (.tmp 50), none⟩,
      ⟨(some 52), .mv (.tmp 8), (some (51, false))⟩,
      ⟨(some 53), .mv (.tmp 9), (some (51, false))⟩,
      ⟨(some 54), .bin .neq (.tmp 52) (.tmp 53), (some (51, false))⟩,
      ⟨(some 55), .pick (.tmp 51) (.const (.bool true)) (.tmp 54), none⟩])
    (.cond (.tmp 55)
      (.seq (.region [
        ⟨(some 2), .mv (.const (.bool false)), none⟩])
      (.ret))
      (.skip))))))
    (.region [
      ⟨(some 56), .bin .add (.tmp 40) (.const (.int .i64 1)), none⟩,
      ⟨(some 40), .mv (.tmp 56), none⟩])))))))
  (.seq (.region [
    ⟨(some 58), .mv (.tmp 3), none⟩,
    ⟨(some 59), .call 26 [(.tmp 58)], none⟩,
    ⟨(some 57), .mv (.tmp 59), none⟩,
    ⟨(some 60), .extract 0 (.tmp 57), none⟩,
    ⟨(some 61), .extract 1 (.tmp 57), none⟩,
    ⟨(some 11), .mv (.tmp 60), none⟩,
    ⟨(some 12), .mv (.tmp 61), none⟩])
  (.seq (.region [
    ⟨(some 62), .mv (.tmp 12), none⟩,
    ⟨(some 63), .un .not (.tmp 62), none⟩,
    ⟨(some 64), .mv (.tmp 63), none⟩,
    ⟨(some 65), .mv (.tmp 11), (some (64, true))⟩,
    ⟨(some 66), .bin .eql (.tmp 65) (.const (.int .i64 0)), (some (64, true))⟩,
    ⟨(some 67), .pick (.tmp 64) (.tmp 66) (.const (.bool false)), none⟩,
    ⟨(some 68), .mv (.tmp 67), none⟩,
    ⟨(some 69), .mv (.tmp 3), (some (68, true))⟩,
    ⟨(some 70), .call 21 [(.tmp 69)], (some (68, true))⟩,
    ⟨(some 71), .bin .eql (.tmp 70) (.const (.int .i64 0)), (some (68, true))⟩,
    ⟨(some 72), .pick (.tmp 68) (.tmp 71) (.const (.bool false)), none⟩,
    ⟨(some 2), .mv (.tmp 72), none⟩])
  (.ret))))))))⟩

/-- 'hostler/hostlerlaw05.BatchFronts' -/
def F6 : AFunc := ⟨81, [.tmp 4],
  .seq (.region [
    ⟨(some 4), .mv (.const (.bool false)), none⟩])
  (.seq (.seq (.region [
    ⟨(some 9), .call 19 [], none⟩,
    ⟨(some 10), .un .not (.tmp 9), none⟩,
    ⟨(some 11), .mv (.tmp 10), none⟩,
    ⟨(some 12), .mv (.tmp 0), (some (11, false))⟩,
    ⟨(some 13), .lenS (.tmp 12), (some (11, false))⟩,
    ⟨(some 14), .bin .gtr (.tmp 13) (.const (.int .i64 40)), (some (11, false))⟩,
    ⟨(some 15), .pick (.tmp 11) (.const (.bool true)) (.tmp 14), none⟩,
    ⟨(some 16), .mv (.tmp 15), none⟩,
    ⟨(some 17), .mv (.tmp 1), (some (16, false))⟩,
    ⟨(some 18), .lenS (.tmp 17), (some (16, false))⟩,
    ⟨(some 19), .bin .gtr (.tmp 18) (.const (.int .i64 40)), (some (16, false))⟩,
    ⟨(some 20), .pick (.tmp 16) (.const (.bool true)) (.tmp 19), none⟩])
  (.cond (.tmp 20)
    (.seq (.region [
      ⟨(some 21), .call 19 [], none⟩,
      ⟨(some 4), .mv (.tmp 21), none⟩])
    (.ret))
    (.skip)))
  (.seq (.region [
    ⟨(some 22), .mv (.tmp 0), none⟩,
    ⟨(some 23), .call 20 [(.tmp 22)], none⟩,
    ⟨(some 5), .mv (.tmp 23), none⟩])
  (.seq (.region [
    ⟨(some 24), .mv (.tmp 5), none⟩,
    ⟨(some 25), .call 27 [(.tmp 24)], none⟩,
    ⟨(some 6), .mv (.tmp 25), none⟩])
  (.seq (.region [
    ⟨(some 26), .mv (.tmp 5), none⟩,
    ⟨(some 27), .mv (.tmp 1), none⟩,
    ⟨(some 28), .call 28 [(.tmp 26), (.tmp 27)], none⟩])
  (.seq (.seq (.region [
    ⟨(some 29), .mv (.tmp 5), none⟩,
    ⟨(some 30), .mv (.tmp 1), none⟩,
    ⟨(some 31), .lenS (.tmp 30), none⟩,
    ⟨(some 32), .call 29 [(.tmp 29), (.tmp 31)], none⟩,
    ⟨(some 33), .mv (.tmp 1), none⟩,
    ⟨(some 34), .call 24 [(.tmp 32), (.tmp 33)], none⟩,
    ⟨(some 35), .un .not (.tmp 34), none⟩,
    ⟨(some 36), .mv (.tmp 35), none⟩,
    ⟨(some 37), .mv (.tmp 5), (some (36, false))⟩,
    ⟨(some 38), .call 23 [(.tmp 37)], (some (36, false))⟩,
    ⟨(some 39), .mv (.tmp 0), (some (36, false))⟩,
    ⟨(some 40), .call 24 [(.tmp 38), (.tmp 39)], (some (36, false))⟩,
    ⟨(some 41), .un .not (.tmp 40), (some (36, false))⟩,
    ⟨(some 42), .pick (.tmp 36) (.const (.bool true)) (.tmp 41), none⟩,
    ⟨(some 43), .mv (.tmp 42), none⟩,
    ⟨(some 44), .mv (.tmp 6), (some (43, false))⟩,
    ⟨(some 45), .call 23 [(.tmp 44)], (some (43, false))⟩,
    ⟨(some 46), .mv (.tmp 0), (some (43, false))⟩,
    ⟨(some 47), .call 24 [(.tmp 45), (.tmp 46)], (some (43, false))⟩,
    ⟨(some 48), .un .not (.tmp 47), (some (43, false))⟩,
    ⟨(some 49), .pick (.tmp 43) (.const (.bool true)) (.tmp 48), none⟩])
  (.cond (.tmp 49)
    (.seq (.region [
      ⟨(some 4), .mv (.const (.bool false)), none⟩])
    (.ret))
    (.skip)))
  (.seq (.region [
    ⟨(some 50), .mv (.tmp 5), none⟩,
    ⟨(some 51), .call 22 [(.tmp 50)], none⟩,
    ⟨(some 7), .mv (.tmp 51), none⟩])
  (.seq (.region [
    ⟨(some 52), .mv (.tmp 5), none⟩,
    ⟨(some 53), .call 21 [(.tmp 52)], none⟩,
    ⟨(some 8), .mv (.tmp 53), none⟩])
  (.seq (.region [
    ⟨(some 54), .mv (.tmp 7), none⟩,
    ⟨(some 55), .buildSlice [(.int .i64 0), (.int .i64 0)] 2 [((0, 1), (.const (.int .i64 5))), ((1, 1), (.const (.int .i64 5)))], none⟩,
    ⟨(some 56), .call 25 [(.tmp 54), (.tmp 55)], none⟩])
  (.seq (.region [
    ⟨(some 57), .mv (.tmp 7), none⟩,
    ⟨(some 58), .call 29 [(.tmp 57), (.const (.int .i64 1))], none⟩])
  (.seq (.region [
    ⟨(some 59), .mv (.tmp 5), none⟩,
    ⟨(some 60), .call 21 [(.tmp 59)], none⟩,
    ⟨(some 61), .mv (.tmp 8), none⟩,
    ⟨(some 62), .bin .eql (.tmp 60) (.tmp 61), none⟩,
    ⟨(some 63), .mv (.tmp 62), none⟩,
    ⟨(some 64), .mv (.tmp 5), (some (63, true))⟩,
    ⟨(some 65), .call 21 [(.tmp 64)], (some (63, true))⟩,
    ⟨(some 66), .mv (.tmp 7), (some (63, true))⟩,
    ⟨(some 67), .call 21 [(.tmp 66)], (some (63, true))⟩,
    ⟨(some 68), .bin .add (.tmp 65) (.tmp 67), (some (63, true))⟩,
    ⟨(some 69), .mv (.tmp 0), (some (63, true))⟩,
    ⟨(some 70), .lenS (.tmp 69), (some (63, true))⟩,
    ⟨(some 71), .bin .add (.tmp 70) (.const (.int .i64 1)), (some (63, true))⟩,
    ⟨(some 72), .bin .eql (.tmp 68) (.tmp 71), (some (63, true))⟩,
    ⟨(some 73), .pick (.tmp 63) (.tmp 72) (.const (.bool false)), none⟩,
    ⟨(some 74), .mv (.tmp 73), none⟩,
    ⟨(some 75), .mv (.tmp 6), (some (74, true))⟩,
    ⟨(some 76), .call 21 [(.tmp 75)], (some (74, true))⟩,
    ⟨(some 77), .mv (.tmp 0), (some (74, true))⟩,
    ⟨(some 78), .lenS (.tmp 77), (some (74, true))⟩,
    ⟨(some 79), .bin .eql (.tmp 76) (.tmp 78), (some (74, true))⟩,
    ⟨(some 80), .pick (.tmp 74) (.tmp 79) (.const (.bool false)), none⟩,
    ⟨(some 4), .mv (.tmp 80), none⟩])
  (.ret)))))))))))⟩

/-- 'hostler/hostlerlaw07.GlobalTurns' -/
def F7 : AFunc := ⟨59, [.tmp 4],
  .seq (.region [
    ⟨(some 4), .mv (.const (.bool false)), none⟩])
  (.seq (.seq (.region [
    ⟨(some 12), .call 12 [], none⟩,
    ⟨(some 13), .un .not (.tmp 12), none⟩])
  (.cond (.tmp 13)
    (.seq (.region [
      ⟨(some 4), .mv (.const (.bool false)), none⟩])
    (.ret))
    (.skip)))
  (.seq (.region [
    ⟨(some 14), .mv (.tmp 0), none⟩,
    ⟨(some 15), .bin .rem (.tmp 14) (.const (.int .u8 64)), none⟩,
    ⟨(some 16), .toInt .i64 (.tmp 15), none⟩,
    ⟨(some 17), .bin .add (.const (.int .i64 1)) (.tmp 16), none⟩,
    ⟨(some 18), .mv (.tmp 1), none⟩,
    ⟨(some 19), .bin .rem (.tmp 18) (.const (.int .u16 1000)), none⟩,
    ⟨(some 20), .toInt .i64 (.tmp 19), none⟩,
    ⟨(some 5), .mv (.tmp 17), none⟩,
    ⟨(some 6), .mv (.tmp 20), none⟩])
  (.seq (.region [
    ⟨(some 21), .mv (.tmp 5), none⟩,
    ⟨(some 22), .call 13 [(.tmp 21)], none⟩,
    ⟨(some 7), .mv (.tmp 22), none⟩])
  (.seq (.region [
    ⟨(some 23), .mv (.tmp 7), none⟩,
    ⟨(some 24), .mv (.tmp 6), none⟩,
    ⟨(some 25), .call 15 [(.const (.int .i64 0)), (.tmp 24)], none⟩,
    ⟨(some 26), .call 14 [(.tmp 23), (.tmp 25)], none⟩])
  (.seq (.region [
    ⟨(some 27), .mv (.tmp 6), none⟩,
    ⟨(some 8), .mv (.tmp 27), none⟩])
  (.seq (.block 0 (.loop (.seq (.seq (.region [
      ⟨(some 28), .mv (.tmp 8), none⟩,
      ⟨(some 29), .bin .gtr (.tmp 28) (.const (.int .i64 0)), none⟩])
    (.cond (.tmp 29)
      (.skip)
      (.exit 0)))
    (.block 1 (.seq (.region [
      ⟨(some 30), .mv (.tmp 7), none⟩,
      ⟨(some 31), .call 17 [(.tmp 30)], none⟩,
      ⟨(some 9), .mv (.tmp 31), none⟩])
    (.seq (.seq (.region [
      ⟨(some 32), .mv (.tmp 9), none⟩,
      ⟨(some 33), .lenS (.tmp 32), none⟩,
      ⟨(some 34), .bin .eql (.tmp 33) (.const (.int .i64 0)), none⟩,
      ⟨(some 35), .mv (.tmp 34), none⟩,
      ⟨(some 36), .mv (.tmp 9), (some (35, false))⟩,
      ⟨(some 37), .lenS (.tmp 36), (some (35, false))⟩,
      ⟨(some 38), .mv (.tmp 8), (some (35, false))⟩,
      ⟨(some 39), .mv (.tmp 5), (some (35, false))⟩,
      ⟨(some 40), .bin .quo (.tmp 38) (.tmp 39), (some (35, false))⟩,
      ⟨(some 41), .bin .add (.tmp 40) (.const (.int .i64 1)), (some (35, false))⟩,
      ⟨(some 42), .bin .gtr (.tmp 37) (.tmp 41), (some (35, false))⟩,
      ⟨(some 43), .pick (.tmp 35) (.const (.bool true)) (.tmp 42), none⟩])
    (.cond (.tmp 43)
      (.seq (.region [
        ⟨(some 4), .mv (.const (.bool false)), none⟩])
      (.ret))
      (.skip)))
    (.seq (.region [
      ⟨(some 44), .mv (.tmp 8), none⟩,
      ⟨(some 45), .mv (.tmp 9), none⟩,
      ⟨(some 46), .lenS (.tmp 45), none⟩,
      ⟨(some 47), .bin .sub (.tmp 44) (.tmp 46), none⟩,
      ⟨(some 8), .mv (.tmp 47), none⟩])
    (.seq (.region [
      ⟨(some 48), .mv (.tmp 7), none⟩,
      ⟨(some 49), .call 18 [(.tmp 48)], none⟩,
      ⟨(some 50), .mv (.tmp 8), none⟩,
      ⟨(some 51), .bin .neq (.tmp 49) (.tmp 50), none⟩])
    (.cond (.tmp 51)
      (.seq (.region [
        ⟨(some 4), .mv (.const (.bool false)), none⟩])
      (.ret))
      (.skip))))))))))
  (.seq (.region [
    ⟨(some 53), .mv (.tmp 7), none⟩,
    ⟨(some 54), .call 30 [(.tmp 53)], none⟩,
    ⟨(some 52), .mv (.tmp 54), none⟩,
    ⟨(some 55), .extract 0 (.tmp 52), none⟩,
    ⟨(some 56), .extract 1 (.tmp 52), none⟩,
    ⟨(some 10), .mv (.tmp 55), none⟩,
    ⟨(some 11), .mv (.tmp 56), none⟩])
  (.seq (.region [
    ⟨(some 57), .mv (.tmp 11), none⟩,
    ⟨(some 58), .un .not (.tmp 57), none⟩,
    ⟨(some 4), .mv (.tmp 58), none⟩])
  (.ret)))))))))⟩

/-- 'hostler/hostlerlaw07.GlobalOrder' -/
def F8 : AFunc := ⟨80, [.tmp 4],
  .seq (.region [
    ⟨(some 4), .mv (.const (.bool false)), none⟩])
  (.seq (.seq (.region [
    ⟨(some 14), .call 12 [], none⟩,
    ⟨(some 15), .un .not (.tmp 14), none⟩,
    ⟨(some 16), .mv (.tmp 15), none⟩,
    ⟨(some 17), .mv (.tmp 1), (some (16, false))⟩,
    ⟨(some 18), .lenS (.tmp 17), (some (16, false))⟩,
    ⟨(some 19), .bin .gtr (.tmp 18) (.const (.int .i64 30)), (some (16, false))⟩,
    ⟨(some 20), .pick (.tmp 16) (.const (.bool true)) (.tmp 19), none⟩])
  (.cond (.tmp 20)
    (.seq (.region [
      ⟨(some 21), .call 12 [], none⟩,
      ⟨(some 4), .mv (.tmp 21), none⟩])
    (.ret))
    (.skip)))
  (.seq (.region [
    ⟨(some 22), .mv (.tmp 0), none⟩,
    ⟨(some 23), .call 13 [(.tmp 22)], none⟩,
    ⟨(some 5), .mv (.tmp 23), none⟩])
  (.seq (.region [
    ⟨(some 6), .mv (.const (.int .i64 0)), none⟩,
    ⟨(some 7), .mv (.const (.int .i64 0)), none⟩])
  (.seq (.seq (.region [
    ⟨(some 24), .mv (.tmp 1), none⟩,
    ⟨(some 25), .lenS (.tmp 24), none⟩,
    ⟨(some 26), .mv (.const (.int .i64 0)), none⟩])
  (.block 0 (.loop (.seq (.region [
      ⟨(some 27), .bin .lss (.tmp 26) (.tmp 25), none⟩])
    (.seq (.cond (.tmp 27)
      (.skip)
      (.exit 0))
    (.seq (.block 1 (.seq (.region [
      ⟨(some 28), .idxAddr 1 none (.tmp 24) (.tmp 26), none⟩,
      ⟨(some 29), .load1 (.tmp 28), none⟩,
      ⟨(some 9), .mv (.tmp 29), none⟩])
    (.seq (.seq (.region [
      ⟨(some 30), .mv (.tmp 9), none⟩,
      ⟨(some 31), .bin .rem (.tmp 30) (.const (.int .u8 4)), none⟩])
    (.block 2 (.seq (.seq (.region [
      ⟨(some 46), .bin .eql (.tmp 31) (.const (.int .u8 0)), none⟩,
      ⟨(some 45), .mv (.tmp 46), none⟩])
    (.cond (.tmp 45)
      (.skip)
      (.region [
        ⟨(some 47), .bin .eql (.tmp 31) (.const (.int .u8 1)), none⟩,
        ⟨(some 45), .mv (.tmp 47), none⟩])))
    (.cond (.tmp 45)
      (.seq (.region [
        ⟨(some 48), .mv (.tmp 5), none⟩,
        ⟨(some 49), .mv (.tmp 6), none⟩,
        ⟨(some 50), .mv (.tmp 9), none⟩,
        ⟨(some 51), .bin .quo (.tmp 50) (.const (.int .u8 4)), none⟩,
        ⟨(some 52), .toInt .i64 (.tmp 51), none⟩,
        ⟨(some 53), .call 15 [(.tmp 49), (.tmp 52)], none⟩,
        ⟨(some 54), .call 14 [(.tmp 48), (.tmp 53)], none⟩])
      (.region [
        ⟨(some 55), .mv (.tmp 6), none⟩,
        ⟨(some 56), .mv (.tmp 9), none⟩,
        ⟨(some 57), .bin .quo (.tmp 56) (.const (.int .u8 4)), none⟩,
        ⟨(some 58), .toInt .i64 (.tmp 57), none⟩,
        ⟨(some 59), .bin .add (.tmp 55) (.tmp 58), none⟩,
        ⟨(some 6), .mv (.tmp 59), none⟩]))
      (.seq (.region [
        ⟨(some 61), .bin .eql (.tmp 31) (.const (.int .u8 2)), none⟩,
        ⟨(some 60), .mv (.tmp 61), none⟩])
      (.cond (.tmp 60)
        (.seq (.region [
          ⟨(some 63), .mv (.tmp 5), none⟩,
          ⟨(some 64), .call 30 [(.tmp 63)], none⟩,
          ⟨(some 62), .mv (.tmp 64), none⟩,
          ⟨(some 65), .extract 0 (.tmp 62), none⟩,
          ⟨(some 66), .extract 1 (.tmp 62), none⟩,
          ⟨(some 10), .mv (.tmp 65), none⟩,
          ⟨(some 11), .mv (.tmp 66), none⟩])
        (.seq (.region [
          ⟨(some 67), .mv (.tmp 11), none⟩])
        (.cond (.tmp 67)
          (.seq (.seq (.region [
            ⟨(some 68), .mv (.tmp 10), none⟩,
            ⟨(some 69), .mv (.tmp 7), none⟩,
            ⟨(some 70), .bin .neq (.tmp 68) (.tmp 69), none⟩])
          (.cond (.tmp 70)
            (.seq (.region [
              ⟨(some 4), .mv (.const (.bool false)), none⟩])
            (.ret))
            (.skip)))
          (.region [
            ⟨(some 71), .mv (.tmp 7), none⟩,
            ⟨(some 72), .bin .add (.tmp 71) (.const (.int .i64 1)), none⟩,
            ⟨(some 7), .mv (.tmp 72), none⟩]))
          (.skip))))
        (.seq (.region [
          ⟨(some 32), .mv (.tmp 5), none⟩,
          ⟨(some 33), .call 17 [(.tmp 32)], none⟩,
          ⟨(some 34), .lenS (.tmp 33), none⟩,
          ⟨(some 35), .mv (.const (.int .i64 0)), none⟩])
        (.block 3 (.loop (.seq (.region [
            ⟨(some 36), .bin .lss (.tmp 35) (.tmp 34), none⟩])
          (.seq (.cond (.tmp 36)
            (.skip)
            (.exit 3))
          (.seq (.block 4 (.seq (.region [
            ⟨(some 37), .idxAddr 1 none (.tmp 33) (.tmp 35), none⟩,
            ⟨(some 38), .load1 (.tmp 37), none⟩,
            ⟨(some 13), .mv (.tmp 38), none⟩])
          (.seq (.seq (.region [
            ⟨(some 39), .mv (.tmp 13), none⟩,
            ⟨(some 40), .mv (.tmp 7), none⟩,
            ⟨(some 41), .bin .neq (.tmp 39) (.tmp 40), none⟩])
          (.cond (.tmp 41)
            (.seq (.region [
              ⟨(some 4), .mv (.const (.bool false)), none⟩])
            (.ret))
            (.skip)))
          (.region [
            ⟨(some 42), .mv (.tmp 7), none⟩,
            ⟨(some 43), .bin .add (.tmp 42) (.const (.int .i64 1)), none⟩,
            ⟨(some 7), .mv (.tmp 43), none⟩]))))
          (.region [
            ⟨(some 44), .bin .add (.tmp 35) (.const (.int .i64 1)), none⟩,
            ⟨(some 35), .mv (.tmp 44), none⟩])))))))))))))
    (.seq (.region [
      ⟨(some 73), .mv (.tmp 5), none⟩,
      ⟨(some 74), .call 18 [(.tmp 73)], none⟩,
      ⟨(some 75), .mv (.tmp 6), none⟩,
      ⟨(some 76), .mv (.tmp 7), none⟩,
      ⟨(some 77), .bin .sub (.tmp 75) (.tmp 76), none⟩,
      ⟨(some 78), .bin .neq (.tmp 74) (.tmp 77), none⟩])
    (.cond (.tmp 78)
      (.seq (.region [
        ⟨(some 4), .mv (.const (.bool false)), none⟩])
      (.ret))
      (.skip))))))
    (.region [
      ⟨(some 79), .bin .add (.tmp 26) (.const (.int .i64 1)), none⟩,
      ⟨(some 26), .mv (.tmp 79), none⟩])))))))
  (.seq (.region [
    ⟨(some 4), .mv (.const (.bool true)), none⟩])
  (.ret))))))⟩

/-- 'hostler/hostlerlaw07.GlobalApart' -/
def F9 : AFunc := ⟨82, [.tmp 4],
  .seq (.region [
    ⟨(some 4), .mv (.const (.bool false)), none⟩])
  (.seq (.seq (.region [
    ⟨(some 14), .call 12 [], none⟩,
    ⟨(some 15), .un .not (.tmp 14), none⟩,
    ⟨(some 16), .mv (.tmp 15), none⟩,
    ⟨(some 17), .mv (.tmp 0), (some (16, false))⟩,
    ⟨(some 18), .lenS (.tmp 17), (some (16, false))⟩,
    ⟨(some 19), .bin .gtr (.tmp 18) (.const (.int .i64 60)), (some (16, false))⟩,
    ⟨(some 20), .pick (.tmp 16) (.const (.bool true)) (.tmp 19), none⟩])
  (.cond (.tmp 20)
    (.seq (.region [
      ⟨(some 21), .call 12 [], none⟩,
      ⟨(some 4), .mv (.tmp 21), none⟩])
    (.ret))
    (.skip)))
  (.seq (.region [
    ⟨(some 22), .mv (.tmp 1), none⟩,
    ⟨(some 23), .call 13 [(.tmp 22)], none⟩,
    ⟨(some 5), .mv (.tmp 23), none⟩])
  (.seq (.region [
    ⟨(some 24), .mv (.tmp 5), none⟩,
    ⟨(some 25), .mv (.tmp 0), none⟩,
    ⟨(some 26), .call 14 [(.tmp 24), (.tmp 25)], none⟩])
  (.seq (.region [
    ⟨(some 27), .mv (.tmp 5), none⟩,
    ⟨(some 28), .call 31 [(.tmp 27)], none⟩,
    ⟨(some 6), .mv (.tmp 28), none⟩])
  (.seq (.region [
    ⟨(some 29), .mv (.tmp 6), none⟩,
    ⟨(some 30), .call 17 [(.tmp 29)], none⟩])
  (.seq (.region [
    ⟨(some 31), .mv (.tmp 6), none⟩,
    ⟨(some 32), .buildSlice [(.int .i64 0)] 1 [((0, 1), (.const (.int .i64 7)))], none⟩,
    ⟨(some 33), .call 14 [(.tmp 31), (.tmp 32)], none⟩])
  (.seq (.seq (.region [
    ⟨(some 34), .mv (.tmp 5), none⟩,
    ⟨(some 35), .call 32 [(.tmp 34)], none⟩,
    ⟨(some 36), .mv (.tmp 0), none⟩,
    ⟨(some 37), .call 24 [(.tmp 35), (.tmp 36)], none⟩,
    ⟨(some 38), .un .not (.tmp 37), none⟩])
  (.cond (.tmp 38)
    (.seq (.region [
      ⟨(some 4), .mv (.const (.bool false)), none⟩])
    (.ret))
    (.skip)))
  (.seq (.region [
    ⟨(some 39), .mv (.tmp 5), none⟩,
    ⟨(some 40), .call 31 [(.tmp 39)], none⟩,
    ⟨(some 7), .mv (.tmp 40), none⟩])
  (.seq (.seq (.region [
    ⟨(some 41), .mv (.tmp 0), none⟩,
    ⟨(some 42), .lenS (.tmp 41), none⟩,
    ⟨(some 43), .mv (.const (.int .i64 0)), none⟩])
  (.block 0 (.loop (.seq (.region [
      ⟨(some 44), .bin .lss (.tmp 43) (.tmp 42), none⟩])
    (.seq (.cond (.tmp 44)
      (.skip)
      (.exit 0))
    (.seq (.block 1 (.seq (.region [
      ⟨(some 45), .idxAddr 1 none (.tmp 41) (.tmp 43), none⟩,
      ⟨(some 46), .load1 (.tmp 45), none⟩,
      ⟨(some 9), .mv (.tmp 46), none⟩])
    (.seq (.region [
      ⟨(some 48), .mv (.tmp 5), none⟩,
      ⟨(some 49), .call 30 [(.tmp 48)], none⟩,
      ⟨(some 47), .mv (.tmp 49), none⟩,
      ⟨(some 50), .extract 0 (.tmp 47), none⟩,
      ⟨(some 51), .extract 1 (.tmp 47), none⟩,
      ⟨(some 10), .mv (.tmp 50), none⟩,
      ⟨(some 11), .mv (.tmp 51), none⟩])
    (.seq (.region [
      ⟨(some 53), .mv (.tmp 7), none⟩,
      ⟨(some 54), .call 30 [(.tmp 53)], none⟩,
      ⟨(some 52), .mv (.tmp 54), none⟩,
      ⟨(some 55), .extract 0 (.tmp 52), none⟩,
      ⟨(some 56), .extract 1 (.tmp 52), none⟩,
      ⟨(some 12), .mv (.tmp 55), none⟩,
      ⟨(some 13), .mv (.tmp 56), none⟩])
    (.seq (.region [
      ⟨(some 57), .mv (.tmp 11), none⟩,
      ⟨(some 58), .un .not (.tmp 57), none⟩,
      ⟨(some 59), .mv (.tmp 58), none⟩,
      ⟨(some 60), .mv (.tmp 13), (some (59, false))⟩,
      ⟨(some 61), .un .not (.tmp 60), (some (59, false))⟩,
      ⟨(some 62), .pick (.tmp 59) (.const (.bool true)) (.tmp 61), none⟩,
      ⟨(some 63), .mv (.tmp 62), none⟩,
      ⟨(some 64), .mv (.tmp 10), (some (63, false))⟩,
      ⟨(some 65), .mv (.tmp 9), (some (63, false))⟩,
      ⟨(some 66), .bin .neq (.tmp 64) (.tmp 65), (some (63, false))⟩,
      ⟨(some 67), .pick (.tmp 63) (.const (.bool true)) (.tmp 66), none⟩,
      ⟨(some 68), .mv (.tmp 67), none⟩,
      ⟨(some 69), .mv (.tmp 12), (some (68, false))⟩,
      ⟨(some 70), .mv (.tmp 9), (some (68, false))⟩,
      ⟨(some 71), .bin .neq (.tmp 69) (.tmp 70), (some (68, false))⟩,
      ⟨(some 72), .pick (.tmp 68) (.const (.bool true)) (.tmp 71), none⟩])
    (.cond (.tmp 72)
      (.seq (.region [
        ⟨(some 4), .mv (.const (.bool false)), none⟩])
      (.ret))
      (.skip)))))))
    (.region [
      ⟨(some 73), .bin .add (.tmp 43) (.const (.int .i64 1)), none⟩,
      ⟨(some 43), .mv (.tmp 73), none⟩])))))))
  (.seq (.region [
    ⟨(some 74), .mv (.tmp 5), none⟩,
    ⟨(some 75), .call 18 [(.tmp 74)], none⟩,
    ⟨(some 76), .bin .eql (.tmp 75) (.const (.int .i64 0)), none⟩,
    ⟨(some 77), .mv (.tmp 76), none⟩,
    ⟨(some 78), .mv (.tmp 7), (some (77, true))⟩,
    ⟨(some 79), .call 16 [(.tmp 78)], (some (77, true))⟩,
    ⟨(some 80), .bin .eql (.tmp 79) (.const (.int .i64 0)), (some (77, true))⟩,
    ⟨(some 81), .pick (.tmp 77) (.tmp 80) (.const (.bool false)), none⟩,
    ⟨(some 4), .mv (.tmp 81), none⟩])
  (.ret)))))))))))⟩

/-- 'hostler/hostlerlaw05.BatchPlays' -/
def F10 : AFunc := ⟨69, [.tmp 4],
  .seq (.region [
    ⟨(some 4), .mv (.const (.bool false)), none⟩])
  (.seq (.seq (.region [
    ⟨(some 13), .call 19 [], none⟩,
    ⟨(some 14), .un .not (.tmp 13), none⟩,
    ⟨(some 15), .mv (.tmp 14), none⟩,
    ⟨(some 16), .mv (.tmp 0), (some (15, false))⟩,
    ⟨(some 17), .lenS (.tmp 16), (some (15, false))⟩,
    ⟨(some 18), .bin .gtr (.tmp 17) (.const (.int .i64 40)), (some (15, false))⟩,
    ⟨(some 19), .pick (.tmp 15) (.const (.bool true)) (.tmp 18), none⟩])
  (.cond (.tmp 19)
    (.seq (.region [
      ⟨(some 20), .call 19 [], none⟩,
      ⟨(some 4), .mv (.tmp 20), none⟩])
    (.ret))
    (.skip)))
  (.seq (.region [
    ⟨(some 5), .alloc [.nilslice], none⟩])
  (.seq (.region [
    ⟨(some 6), .mv (.const .nilslice), none⟩])
  (.seq (.seq (.region [
    ⟨(some 21), .mv (.tmp 0), none⟩,
    ⟨(some 22), .lenS (.tmp 21), none⟩,
    ⟨(some 23), .mv (.const (.int .i64 0)), none⟩])
  (.block 0 (.loop (.seq (.region [
      ⟨(some 24), .bin .lss (.tmp 23) (.tmp 22), none⟩])
    (.seq (.cond (.tmp 24)
      (.skip)
      (.exit 0))
    (.seq (.block 1 (.seq (.region [
      ⟨(some 25), .idxAddr 3 none (.tmp 21) (.tmp 23), none⟩,
      ⟨(some 26), .loadN 3 (.tmp 25), none⟩,
      ⟨(some 8), .alloc [(.int .u8 0), .nilslice, (.int .i64 0)], none⟩,
      ⟨none, .store 3 (.tmp 8) (.tmp 26), none⟩])
    (.seq (.seq (.region [
      ⟨(some 27), .fieldAddr 1 (.tmp 8), none⟩,
      ⟨(some 28), .load1 (.tmp 27), none⟩,
      ⟨(some 29), .lenS (.tmp 28), none⟩,
      ⟨(some 30), .bin .gtr (.tmp 29) (.const (.int .i64 40)), none⟩])
    (.cond (.tmp 30)
      (.seq (.region [
        ⟨(some 4), .mv (.const (.bool true)), none⟩])
      (.ret))
      (.skip)))
    (.seq (.region [
      ⟨(some 9), .mv (.const (.bool false)), none⟩])
    (.seq (.region [
      ⟨(some 32), .mv (.tmp 6), none⟩,
      ⟨(some 33), .loadN 3 (.tmp 8), none⟩,
      ⟨(some 34), .call 33 [(.tmp 5), (.tmp 32), (.tmp 33)], none⟩,
      ⟨(some 31), .mv (.tmp 34), none⟩,
      ⟨(some 35), .extract 0 (.tmp 31), none⟩,
      ⟨(some 36), .extract 1 (.tmp 31), none⟩,
      ⟨(some 6), .mv (.tmp 35), none⟩,
      ⟨(some 9), .mv (.tmp 36), none⟩])
    (.seq (.seq (.region [
      ⟨(some 37), .mv (.tmp 9), none⟩,
      ⟨(some 38), .un .not (.tmp 37), none⟩,
      ⟨(some 39), .mv (.tmp 38), none⟩,
      ⟨(some 40), .call 21 [(.tmp 5)], (some (39, false))⟩,
      ⟨(some 41), .mv (.tmp 6), (some (39, false))⟩,
      ⟨(some 42), .lenS (.tmp 41), (some (39, false))⟩,
      ⟨(some 43), .bin .neq (.tmp 40) (.tmp 42), (some (39, false))⟩,
      ⟨(some 44), .pick (.tmp 39) (.const (.bool true)) (.tmp 43), none⟩,
      ⟨(some 45), .mv (.tmp 44), none⟩,
      ⟨(some 46), .call 23 [(.tmp 5)], (some (45, false))⟩,
      ⟨(some 47), .mv (.tmp 6), (some (45, false))⟩,
      ⟨(some 48), .call 24 [(.tmp 46), (.tmp 47)], (some (45, false))⟩,
      ⟨(some 49), .un .not (.tmp 48), (some (45, false))⟩,
      ⟨(some 50), .pick (.tmp 45) (.const (.bool true)) (.tmp 49), none⟩])
    (.cond (.tmp 50)
      (.seq (.region [
        ⟨(some 4), .mv (.const (.bool false)), none⟩])
      (.ret))
      (.skip)))
    (.seq (.region [
      ⟨(some 10), .mv (.const (.bool false)), none⟩])
    (.seq (.seq (.region [
      ⟨(some 51), .mv (.tmp 6), none⟩,
      ⟨(some 52), .lenS (.tmp 51), none⟩,
      ⟨(some 53), .mv (.const (.int .i64 0)), none⟩])
    (.block 2 (.loop (.seq (.region [
        ⟨(some 54), .bin .lss (.tmp 53) (.tmp 52), none⟩])
      (.seq (.cond (.tmp 54)
        (.skip)
        (.exit 2))
      (.seq (.block 3 (.seq (.region [
        ⟨(some 55), .idxAddr 1 none (.tmp 51) (.tmp 53), none⟩,
        ⟨(some 56), .load1 (.tmp 55), none⟩,
        ⟨(some 12), .mv (.tmp 56), none⟩])
      (.region [
        ⟨(some 57), .mv (.tmp 10), none⟩,
        ⟨(some 58), .mv (.tmp 57), none⟩,
        ⟨(some 59), .mv (.tmp 12), (some (58, false))⟩,
        ⟨(some 60), .mv (.tmp 1), (some (58, false))⟩,
        ⟨(some 61), .bin .eql (.tmp 59) (.tmp 60), (some (58, false))⟩,
        ⟨(some 62), .pick (.tmp 58) (.const (.bool true)) (.tmp 61), none⟩,
        ⟨(some 10), .mv (.tmp 62), none⟩])))
      (.region [
        ⟨(some 63), .bin .add (.tmp 53) (.const (.int .i64 1)), none⟩,
        ⟨(some 53), .mv (.tmp 63), none⟩])))))))
    (.seq (.region [
      ⟨(some 64), .mv (.tmp 1), none⟩,
      ⟨(some 65), .call 34 [(.tmp 5), (.tmp 64)], none⟩,
      ⟨(some 66), .mv (.tmp 10), none⟩,
      ⟨(some 67), .eqBool true (.tmp 65) (.tmp 66), none⟩])
    (.cond (.tmp 67)
      (.seq (.region [
        ⟨(some 4), .mv (.const (.bool false)), none⟩])
      (.ret))
      (.skip)))))))))))
    (.region [
      ⟨(some 68), .bin .add (.tmp 23) (.const (.int .i64 1)), none⟩,
      ⟨(some 23), .mv (.tmp 68), none⟩])))))))
  (.seq (.region [
    ⟨(some 4), .mv (.const (.bool true)), none⟩])
  (.ret))))))⟩

/-- 'hostler/hostlerlaw07.GlobalPlays' -/
def F11 : AFunc := ⟨172, [.tmp 6],
  .seq (.region [
    ⟨(some 6), .mv (.const (.bool false)), none⟩])
  (.seq (.seq (.region [
    ⟨(some 23), .call 12 [], none⟩,
    ⟨(some 24), .un .not (.tmp 23), none⟩,
    ⟨(some 25), .mv (.tmp 24), none⟩,
    ⟨(some 26), .mv (.tmp 1), (some (25, false))⟩,
    ⟨(some 27), .lenS (.tmp 26), (some (25, false))⟩,
    ⟨(some 28), .bin .gtr (.tmp 27) (.const (.int .i64 40)), (some (25, false))⟩,
    ⟨(some 29), .pick (.tmp 25) (.const (.bool true)) (.tmp 28), none⟩])
  (.cond (.tmp 29)
    (.seq (.region [
      ⟨(some 30), .call 12 [], none⟩,
      ⟨(some 6), .mv (.tmp 30), none⟩])
    (.ret))
    (.skip)))
  (.seq (.region [
    ⟨(some 31), .mv (.tmp 0), none⟩,
    ⟨(some 32), .call 13 [(.tmp 31)], none⟩,
    ⟨(some 7), .mv (.tmp 32), none⟩])
  (.seq (.region [
    ⟨(some 8), .mv (.const .nilslice), none⟩])
  (.seq (.seq (.region [
    ⟨(some 33), .mv (.tmp 1), none⟩,
    ⟨(some 34), .lenS (.tmp 33), none⟩,
    ⟨(some 35), .mv (.const (.int .i64 0)), none⟩])
  (.block 0 (.loop (.seq (.region [
      ⟨(some 36), .bin .lss (.tmp 35) (.tmp 34), none⟩])
    (.seq (.cond (.tmp 36)
      (.skip)
      (.exit 0))
    (.seq (.block 1 (.seq (.region [
      ⟨(some 37), .idxAddr 3 none (.tmp 33) (.tmp 35), none⟩,
      ⟨(some 38), .loadN 3 (.tmp 37), none⟩,
      ⟨(some 10), .alloc [(.int .u8 0), (.int .i64 0), (.int .u16 0)], none⟩,
      ⟨none, .store 3 (.tmp 10) (.tmp 38), none⟩])
    (.seq (.seq (.region [
      ⟨(some 39), .fieldAddr 0 (.tmp 10), none⟩,
      ⟨(some 40), .load1 (.tmp 39), none⟩,
      ⟨(some 41), .bin .rem (.tmp 40) (.const (.int .u8 5)), none⟩])
    (.block 2 (.seq (.seq (.region [
      ⟨(some 50), .bin .eql (.tmp 41) (.const (.int .u8 0)), none⟩,
      ⟨(some 49), .mv (.tmp 50), none⟩])
    (.cond (.tmp 49)
      (.skip)
      (.region [
        ⟨(some 51), .bin .eql (.tmp 41) (.const (.int .u8 1)), none⟩,
        ⟨(some 49), .mv (.tmp 51), none⟩])))
    (.cond (.tmp 49)
      (.seq (.region [
        ⟨(some 52), .fieldAddr 1 (.tmp 10), none⟩,
        ⟨(some 53), .load1 (.tmp 52), none⟩,
        ⟨(some 54), .fieldAddr 2 (.tmp 10), none⟩,
        ⟨(some 55), .load1 (.tmp 54), none⟩,
        ⟨(some 56), .bin .rem (.tmp 55) (.const (.int .u16 300)), none⟩,
        ⟨(some 57), .toInt .i64 (.tmp 56), none⟩,
        ⟨(some 58), .call 15 [(.tmp 53), (.tmp 57)], none⟩,
        ⟨(some 11), .mv (.tmp 58), none⟩])
      (.seq (.region [
        ⟨(some 59), .mv (.tmp 7), none⟩,
        ⟨(some 60), .mv (.tmp 11), none⟩,
        ⟨(some 61), .call 14 [(.tmp 59), (.tmp 60)], none⟩])
      (.seq (.region [
        ⟨(some 62), .mv (.tmp 8), none⟩,
        ⟨(some 63), .mv (.tmp 11), none⟩,
        ⟨(some 64), .call 35 [(.tmp 62), (.tmp 63)], none⟩,
        ⟨(some 8), .mv (.tmp 64), none⟩])
      (.seq (.region [
        ⟨(some 65), .mv (.tmp 11), none⟩,
        ⟨(some 66), .lenS (.tmp 65), none⟩,
        ⟨(some 67), .mv (.const (.int .i64 0)), none⟩])
      (.block 3 (.loop (.seq (.region [
          ⟨(some 68), .bin .lss (.tmp 67) (.tmp 66), none⟩])
        (.seq (.cond (.tmp 68)
          (.skip)
          (.exit 3))
        (.seq (.block 4 (.seq (.region [
          ⟨(some 69), .mv (.tmp 67), none⟩,
          ⟨(some 12), .mv (.tmp 69), none⟩])
        (.region [
          ⟨(some 70), .mv (.tmp 11), none⟩,
          ⟨(some 71), .mv (.tmp 12), none⟩,
          ⟨(some 72), .idxAddr 1 none (.tmp 70) (.tmp 71), none⟩,
          ⟨(some 73), .load1 (.tmp 72), none⟩,
          ⟨(some 74), .bin .add (.tmp 73) (.const (.int .i64 1)), none⟩,
          ⟨(some 75), .idxAddr 1 none (.tmp 70) (.tmp 71), none⟩,
          ⟨none, .store 1 (.tmp 75) (.tmp 74), none⟩])))
        (.region [
          ⟨(some 76), .bin .add (.tmp 67) (.const (.int .i64 1)), none⟩,
          ⟨(some 67), .mv (.tmp 76), none⟩]))))))))))
      (.seq (.region [
        ⟨(some 78), .bin .eql (.tmp 41) (.const (.int .u8 2)), none⟩,
        ⟨(some 77), .mv (.tmp 78), none⟩])
      (.cond (.tmp 77)
        (.seq (.region [
          ⟨(some 80), .mv (.tmp 8), none⟩,
          ⟨(some 81), .mv (.tmp 8), none⟩,
          ⟨(some 82), .lenS (.tmp 81), none⟩,
          ⟨(some 83), .mv (.tmp 0), none⟩,
          ⟨(some 84), .call 37 [(.tmp 82), (.tmp 83)], none⟩,
          ⟨(some 85), .call 36 [(.tmp 80), (.tmp 84)], none⟩,
          ⟨(some 79), .mv (.tmp 85), none⟩,
          ⟨(some 86), .extract 0 (.tmp 79), none⟩,
          ⟨(some 87), .extract 1 (.tmp 79), none⟩,
          ⟨(some 13), .mv (.tmp 86), none⟩,
          ⟨(some 14), .mv (.tmp 87), none⟩])
        (.seq (.region [
          ⟨(some 88), .mv (.tmp 14), none⟩,
          ⟨(some 8), .mv (.tmp 88), none⟩])
        (.seq (.region [
          ⟨(some 89), .mv (.tmp 7), none⟩,
          ⟨(some 90), .call 17 [(.tmp 89)], none⟩,
          ⟨(some 91), .mv (.tmp 13), none⟩,
          ⟨(some 92), .call 24 [(.tmp 90), (.tmp 91)], none⟩,
          ⟨(some 93), .un .not (.tmp 92), none⟩])
        (.cond (.tmp 93)
          (.seq (.region [
            ⟨(some 6), .mv (.const (.bool false)), none⟩])
          (.ret))
          (.skip)))))
        (.seq (.region [
          ⟨(some 95), .bin .eql (.tmp 41) (.const (.int .u8 3)), none⟩,
          ⟨(some 94), .mv (.tmp 95), none⟩])
        (.cond (.tmp 94)
          (.seq (.region [
            ⟨(some 97), .mv (.tmp 8), none⟩,
            ⟨(some 98), .call 36 [(.tmp 97), (.const (.int .i64 1))], none⟩,
            ⟨(some 96), .mv (.tmp 98), none⟩,
            ⟨(some 99), .extract 0 (.tmp 96), none⟩,
            ⟨(some 100), .extract 1 (.tmp 96), none⟩,
            ⟨(some 15), .mv (.tmp 99), none⟩,
            ⟨(some 16), .mv (.tmp 100), none⟩])
          (.seq (.region [
            ⟨(some 101), .mv (.tmp 16), none⟩,
            ⟨(some 8), .mv (.tmp 101), none⟩])
          (.seq (.region [
            ⟨(some 103), .mv (.tmp 7), none⟩,
            ⟨(some 104), .call 30 [(.tmp 103)], none⟩,
            ⟨(some 102), .mv (.tmp 104), none⟩,
            ⟨(some 105), .extract 0 (.tmp 102), none⟩,
            ⟨(some 106), .extract 1 (.tmp 102), none⟩,
            ⟨(some 17), .mv (.tmp 105), none⟩,
            ⟨(some 18), .mv (.tmp 106), none⟩])
          (.seq (.region [
            ⟨(some 107), .mv (.tmp 18), none⟩,
            ⟨(some 108), .mv (.tmp 15), none⟩,
            ⟨(some 109), .lenS (.tmp 108), none⟩,
            ⟨(some 110), .bin .eql (.tmp 109) (.const (.int .i64 1)), none⟩,
            ⟨(some 111), .eqBool true (.tmp 107) (.tmp 110), none⟩,
            ⟨(some 112), .mv (.tmp 111), none⟩,
            ⟨(some 113), .mv (.tmp 18), (some (112, false))⟩,
            ⟨(some 114), .mv (.tmp 113), (some (112, false))⟩,
            ⟨(some 115), .mv (.tmp 17), (some (114, true))⟩,
            ⟨(some 116), .mv (.tmp 15), (some (114, true))⟩,
            ⟨(some 117), .idxAddr 1 none (.tmp 116) (.const (.int .i64 0)), (some (114, true))⟩,
            ⟨(some 118), .load1 (.tmp 117), (some (114, true))⟩,
            ⟨(some 119), .bin .neq (.tmp 115) (.tmp 118), (some (114, true))⟩,
            ⟨(some 120), .pick (.tmp 114) (.tmp 119) (.const (.bool false)), (some (112, false))⟩,
            ⟨(some 121), .pick (.tmp 112) (.const (.bool true)) (.tmp 120), none⟩,
            ⟨(some 122), .mv (.tmp 121), none⟩,
            ⟨(some 123), .mv (.tmp 18), (some (122, false))⟩,
            ⟨(some 124), .un .not (.tmp 123), (some (122, false))⟩,
            ⟨(some 125), .mv (.tmp 124), (some (122, false))⟩,
            ⟨(some 126), .mv (.tmp 17), (some (125, true))⟩,
            ⟨(some 127), .bin .neq (.tmp 126) (.const (.int .i64 0)), (some (125, true))⟩,
            ⟨(some 128), .pick (.tmp 125) (.tmp 127) (.const (.bool false)), (some (122, false))⟩,
            ⟨(some 129), .pick (.tmp 122) (.const (.bool true)) (.tmp 128), none⟩])
          (.cond (.tmp 129)
            (.seq (.region [
              ⟨(some 6), .mv (.const (.bool false)), none⟩])
            (.ret))
            (.skip))))))
          (.seq (.region [
            ⟨(some 42), .mv (.tmp 7), none⟩,
            ⟨(some 43), .call 31 [(.tmp 42)], none⟩,
            ⟨(some 19), .mv (.tmp 43), none⟩])
          (.seq (.region [
            ⟨(some 44), .mv (.tmp 19), none⟩,
            ⟨(some 45), .buildSlice [(.int .i64 0)] 1 [((0, 1), (.const (.int .i64 5)))], none⟩,
            ⟨(some 46), .call 14 [(.tmp 44), (.tmp 45)], none⟩])
          (.region [
            ⟨(some 47), .mv (.tmp 19), none⟩,
            ⟨(some 48), .call 17 [(.tmp 47)], none⟩])))))))))))
    (.seq (.region [
      ⟨(some 20), .mv (.const (.bool false)), none⟩])
    (.seq (.seq (.region [
      ⟨(some 130), .mv (.tmp 8), none⟩,
      ⟨(some 131), .lenS (.tmp 130), none⟩,
      ⟨(some 132), .mv (.const (.int .i64 0)), none⟩])
    (.block 5 (.loop (.seq (.region [
        ⟨(some 133), .bin .lss (.tmp 132) (.tmp 131), none⟩])
      (.seq (.cond (.tmp 133)
        (.skip)
        (.exit 5))
      (.seq (.block 6 (.seq (.region [
        ⟨(some 134), .idxAddr 1 none (.tmp 130) (.tmp 132), none⟩,
        ⟨(some 135), .load1 (.tmp 134), none⟩,
        ⟨(some 22), .mv (.tmp 135), none⟩])
      (.region [
        ⟨(some 136), .mv (.tmp 20), none⟩,
        ⟨(some 137), .mv (.tmp 136), none⟩,
        ⟨(some 138), .mv (.tmp 22), (some (137, false))⟩,
        ⟨(some 139), .mv (.tmp 2), (some (137, false))⟩,
        ⟨(some 140), .bin .eql (.tmp 138) (.tmp 139), (some (137, false))⟩,
        ⟨(some 141), .pick (.tmp 137) (.const (.bool true)) (.tmp 140), none⟩,
        ⟨(some 20), .mv (.tmp 141), none⟩])))
      (.region [
        ⟨(some 142), .bin .add (.tmp 132) (.const (.int .i64 1)), none⟩,
        ⟨(some 132), .mv (.tmp 142), none⟩])))))))
    (.seq (.region [
      ⟨(some 143), .mv (.tmp 7), none⟩,
      ⟨(some 144), .call 18 [(.tmp 143)], none⟩,
      ⟨(some 145), .mv (.tmp 8), none⟩,
      ⟨(some 146), .lenS (.tmp 145), none⟩,
      ⟨(some 147), .bin .neq (.tmp 144) (.tmp 146), none⟩,
      ⟨(some 148), .mv (.tmp 147), none⟩,
      ⟨(some 149), .mv (.tmp 7), (some (148, false))⟩,
      ⟨(some 150), .call 32 [(.tmp 149)], (some (148, false))⟩,
      ⟨(some 151), .mv (.tmp 8), (some (148, false))⟩,
      ⟨(some 152), .call 24 [(.tmp 150), (.tmp 151)], (some (148, false))⟩,
      ⟨(some 153), .un .not (.tmp 152), (some (148, false))⟩,
      ⟨(some 154), .pick (.tmp 148) (.const (.bool true)) (.tmp 153), none⟩,
      ⟨(some 155), .mv (.tmp 154), none⟩,
      ⟨(some 156), .mv (.tmp 7), (some (155, false))⟩,
      ⟨(some 157), .call 16 [(.tmp 156)], (some (155, false))⟩,
      ⟨(some 158), .mv (.tmp 8), (some (155, false))⟩,
      ⟨(some 159), .lenS (.tmp 158), (some (155, false))⟩,
      ⟨(some 160), .mv (.tmp 0), (some (155, false))⟩,
      ⟨(some 161), .call 37 [(.tmp 159), (.tmp 160)], (some (155, false))⟩,
      ⟨(some 162), .bin .neq (.tmp 157) (.tmp 161), (some (155, false))⟩,
      ⟨(some 163), .pick (.tmp 155) (.const (.bool true)) (.tmp 162), none⟩,
      ⟨(some 164), .mv (.tmp 163), none⟩,
      ⟨(some 165), .mv (.tmp 7), (some (164, false))⟩,
      ⟨(some 166), .mv (.tmp 2), (some (164, false))⟩,
      ⟨(some 167), .call 38 [(.tmp 165), (.tmp 166)], (some (164, false))⟩,
      ⟨(some 168), .mv (.tmp 20), (some (164, false))⟩,
      ⟨(some 169), .eqBool true (.tmp 167) (.tmp 168), (some (164, false))⟩,
      ⟨(some 170), .pick (.tmp 164) (.const (.bool true)) (.tmp 169), none⟩])
    (.cond (.tmp 170)
      (.seq (.region [
        ⟨(some 6), .mv (.const (.bool false)), none⟩])
      (.ret))
      (.skip))))))))
    (.region [
      ⟨(some 171), .bin .add (.tmp 35) (.const (.int .i64 1)), none⟩,
      ⟨(some 35), .mv (.tmp 171), none⟩])))))))
  (.seq (.region [
    ⟨(some 6), .mv (.const (.bool true)), none⟩])
  (.ret))))))⟩

/-- 'hostler/hostlerlaw07.lives' -/
def F12 : AFunc := ⟨11, [.tmp 0],
  .seq (.region [
    ⟨(some 0), .mv (.const (.bool false)), none⟩])
  (.seq (.region [
    ⟨(some 2), .call 13 [(.const (.int .i64 2))], none⟩,
    ⟨(some 1), .mv (.tmp 2), none⟩])
  (.seq (.seq (.region [
    ⟨(some 3), .mv (.tmp 1), none⟩,
    ⟨(some 4), .cmpNil false 0 (.tmp 3) (.const .nilptr), none⟩])
  (.cond (.tmp 4)
    (.seq (.region [
      ⟨(some 0), .mv (.const (.bool false)), none⟩])
    (.ret))
    (.skip)))
  (.seq (.region [
    ⟨(some 5), .mv (.tmp 1), none⟩,
    ⟨(some 6), .buildSlice [(.int .i64 0), (.int .i64 0), (.int .i64 0), (.int .i64 0), (.int .i64 0)] 5 [((0, 1), (.const (.int .i64 1))), ((1, 1), (.const (.int .i64 2))), ((2, 1), (.const (.int .i64 3))), ((3, 1), (.const (.int .i64 4))), ((4, 1), (.const (.int .i64 5)))], none⟩,
    ⟨(some 7), .call 14 [(.tmp 5), (.tmp 6)], none⟩])
  (.seq (.region [
    ⟨(some 8), .mv (.tmp 1), none⟩,
    ⟨(some 9), .call 16 [(.tmp 8)], none⟩,
    ⟨(some 10), .bin .eql (.tmp 9) (.const (.int .i64 3)), none⟩,
    ⟨(some 0), .mv (.tmp 10), none⟩])
  (.ret)))))⟩

/-- 'hostler/global.New' -/
def F13 : AFunc := ⟨8, [.tmp 2],
  .seq (.region [
    ⟨(some 2), .mv (.const .nilptr), none⟩])
  (.seq (.region [
    ⟨(some 3), .mv (.tmp 0), none⟩,
    ⟨(some 4), .max2 (.const (.int .i64 1)) (.tmp 3), none⟩,
    ⟨(some 5), .min2 (.tmp 4) (.const (.int .i64 64)), none⟩,
    ⟨(some 6), .build [.nilslice, (.int .i64 0)] [((1, 1), (.tmp 5))], none⟩,
    ⟨(some 7), .box (.tmp 6), none⟩,
    ⟨(some 2), .mv (.tmp 7), none⟩])
  (.ret))⟩

/-- '(*hostler/global.Queue).Put' -/
def F14 : AFunc := ⟨9, [],
  .region [
    ⟨(some 4), .mv (.tmp 0), none⟩,
    ⟨(some 5), .nilCheck (.tmp 4), none⟩,
    ⟨(some 6), .fieldAddr 0 (.tmp 5), none⟩,
    ⟨(some 7), .mv (.tmp 1), none⟩,
    ⟨(some 8), .call 25 [(.tmp 6), (.tmp 7)], none⟩]⟩

/-- 'hostler/hostlerlaw07.row' -/
def F15 : AFunc := ⟨20, [.tmp 4],
  .seq (.region [
    ⟨(some 4), .mv (.const .nilslice), none⟩])
  (.seq (.region [
    ⟨(some 5), .mv (.const .nilslice), none⟩])
  (.seq (.seq (.region [
    ⟨(some 7), .mv (.tmp 1), none⟩,
    ⟨(some 8), .mv (.const (.int .i64 0)), none⟩])
  (.block 0 (.loop (.seq (.region [
      ⟨(some 9), .bin .lss (.tmp 8) (.tmp 7), none⟩])
    (.seq (.cond (.tmp 9)
      (.skip)
      (.exit 0))
    (.seq (.block 1 (.seq (.region [
      ⟨(some 10), .mv (.tmp 8), none⟩,
      ⟨(some 6), .mv (.tmp 10), none⟩])
    (.region [
      ⟨(some 11), .mv (.tmp 5), none⟩,
      ⟨(some 12), .mv (.tmp 0), none⟩,
      ⟨(some 13), .bin .rem (.tmp 12) (.const (.int .i64 4096)), none⟩,
      ⟨(some 14), .mv (.tmp 6), none⟩,
      ⟨(some 15), .bin .add (.tmp 13) (.tmp 14), none⟩,
      ⟨(some 16), .buildSlice [(.int .i64 0)] 1 [((0, 1), (.tmp 15))], none⟩,
      ⟨(some 17), .append 1 8 [(.int .i64 0)] (.tmp 11) (.tmp 16), none⟩,
      ⟨(some 5), .mv (.tmp 17), none⟩])))
    (.region [
      ⟨(some 18), .bin .add (.tmp 8) (.const (.int .i64 1)), none⟩,
      ⟨(some 8), .mv (.tmp 18), none⟩])))))))
  (.seq (.region [
    ⟨(some 19), .mv (.tmp 5), none⟩,
    ⟨(some 4), .mv (.tmp 19), none⟩])
  (.ret))))⟩

/-- '(*hostler/global.Queue).Share' -/
def F16 : AFunc := ⟨14, [.tmp 2],
  .seq (.region [
    ⟨(some 2), .mv (.const (.int .i64 0)), none⟩])
  (.seq (.draw [
    (⟨(some 3), .mv (.tmp 0), none⟩, .still),
    (⟨(some 4), .call 18 [(.tmp 3)], none⟩, .loud),
    (⟨(some 5), .mv (.tmp 0), none⟩, .still),
    (⟨(some 6), .nilCheck (.tmp 5), none⟩, .still),
    (⟨(some 7), .fieldAddr 1 (.tmp 6), none⟩, .still),
    (⟨(some 8), .load1 (.tmp 7), none⟩, .reads 0 2),
    (⟨(some 9), .bin .quo (.tmp 4) (.tmp 8), none⟩, .still),
    (⟨(some 10), .bin .add (.tmp 9) (.const (.int .i64 1)), none⟩, .still),
    (⟨(some 11), .mv (.tmp 0), none⟩, .still),
    (⟨(some 12), .call 18 [(.tmp 11)], none⟩, .loud),
    (⟨(some 13), .min3 (.tmp 10) (.tmp 12) (.const (.int .i64 128)), none⟩, .still),
    (⟨(some 2), .mv (.tmp 13), none⟩, .still)])
  (.ret))⟩

/-- '(*hostler/global.Queue).Take' -/
def F17 : AFunc := ⟨9, [.tmp 2],
  .seq (.region [
    ⟨(some 2), .mv (.const .nilslice), none⟩])
  (.seq (.draw [
    (⟨(some 3), .mv (.tmp 0), none⟩, .still),
    (⟨(some 4), .nilCheck (.tmp 3), none⟩, .still),
    (⟨(some 5), .fieldAddr 0 (.tmp 4), none⟩, .still),
    (⟨(some 6), .mv (.tmp 0), none⟩, .still),
    (⟨(some 7), .call 16 [(.tmp 6)], none⟩, .loud),
    (⟨(some 8), .call 29 [(.tmp 5), (.tmp 7)], none⟩, .loud),
    (⟨(some 2), .mv (.tmp 8), none⟩, .still)])
  (.ret))⟩

/-- '(*hostler/global.Queue).Len' -/
def F18 : AFunc := ⟨7, [.tmp 2],
  .seq (.region [
    ⟨(some 2), .mv (.const (.int .i64 0)), none⟩])
  (.seq (.region [
    ⟨(some 3), .mv (.tmp 0), none⟩,
    ⟨(some 4), .nilCheck (.tmp 3), none⟩,
    ⟨(some 5), .fieldAddr 0 (.tmp 4), none⟩,
    ⟨(some 6), .call 21 [(.tmp 5)], none⟩,
    ⟨(some 2), .mv (.tmp 6), none⟩])
  (.ret))⟩

/-- 'hostler/hostlerlaw05.lives' -/
def F19 : AFunc := ⟨31, [.tmp 0],
  .seq (.region [
    ⟨(some 0), .mv (.const (.bool false)), none⟩])
  (.seq (.region [
    ⟨(some 5), .buildSlice [(.int .i64 0), (.int .i64 0), (.int .i64 0)] 3 [((0, 1), (.const (.int .i64 1))), ((1, 1), (.const (.int .i64 2))), ((2, 1), (.const (.int .i64 3)))], none⟩,
    ⟨(some 6), .call 20 [(.tmp 5)], none⟩,
    ⟨(some 1), .mv (.tmp 6), none⟩])
  (.seq (.seq (.region [
    ⟨(some 7), .mv (.tmp 1), none⟩,
    ⟨(some 8), .cmpNil false 0 (.tmp 7) (.const .nilptr), none⟩])
  (.cond (.tmp 8)
    (.seq (.region [
      ⟨(some 0), .mv (.const (.bool false)), none⟩])
    (.ret))
    (.skip)))
  (.seq (.region [
    ⟨(some 9), .mv (.tmp 1), none⟩,
    ⟨(some 10), .call 22 [(.tmp 9)], none⟩,
    ⟨(some 2), .mv (.tmp 10), none⟩])
  (.seq (.region [
    ⟨(some 12), .mv (.tmp 1), none⟩,
    ⟨(some 13), .call 26 [(.tmp 12)], none⟩,
    ⟨(some 11), .mv (.tmp 13), none⟩,
    ⟨(some 14), .extract 0 (.tmp 11), none⟩,
    ⟨(some 15), .extract 1 (.tmp 11), none⟩,
    ⟨(some 3), .mv (.tmp 14), none⟩,
    ⟨(some 4), .mv (.tmp 15), none⟩])
  (.seq (.region [
    ⟨(some 16), .mv (.tmp 2), none⟩,
    ⟨(some 17), .cmpNil true 0 (.tmp 16) (.const .nilptr), none⟩,
    ⟨(some 18), .mv (.tmp 17), none⟩,
    ⟨(some 19), .mv (.tmp 2), (some (18, true))⟩,
    ⟨(some 20), .call 23 [(.tmp 19)], (some (18, true))⟩,
    ⟨(some 21), .buildSlice [(.int .i64 0), (.int .i64 0)] 2 [((0, 1), (.const (.int .i64 1))), ((1, 1), (.const (.int .i64 2)))], (some (18, true))⟩,
    ⟨(some 22), .call 24 [(.tmp 20), (.tmp 21)], (some (18, true))⟩,
    ⟨(some 23), .pick (.tmp 18) (.tmp 22) (.const (.bool false)), none⟩,
    ⟨(some 24), .mv (.tmp 23), none⟩,
    ⟨(some 25), .mv (.tmp 4), (some (24, true))⟩,
    ⟨(some 26), .pick (.tmp 24) (.tmp 25) (.const (.bool false)), none⟩,
    ⟨(some 27), .mv (.tmp 26), none⟩,
    ⟨(some 28), .mv (.tmp 3), (some (27, true))⟩,
    ⟨(some 29), .bin .eql (.tmp 28) (.const (.int .i64 3)), (some (27, true))⟩,
    ⟨(some 30), .pick (.tmp 27) (.tmp 29) (.const (.bool false)), none⟩,
    ⟨(some 0), .mv (.tmp 30), none⟩])
  (.ret))))))⟩

/-- 'hostler/batch.Of' -/
def F20 : AFunc := ⟨7, [.tmp 2],
  .seq (.region [
    ⟨(some 2), .mv (.const .nilptr), none⟩])
  (.seq (.region [
    ⟨(some 3), .mv (.tmp 0), none⟩,
    ⟨(some 4), .call 39 [(.tmp 3)], none⟩,
    ⟨(some 5), .build [.nilslice] [((0, 1), (.tmp 4))], none⟩,
    ⟨(some 6), .box (.tmp 5), none⟩,
    ⟨(some 2), .mv (.tmp 6), none⟩])
  (.ret))⟩

/-- '(*hostler/batch.Batch).Len' -/
def F21 : AFunc := ⟨8, [.tmp 2],
  .seq (.region [
    ⟨(some 2), .mv (.const (.int .i64 0)), none⟩])
  (.seq (.region [
    ⟨(some 3), .mv (.tmp 0), none⟩,
    ⟨(some 4), .nilCheck (.tmp 3), none⟩,
    ⟨(some 5), .fieldAddr 0 (.tmp 4), none⟩,
    ⟨(some 6), .load1 (.tmp 5), none⟩,
    ⟨(some 7), .lenS (.tmp 6), none⟩,
    ⟨(some 2), .mv (.tmp 7), none⟩])
  (.ret))⟩

/-- '(*hostler/batch.Batch).Half' -/
def F22 : AFunc := ⟨13, [.tmp 2],
  .seq (.region [
    ⟨(some 2), .mv (.const .nilptr), none⟩])
  (.seq (.region [
    ⟨(some 3), .mv (.tmp 0), none⟩,
    ⟨(some 4), .mv (.tmp 0), none⟩,
    ⟨(some 5), .nilCheck (.tmp 4), none⟩,
    ⟨(some 6), .fieldAddr 0 (.tmp 5), none⟩,
    ⟨(some 7), .load1 (.tmp 6), none⟩,
    ⟨(some 8), .lenS (.tmp 7), none⟩,
    ⟨(some 9), .bin .add (.tmp 8) (.const (.int .i64 1)), none⟩,
    ⟨(some 10), .bin .quo (.tmp 9) (.const (.int .i64 2)), none⟩,
    ⟨(some 11), .call 29 [(.tmp 3), (.tmp 10)], none⟩,
    ⟨(some 12), .call 20 [(.tmp 11)], none⟩,
    ⟨(some 2), .mv (.tmp 12), none⟩])
  (.ret))⟩

/-- '(*hostler/batch.Batch).List' -/
def F23 : AFunc := ⟨8, [.tmp 2],
  .seq (.region [
    ⟨(some 2), .mv (.const .nilslice), none⟩])
  (.seq (.region [
    ⟨(some 3), .mv (.tmp 0), none⟩,
    ⟨(some 4), .nilCheck (.tmp 3), none⟩,
    ⟨(some 5), .fieldAddr 0 (.tmp 4), none⟩,
    ⟨(some 6), .load1 (.tmp 5), none⟩,
    ⟨(some 7), .call 39 [(.tmp 6)], none⟩,
    ⟨(some 2), .mv (.tmp 7), none⟩])
  (.ret))⟩

/-- 'hostler/hostlerref05.Same' -/
def F24 : AFunc := ⟨26, [.tmp 4],
  .seq (.region [
    ⟨(some 4), .mv (.const (.bool false)), none⟩])
  (.seq (.seq (.region [
    ⟨(some 6), .mv (.tmp 0), none⟩,
    ⟨(some 7), .lenS (.tmp 6), none⟩,
    ⟨(some 8), .mv (.tmp 1), none⟩,
    ⟨(some 9), .lenS (.tmp 8), none⟩,
    ⟨(some 10), .bin .neq (.tmp 7) (.tmp 9), none⟩])
  (.cond (.tmp 10)
    (.seq (.region [
      ⟨(some 4), .mv (.const (.bool false)), none⟩])
    (.ret))
    (.skip)))
  (.seq (.seq (.region [
    ⟨(some 11), .mv (.tmp 0), none⟩,
    ⟨(some 12), .lenS (.tmp 11), none⟩,
    ⟨(some 13), .mv (.const (.int .i64 0)), none⟩])
  (.block 0 (.loop (.seq (.region [
      ⟨(some 14), .bin .lss (.tmp 13) (.tmp 12), none⟩])
    (.seq (.cond (.tmp 14)
      (.skip)
      (.exit 0))
    (.seq (.block 1 (.seq (.region [
      ⟨(some 15), .mv (.tmp 13), none⟩,
      ⟨(some 5), .mv (.tmp 15), none⟩])
    (.seq (.draw [
      (⟨(some 16), .mv (.tmp 0), none⟩, .still),
      (⟨(some 17), .mv (.tmp 5), none⟩, .still),
      (⟨(some 18), .idxAddr 1 none (.tmp 16) (.tmp 17), none⟩, .still),
      (⟨(some 19), .load1 (.tmp 18), none⟩, .reads 0 0),
      (⟨(some 20), .mv (.tmp 1), none⟩, .still),
      (⟨(some 21), .mv (.tmp 5), none⟩, .still),
      (⟨(some 22), .idxAddr 1 none (.tmp 20) (.tmp 21), none⟩, .still),
      (⟨(some 23), .load1 (.tmp 22), none⟩, .reads 0 0),
      (⟨(some 24), .bin .neq (.tmp 19) (.tmp 23), none⟩, .still)])
    (.cond (.tmp 24)
      (.seq (.region [
        ⟨(some 4), .mv (.const (.bool false)), none⟩])
      (.ret))
      (.skip)))))
    (.region [
      ⟨(some 25), .bin .add (.tmp 13) (.const (.int .i64 1)), none⟩,
      ⟨(some 13), .mv (.tmp 25), none⟩])))))))
  (.seq (.region [
    ⟨(some 4), .mv (.const (.bool true)), none⟩])
  (.ret))))⟩

/-- '(*hostler/batch.Batch).Put' -/
def F25 : AFunc := ⟨13, [],
  .region [
    ⟨(some 4), .mv (.tmp 0), none⟩,
    ⟨(some 5), .mv (.tmp 0), none⟩,
    ⟨(some 6), .nilCheck (.tmp 5), none⟩,
    ⟨(some 7), .fieldAddr 0 (.tmp 6), none⟩,
    ⟨(some 8), .load1 (.tmp 7), none⟩,
    ⟨(some 9), .mv (.tmp 1), none⟩,
    ⟨(some 10), .append 1 8 [(.int .i64 0)] (.tmp 8) (.tmp 9), none⟩,
    ⟨(some 11), .nilCheck (.tmp 4), none⟩,
    ⟨(some 12), .fieldAddr 0 (.tmp 11), none⟩,
    ⟨none, .store 1 (.tmp 12) (.tmp 10), none⟩]⟩

/-- '(*hostler/batch.Batch).Take' -/
def F26 : AFunc := ⟨13, [.tmp 2, .tmp 3],
  .seq (.region [
    ⟨(some 2), .mv (.const (.int .i64 0)), none⟩,
    ⟨(some 3), .mv (.const (.bool false)), none⟩])
  (.seq (.region [
    ⟨(some 5), .mv (.tmp 0), none⟩,
    ⟨(some 6), .call 29 [(.tmp 5), (.const (.int .i64 1))], none⟩,
    ⟨(some 4), .mv (.tmp 6), none⟩])
  (.seq (.seq (.region [
    ⟨(some 7), .mv (.tmp 4), none⟩,
    ⟨(some 8), .lenS (.tmp 7), none⟩,
    ⟨(some 9), .bin .eql (.tmp 8) (.const (.int .i64 0)), none⟩])
  (.cond (.tmp 9)
    (.seq (.region [
      ⟨(some 2), .mv (.const (.int .i64 0)), none⟩,
      ⟨(some 3), .mv (.const (.bool false)), none⟩])
    (.ret))
    (.skip)))
  (.seq (.region [
    ⟨(some 10), .mv (.tmp 4), none⟩,
    ⟨(some 11), .idxAddr 1 none (.tmp 10) (.const (.int .i64 0)), none⟩,
    ⟨(some 12), .load1 (.tmp 11), none⟩,
    ⟨(some 2), .mv (.tmp 12), none⟩,
    ⟨(some 3), .mv (.const (.bool true)), none⟩])
  (.ret))))⟩

/-- '(*hostler/batch.Batch).Copy' -/
def F27 : AFunc := ⟨8, [.tmp 2],
  .seq (.region [
    ⟨(some 2), .mv (.const .nilptr), none⟩])
  (.seq (.region [
    ⟨(some 3), .mv (.tmp 0), none⟩,
    ⟨(some 4), .nilCheck (.tmp 3), none⟩,
    ⟨(some 5), .fieldAddr 0 (.tmp 4), none⟩,
    ⟨(some 6), .load1 (.tmp 5), none⟩,
    ⟨(some 7), .call 20 [(.tmp 6)], none⟩,
    ⟨(some 2), .mv (.tmp 7), none⟩])
  (.ret))⟩

/-- '(*hostler/batch.Batch).Front' -/
def F28 : AFunc := ⟨14, [],
  .draw [
    (⟨(some 4), .mv (.tmp 0), none⟩, .still),
    (⟨(some 5), .mv (.tmp 1), none⟩, .still),
    (⟨(some 6), .call 39 [(.tmp 5)], none⟩, .loud),
    (⟨(some 7), .mv (.tmp 0), none⟩, .still),
    (⟨(some 8), .nilCheck (.tmp 7), none⟩, .still),
    (⟨(some 9), .fieldAddr 0 (.tmp 8), none⟩, .still),
    (⟨(some 10), .load1 (.tmp 9), none⟩, .reads 0 1),
    (⟨(some 11), .append 1 8 [(.int .i64 0)] (.tmp 6) (.tmp 10), none⟩, .loud),
    (⟨(some 12), .nilCheck (.tmp 4), none⟩, .still),
    (⟨(some 13), .fieldAddr 0 (.tmp 12), none⟩, .still),
    (⟨none, .store 1 (.tmp 13) (.tmp 11), none⟩, .loud)]⟩

/-- '(*hostler/batch.Batch).TakeMost' -/
def F29 : AFunc := ⟨31, [.tmp 4],
  .seq (.region [
    ⟨(some 4), .mv (.const .nilslice), none⟩])
  (.seq (.region [
    ⟨(some 6), .mv (.tmp 1), none⟩,
    ⟨(some 7), .max2 (.const (.int .i64 0)) (.tmp 6), none⟩,
    ⟨(some 8), .mv (.tmp 0), none⟩,
    ⟨(some 9), .nilCheck (.tmp 8), none⟩,
    ⟨(some 10), .fieldAddr 0 (.tmp 9), none⟩,
    ⟨(some 11), .load1 (.tmp 10), none⟩,
    ⟨(some 12), .lenS (.tmp 11), none⟩,
    ⟨(some 13), .min2 (.tmp 7) (.tmp 12), none⟩,
    ⟨(some 1), .mv (.tmp 13), none⟩])
  (.seq (.region [
    ⟨(some 14), .mv (.tmp 0), none⟩,
    ⟨(some 15), .nilCheck (.tmp 14), none⟩,
    ⟨(some 16), .fieldAddr 0 (.tmp 15), none⟩,
    ⟨(some 17), .load1 (.tmp 16), none⟩,
    ⟨(some 18), .mv (.tmp 1), none⟩,
    ⟨(some 19), .slc 1 none (.tmp 17) none (some (.tmp 18)) none, none⟩,
    ⟨(some 20), .call 39 [(.tmp 19)], none⟩,
    ⟨(some 5), .mv (.tmp 20), none⟩])
  (.seq (.region [
    ⟨(some 21), .mv (.tmp 0), none⟩,
    ⟨(some 22), .mv (.tmp 0), none⟩,
    ⟨(some 23), .nilCheck (.tmp 22), none⟩,
    ⟨(some 24), .fieldAddr 0 (.tmp 23), none⟩,
    ⟨(some 25), .load1 (.tmp 24), none⟩,
    ⟨(some 26), .mv (.tmp 1), none⟩,
    ⟨(some 27), .call 40 [(.tmp 25), (.const (.int .i64 0)), (.tmp 26)], none⟩,
    ⟨(some 28), .nilCheck (.tmp 21), none⟩,
    ⟨(some 29), .fieldAddr 0 (.tmp 28), none⟩,
    ⟨none, .store 1 (.tmp 29) (.tmp 27), none⟩])
  (.seq (.region [
    ⟨(some 30), .mv (.tmp 5), none⟩,
    ⟨(some 4), .mv (.tmp 30), none⟩])
  (.ret)))))⟩

/-- '(*hostler/global.Queue).One' -/
def F30 : AFunc := ⟨10, [.tmp 2, .tmp 3],
  .seq (.region [
    ⟨(some 2), .mv (.const (.int .i64 0)), none⟩,
    ⟨(some 3), .mv (.const (.bool false)), none⟩])
  (.seq (.region [
    ⟨(some 4), .mv (.tmp 0), none⟩,
    ⟨(some 5), .nilCheck (.tmp 4), none⟩,
    ⟨(some 6), .fieldAddr 0 (.tmp 5), none⟩,
    ⟨(some 7), .call 26 [(.tmp 6)], none⟩,
    ⟨(some 8), .extract 0 (.tmp 7), none⟩,
    ⟨(some 9), .extract 1 (.tmp 7), none⟩,
    ⟨(some 2), .mv (.tmp 8), none⟩,
    ⟨(some 3), .mv (.tmp 9), none⟩])
  (.ret))⟩

/-- '(*hostler/global.Queue).Copy' -/
def F31 : AFunc := ⟨15, [.tmp 2],
  .seq (.region [
    ⟨(some 2), .mv (.const .nilptr), none⟩])
  (.seq (.draw [
    (⟨(some 3), .mv (.tmp 0), none⟩, .still),
    (⟨(some 4), .nilCheck (.tmp 3), none⟩, .still),
    (⟨(some 5), .fieldAddr 0 (.tmp 4), none⟩, .still),
    (⟨(some 6), .call 27 [(.tmp 5)], none⟩, .loud),
    (⟨(some 7), .nilCheck (.tmp 6), none⟩, .still),
    (⟨(some 8), .loadN 1 (.tmp 7), none⟩, .reads 1 1),
    (⟨(some 9), .mv (.tmp 0), none⟩, .still),
    (⟨(some 10), .nilCheck (.tmp 9), none⟩, .still),
    (⟨(some 11), .fieldAddr 1 (.tmp 10), none⟩, .still),
    (⟨(some 12), .load1 (.tmp 11), none⟩, .reads 0 1),
    (⟨(some 13), .build [.nilslice, (.int .i64 0)] [((0, 1), (.tmp 8)), ((1, 1), (.tmp 12))], none⟩, .still),
    (⟨(some 14), .box (.tmp 13), none⟩, .loud),
    (⟨(some 2), .mv (.tmp 14), none⟩, .still)])
  (.ret))⟩

/-- '(*hostler/global.Queue).List' -/
def F32 : AFunc := ⟨7, [.tmp 2],
  .seq (.region [
    ⟨(some 2), .mv (.const .nilslice), none⟩])
  (.seq (.region [
    ⟨(some 3), .mv (.tmp 0), none⟩,
    ⟨(some 4), .nilCheck (.tmp 3), none⟩,
    ⟨(some 5), .fieldAddr 0 (.tmp 4), none⟩,
    ⟨(some 6), .call 23 [(.tmp 5)], none⟩,
    ⟨(some 2), .mv (.tmp 6), none⟩])
  (.ret))⟩

/-- 'hostler/hostlerlaw05.do' -/
def F33 : AFunc := ⟨166, [.tmp 6, .tmp 7],
  .seq (.region [
    ⟨(some 5), .box (.tmp 2), none⟩,
    ⟨(some 6), .mv (.const .nilslice), none⟩,
    ⟨(some 7), .mv (.const (.bool false)), none⟩])
  (.seq (.region [
    ⟨(some 23), .buildSlice [] 0 [], none⟩,
    ⟨(some 24), .fieldAddr 1 (.tmp 5), none⟩,
    ⟨(some 25), .load1 (.tmp 24), none⟩,
    ⟨(some 26), .append 1 8 [(.int .i64 0)] (.tmp 23) (.tmp 25), none⟩,
    ⟨(some 8), .mv (.tmp 26), none⟩])
  (.seq (.seq (.region [
    ⟨(some 27), .fieldAddr 0 (.tmp 5), none⟩,
    ⟨(some 28), .load1 (.tmp 27), none⟩,
    ⟨(some 29), .bin .rem (.tmp 28) (.const (.int .u8 7)), none⟩])
  (.block 0 (.seq (.region [
    ⟨(some 38), .bin .eql (.tmp 29) (.const (.int .u8 2)), none⟩,
    ⟨(some 37), .mv (.tmp 38), none⟩])
  (.cond (.tmp 37)
    (.seq (.region [
      ⟨(some 39), .mv (.tmp 0), none⟩,
      ⟨(some 40), .mv (.tmp 8), none⟩,
      ⟨(some 41), .call 28 [(.tmp 39), (.tmp 40)], none⟩])
    (.region [
      ⟨(some 42), .fieldAddr 1 (.tmp 5), none⟩,
      ⟨(some 43), .load1 (.tmp 42), none⟩,
      ⟨(some 44), .mv (.tmp 1), none⟩,
      ⟨(some 45), .call 35 [(.tmp 43), (.tmp 44)], none⟩,
      ⟨(some 1), .mv (.tmp 45), none⟩]))
    (.seq (.region [
      ⟨(some 47), .bin .eql (.tmp 29) (.const (.int .u8 3)), none⟩,
      ⟨(some 46), .mv (.tmp 47), none⟩])
    (.cond (.tmp 46)
      (.seq (.region [
        ⟨(some 49), .mv (.tmp 1), none⟩,
        ⟨(some 50), .call 36 [(.tmp 49), (.const (.int .i64 1))], none⟩,
        ⟨(some 48), .mv (.tmp 50), none⟩,
        ⟨(some 51), .extract 0 (.tmp 48), none⟩,
        ⟨(some 52), .extract 1 (.tmp 48), none⟩,
        ⟨(some 9), .mv (.tmp 51), none⟩,
        ⟨(some 10), .mv (.tmp 52), none⟩])
      (.seq (.region [
        ⟨(some 54), .mv (.tmp 0), none⟩,
        ⟨(some 55), .call 26 [(.tmp 54)], none⟩,
        ⟨(some 53), .mv (.tmp 55), none⟩,
        ⟨(some 56), .extract 0 (.tmp 53), none⟩,
        ⟨(some 57), .extract 1 (.tmp 53), none⟩,
        ⟨(some 11), .mv (.tmp 56), none⟩,
        ⟨(some 12), .mv (.tmp 57), none⟩])
      (.seq (.region [
        ⟨(some 58), .mv (.tmp 10), none⟩,
        ⟨(some 59), .mv (.tmp 12), none⟩,
        ⟨(some 60), .mv (.tmp 9), none⟩,
        ⟨(some 61), .lenS (.tmp 60), none⟩,
        ⟨(some 62), .bin .eql (.tmp 61) (.const (.int .i64 1)), none⟩,
        ⟨(some 63), .eqBool false (.tmp 59) (.tmp 62), none⟩,
        ⟨(some 64), .mv (.tmp 63), none⟩,
        ⟨(some 65), .mv (.tmp 12), (some (64, true))⟩,
        ⟨(some 66), .mv (.tmp 65), (some (64, true))⟩,
        ⟨(some 67), .mv (.tmp 11), (some (66, true))⟩,
        ⟨(some 68), .mv (.tmp 9), (some (66, true))⟩,
        ⟨(some 69), .idxAddr 1 none (.tmp 68) (.const (.int .i64 0)), (some (66, true))⟩,
        ⟨(some 70), .load1 (.tmp 69), (some (66, true))⟩,
        ⟨(some 71), .bin .eql (.tmp 67) (.tmp 70), (some (66, true))⟩,
        ⟨(some 72), .pick (.tmp 66) (.tmp 71) (.const (.bool false)), (some (64, true))⟩,
        ⟨(some 73), .mv (.tmp 72), (some (64, true))⟩,
        ⟨(some 74), .mv (.tmp 12), (some (73, false))⟩,
        ⟨(some 75), .un .not (.tmp 74), (some (73, false))⟩,
        ⟨(some 76), .mv (.tmp 75), (some (73, false))⟩,
        ⟨(some 77), .mv (.tmp 11), (some (76, true))⟩,
        ⟨(some 78), .bin .eql (.tmp 77) (.const (.int .i64 0)), (some (76, true))⟩,
        ⟨(some 79), .pick (.tmp 76) (.tmp 78) (.const (.bool false)), (some (73, false))⟩,
        ⟨(some 80), .pick (.tmp 73) (.const (.bool true)) (.tmp 79), (some (64, true))⟩,
        ⟨(some 81), .pick (.tmp 64) (.tmp 80) (.const (.bool false)), none⟩,
        ⟨(some 6), .mv (.tmp 58), none⟩,
        ⟨(some 7), .mv (.tmp 81), none⟩])
      (.ret))))
      (.seq (.region [
        ⟨(some 83), .bin .eql (.tmp 29) (.const (.int .u8 4)), none⟩,
        ⟨(some 82), .mv (.tmp 83), none⟩])
      (.cond (.tmp 82)
        (.seq (.region [
          ⟨(some 85), .mv (.tmp 1), none⟩,
          ⟨(some 86), .fieldAddr 2 (.tmp 5), none⟩,
          ⟨(some 87), .load1 (.tmp 86), none⟩,
          ⟨(some 88), .call 36 [(.tmp 85), (.tmp 87)], none⟩,
          ⟨(some 84), .mv (.tmp 88), none⟩,
          ⟨(some 89), .extract 0 (.tmp 84), none⟩,
          ⟨(some 90), .extract 1 (.tmp 84), none⟩,
          ⟨(some 13), .mv (.tmp 89), none⟩,
          ⟨(some 14), .mv (.tmp 90), none⟩])
        (.seq (.region [
          ⟨(some 91), .mv (.tmp 0), none⟩,
          ⟨(some 92), .fieldAddr 2 (.tmp 5), none⟩,
          ⟨(some 93), .load1 (.tmp 92), none⟩,
          ⟨(some 94), .call 29 [(.tmp 91), (.tmp 93)], none⟩,
          ⟨(some 15), .mv (.tmp 94), none⟩])
        (.seq (.region [
          ⟨(some 95), .mv (.tmp 15), none⟩,
          ⟨(some 96), .mv (.tmp 13), none⟩,
          ⟨(some 97), .call 24 [(.tmp 95), (.tmp 96)], none⟩,
          ⟨(some 16), .mv (.tmp 97), none⟩])
        (.seq (.seq (.region [
          ⟨(some 98), .mv (.tmp 15), none⟩,
          ⟨(some 99), .lenS (.tmp 98), none⟩,
          ⟨(some 100), .mv (.const (.int .i64 0)), none⟩])
        (.block 1 (.loop (.seq (.region [
            ⟨(some 101), .bin .lss (.tmp 100) (.tmp 99), none⟩])
          (.seq (.cond (.tmp 101)
            (.skip)
            (.exit 1))
          (.seq (.block 2 (.seq (.region [
            ⟨(some 102), .mv (.tmp 100), none⟩,
            ⟨(some 17), .mv (.tmp 102), none⟩])
          (.region [
            ⟨(some 103), .mv (.tmp 15), none⟩,
            ⟨(some 104), .mv (.tmp 17), none⟩,
            ⟨(some 105), .idxAddr 1 none (.tmp 103) (.tmp 104), none⟩,
            ⟨(some 106), .load1 (.tmp 105), none⟩,
            ⟨(some 107), .bin .add (.tmp 106) (.const (.int .i64 1)), none⟩,
            ⟨(some 108), .idxAddr 1 none (.tmp 103) (.tmp 104), none⟩,
            ⟨none, .store 1 (.tmp 108) (.tmp 107), none⟩])))
          (.region [
            ⟨(some 109), .bin .add (.tmp 100) (.const (.int .i64 1)), none⟩,
            ⟨(some 100), .mv (.tmp 109), none⟩])))))))
        (.seq (.region [
          ⟨(some 110), .mv (.tmp 14), none⟩,
          ⟨(some 111), .mv (.tmp 16), none⟩,
          ⟨(some 6), .mv (.tmp 110), none⟩,
          ⟨(some 7), .mv (.tmp 111), none⟩])
        (.ret))))))
        (.seq (.region [
          ⟨(some 113), .bin .eql (.tmp 29) (.const (.int .u8 5)), none⟩,
          ⟨(some 112), .mv (.tmp 113), none⟩])
        (.cond (.tmp 112)
          (.seq (.region [
            ⟨(some 115), .mv (.tmp 1), none⟩,
            ⟨(some 116), .mv (.tmp 1), none⟩,
            ⟨(some 117), .lenS (.tmp 116), none⟩,
            ⟨(some 118), .mv (.tmp 1), none⟩,
            ⟨(some 119), .lenS (.tmp 118), none⟩,
            ⟨(some 120), .bin .quo (.tmp 119) (.const (.int .i64 2)), none⟩,
            ⟨(some 121), .bin .sub (.tmp 117) (.tmp 120), none⟩,
            ⟨(some 122), .call 36 [(.tmp 115), (.tmp 121)], none⟩,
            ⟨(some 114), .mv (.tmp 122), none⟩,
            ⟨(some 123), .extract 0 (.tmp 114), none⟩,
            ⟨(some 124), .extract 1 (.tmp 114), none⟩,
            ⟨(some 18), .mv (.tmp 123), none⟩,
            ⟨(some 19), .mv (.tmp 124), none⟩])
          (.seq (.region [
            ⟨(some 125), .mv (.tmp 0), none⟩,
            ⟨(some 126), .call 22 [(.tmp 125)], none⟩,
            ⟨(some 20), .mv (.tmp 126), none⟩])
          (.seq (.seq (.region [
            ⟨(some 127), .mv (.tmp 20), none⟩,
            ⟨(some 128), .cmpNil false 0 (.tmp 127) (.const .nilptr), none⟩,
            ⟨(some 129), .mv (.tmp 128), none⟩,
            ⟨(some 130), .mv (.tmp 20), (some (129, false))⟩,
            ⟨(some 131), .call 23 [(.tmp 130)], (some (129, false))⟩,
            ⟨(some 132), .mv (.tmp 18), (some (129, false))⟩,
            ⟨(some 133), .call 24 [(.tmp 131), (.tmp 132)], (some (129, false))⟩,
            ⟨(some 134), .un .not (.tmp 133), (some (129, false))⟩,
            ⟨(some 135), .pick (.tmp 129) (.const (.bool true)) (.tmp 134), none⟩])
          (.cond (.tmp 135)
            (.seq (.region [
              ⟨(some 136), .mv (.tmp 19), none⟩,
              ⟨(some 6), .mv (.tmp 136), none⟩,
              ⟨(some 7), .mv (.const (.bool false)), none⟩])
            (.ret))
            (.skip)))
          (.seq (.region [
            ⟨(some 137), .mv (.tmp 20), none⟩,
            ⟨(some 138), .buildSlice [(.int .i64 0), (.int .i64 0), (.int .i64 0)] 3 [((0, 1), (.const (.int .i64 7))), ((1, 1), (.const (.int .i64 7))), ((2, 1), (.const (.int .i64 7)))], none⟩,
            ⟨(some 139), .call 25 [(.tmp 137), (.tmp 138)], none⟩])
          (.seq (.region [
            ⟨(some 140), .mv (.tmp 20), none⟩,
            ⟨(some 141), .call 29 [(.tmp 140), (.const (.int .i64 1))], none⟩])
          (.seq (.region [
            ⟨(some 142), .mv (.tmp 19), none⟩,
            ⟨(some 6), .mv (.tmp 142), none⟩,
            ⟨(some 7), .mv (.const (.bool true)), none⟩])
          (.ret)))))))
          (.seq (.region [
            ⟨(some 144), .bin .eql (.tmp 29) (.const (.int .u8 6)), none⟩,
            ⟨(some 143), .mv (.tmp 144), none⟩])
          (.cond (.tmp 143)
            (.seq (.region [
              ⟨(some 145), .mv (.tmp 0), none⟩,
              ⟨(some 146), .call 27 [(.tmp 145)], none⟩,
              ⟨(some 21), .mv (.tmp 146), none⟩])
            (.seq (.region [
              ⟨(some 147), .mv (.tmp 21), none⟩,
              ⟨(some 148), .buildSlice [(.int .i64 0)] 1 [((0, 1), (.const (.int .i64 9)))], none⟩,
              ⟨(some 149), .call 25 [(.tmp 147), (.tmp 148)], none⟩])
            (.seq (.region [
              ⟨(some 150), .mv (.tmp 21), none⟩,
              ⟨(some 151), .call 29 [(.tmp 150), (.const (.int .i64 2))], none⟩])
            (.seq (.region [
              ⟨(some 152), .mv (.tmp 1), none⟩,
              ⟨(some 6), .mv (.tmp 152), none⟩,
              ⟨(some 7), .mv (.const (.bool true)), none⟩])
            (.ret)))))
            (.seq (.region [
              ⟨(some 30), .mv (.tmp 0), none⟩,
              ⟨(some 31), .mv (.tmp 8), none⟩,
              ⟨(some 32), .call 25 [(.tmp 30), (.tmp 31)], none⟩])
            (.region [
              ⟨(some 33), .mv (.tmp 1), none⟩,
              ⟨(some 34), .fieldAddr 1 (.tmp 5), none⟩,
              ⟨(some 35), .load1 (.tmp 34), none⟩,
              ⟨(some 36), .call 35 [(.tmp 33), (.tmp 35)], none⟩,
              ⟨(some 1), .mv (.tmp 36), none⟩]))))))))))))))
  (.seq (.seq (.region [
    ⟨(some 153), .mv (.tmp 8), none⟩,
    ⟨(some 154), .lenS (.tmp 153), none⟩,
    ⟨(some 155), .mv (.const (.int .i64 0)), none⟩])
  (.block 3 (.loop (.seq (.region [
      ⟨(some 156), .bin .lss (.tmp 155) (.tmp 154), none⟩])
    (.seq (.cond (.tmp 156)
      (.skip)
      (.exit 3))
    (.seq (.block 4 (.seq (.region [
      ⟨(some 157), .mv (.tmp 155), none⟩,
      ⟨(some 22), .mv (.tmp 157), none⟩])
    (.region [
      ⟨(some 158), .mv (.tmp 8), none⟩,
      ⟨(some 159), .mv (.tmp 22), none⟩,
      ⟨(some 160), .idxAddr 1 none (.tmp 158) (.tmp 159), none⟩,
      ⟨(some 161), .load1 (.tmp 160), none⟩,
      ⟨(some 162), .bin .add (.tmp 161) (.const (.int .i64 1)), none⟩,
      ⟨(some 163), .idxAddr 1 none (.tmp 158) (.tmp 159), none⟩,
      ⟨none, .store 1 (.tmp 163) (.tmp 162), none⟩])))
    (.region [
      ⟨(some 164), .bin .add (.tmp 155) (.const (.int .i64 1)), none⟩,
      ⟨(some 155), .mv (.tmp 164), none⟩])))))))
  (.seq (.region [
    ⟨(some 165), .mv (.tmp 1), none⟩,
    ⟨(some 6), .mv (.tmp 165), none⟩,
    ⟨(some 7), .mv (.const (.bool true)), none⟩])
  (.ret)))))⟩

/-- '(*hostler/batch.Batch).Has' -/
def F34 : AFunc := ⟨11, [.tmp 4],
  .seq (.region [
    ⟨(some 4), .mv (.const (.bool false)), none⟩])
  (.seq (.region [
    ⟨(some 5), .mv (.tmp 0), none⟩,
    ⟨(some 6), .nilCheck (.tmp 5), none⟩,
    ⟨(some 7), .fieldAddr 0 (.tmp 6), none⟩,
    ⟨(some 8), .load1 (.tmp 7), none⟩,
    ⟨(some 9), .mv (.tmp 1), none⟩,
    ⟨(some 10), .call 41 [(.tmp 8), (.tmp 9)], none⟩,
    ⟨(some 4), .mv (.tmp 10), none⟩])
  (.ret))⟩

/-- 'hostler/hostlerref05.Join' -/
def F35 : AFunc := ⟨33, [.tmp 4],
  .seq (.region [
    ⟨(some 4), .mv (.const .nilslice), none⟩])
  (.seq (.region [
    ⟨(some 5), .mv (.const .nilslice), none⟩])
  (.seq (.seq (.region [
    ⟨(some 10), .mv (.tmp 0), none⟩,
    ⟨(some 11), .lenS (.tmp 10), none⟩,
    ⟨(some 12), .mv (.const (.int .i64 0)), none⟩])
  (.block 0 (.loop (.seq (.region [
      ⟨(some 13), .bin .lss (.tmp 12) (.tmp 11), none⟩])
    (.seq (.cond (.tmp 13)
      (.skip)
      (.exit 0))
    (.seq (.block 1 (.seq (.region [
      ⟨(some 14), .idxAddr 1 none (.tmp 10) (.tmp 12), none⟩,
      ⟨(some 15), .load1 (.tmp 14), none⟩,
      ⟨(some 7), .mv (.tmp 15), none⟩])
    (.region [
      ⟨(some 16), .mv (.tmp 5), none⟩,
      ⟨(some 17), .mv (.tmp 7), none⟩,
      ⟨(some 18), .buildSlice [(.int .i64 0)] 1 [((0, 1), (.tmp 17))], none⟩,
      ⟨(some 19), .append 1 8 [(.int .i64 0)] (.tmp 16) (.tmp 18), none⟩,
      ⟨(some 5), .mv (.tmp 19), none⟩])))
    (.region [
      ⟨(some 20), .bin .add (.tmp 12) (.const (.int .i64 1)), none⟩,
      ⟨(some 12), .mv (.tmp 20), none⟩])))))))
  (.seq (.seq (.region [
    ⟨(some 21), .mv (.tmp 1), none⟩,
    ⟨(some 22), .lenS (.tmp 21), none⟩,
    ⟨(some 23), .mv (.const (.int .i64 0)), none⟩])
  (.block 2 (.loop (.seq (.region [
      ⟨(some 24), .bin .lss (.tmp 23) (.tmp 22), none⟩])
    (.seq (.cond (.tmp 24)
      (.skip)
      (.exit 2))
    (.seq (.block 3 (.seq (.region [
      ⟨(some 25), .idxAddr 1 none (.tmp 21) (.tmp 23), none⟩,
      ⟨(some 26), .load1 (.tmp 25), none⟩,
      ⟨(some 9), .mv (.tmp 26), none⟩])
    (.region [
      ⟨(some 27), .mv (.tmp 5), none⟩,
      ⟨(some 28), .mv (.tmp 9), none⟩,
      ⟨(some 29), .buildSlice [(.int .i64 0)] 1 [((0, 1), (.tmp 28))], none⟩,
      ⟨(some 30), .append 1 8 [(.int .i64 0)] (.tmp 27) (.tmp 29), none⟩,
      ⟨(some 5), .mv (.tmp 30), none⟩])))
    (.region [
      ⟨(some 31), .bin .add (.tmp 23) (.const (.int .i64 1)), none⟩,
      ⟨(some 23), .mv (.tmp 31), none⟩])))))))
  (.seq (.region [
    ⟨(some 32), .mv (.tmp 5), none⟩,
    ⟨(some 4), .mv (.tmp 32), none⟩])
  (.ret)))))⟩

/-- 'hostler/hostlerref05.Take' -/
def F36 : AFunc := ⟨26, [.tmp 4, .tmp 5],
  .seq (.region [
    ⟨(some 4), .mv (.const .nilslice), none⟩,
    ⟨(some 5), .mv (.const .nilslice), none⟩])
  (.seq (.region [
    ⟨(some 6), .mv (.const .nilslice), none⟩])
  (.seq (.block 0 (.loop (.seq (.seq (.region [
      ⟨(some 7), .mv (.tmp 6), none⟩,
      ⟨(some 8), .lenS (.tmp 7), none⟩,
      ⟨(some 9), .mv (.tmp 1), none⟩,
      ⟨(some 10), .bin .lss (.tmp 8) (.tmp 9), none⟩,
      ⟨(some 11), .mv (.tmp 10), none⟩,
      ⟨(some 12), .mv (.tmp 0), (some (11, true))⟩,
      ⟨(some 13), .lenS (.tmp 12), (some (11, true))⟩,
      ⟨(some 14), .bin .gtr (.tmp 13) (.const (.int .i64 0)), (some (11, true))⟩,
      ⟨(some 15), .pick (.tmp 11) (.tmp 14) (.const (.bool false)), none⟩])
    (.cond (.tmp 15)
      (.skip)
      (.exit 0)))
    (.block 1 (.seq (.region [
      ⟨(some 16), .mv (.tmp 6), none⟩,
      ⟨(some 17), .mv (.tmp 0), none⟩,
      ⟨(some 18), .idxAddr 1 none (.tmp 17) (.const (.int .i64 0)), none⟩,
      ⟨(some 19), .load1 (.tmp 18), none⟩,
      ⟨(some 20), .buildSlice [(.int .i64 0)] 1 [((0, 1), (.tmp 19))], none⟩,
      ⟨(some 21), .append 1 8 [(.int .i64 0)] (.tmp 16) (.tmp 20), none⟩,
      ⟨(some 6), .mv (.tmp 21), none⟩])
    (.region [
      ⟨(some 22), .mv (.tmp 0), none⟩,
      ⟨(some 23), .slc 1 none (.tmp 22) (some (.const (.int .i64 1))) none none, none⟩,
      ⟨(some 0), .mv (.tmp 23), none⟩]))))))
  (.seq (.region [
    ⟨(some 24), .mv (.tmp 6), none⟩,
    ⟨(some 25), .mv (.tmp 0), none⟩,
    ⟨(some 4), .mv (.tmp 24), none⟩,
    ⟨(some 5), .mv (.tmp 25), none⟩])
  (.ret))))⟩

/-- 'hostler/hostlerref07.Share' -/
def F37 : AFunc := ⟨24, [.tmp 4],
  .seq (.region [
    ⟨(some 4), .mv (.const (.int .i64 0)), none⟩])
  (.seq (.seq (.region [
    ⟨(some 6), .mv (.tmp 1), none⟩,
    ⟨(some 7), .bin .lss (.tmp 6) (.const (.int .i64 1)), none⟩])
  (.cond (.tmp 7)
    (.region [
      ⟨(some 1), .mv (.const (.int .i64 1)), none⟩])
    (.skip)))
  (.seq (.seq (.region [
    ⟨(some 8), .mv (.tmp 1), none⟩,
    ⟨(some 9), .bin .gtr (.tmp 8) (.const (.int .i64 64)), none⟩])
  (.cond (.tmp 9)
    (.region [
      ⟨(some 1), .mv (.const (.int .i64 64)), none⟩])
    (.skip)))
  (.seq (.region [
    ⟨(some 5), .mv (.const (.int .i64 1)), none⟩])
  (.seq (.block 0 (.loop (.seq (.seq (.region [
      ⟨(some 10), .mv (.tmp 5), none⟩,
      ⟨(some 11), .mv (.tmp 1), none⟩,
      ⟨(some 12), .bin .mul (.tmp 10) (.tmp 11), none⟩,
      ⟨(some 13), .mv (.tmp 0), none⟩,
      ⟨(some 14), .bin .leq (.tmp 12) (.tmp 13), none⟩])
    (.cond (.tmp 14)
      (.skip)
      (.exit 0)))
    (.block 1 (.region [
      ⟨(some 15), .mv (.tmp 5), none⟩,
      ⟨(some 16), .bin .add (.tmp 15) (.const (.int .i64 1)), none⟩,
      ⟨(some 5), .mv (.tmp 16), none⟩])))))
  (.seq (.seq (.region [
    ⟨(some 17), .mv (.tmp 5), none⟩,
    ⟨(some 18), .bin .gtr (.tmp 17) (.const (.int .i64 128)), none⟩])
  (.cond (.tmp 18)
    (.region [
      ⟨(some 5), .mv (.const (.int .i64 128)), none⟩])
    (.skip)))
  (.seq (.seq (.region [
    ⟨(some 19), .mv (.tmp 5), none⟩,
    ⟨(some 20), .mv (.tmp 0), none⟩,
    ⟨(some 21), .bin .gtr (.tmp 19) (.tmp 20), none⟩])
  (.cond (.tmp 21)
    (.region [
      ⟨(some 22), .mv (.tmp 0), none⟩,
      ⟨(some 5), .mv (.tmp 22), none⟩])
    (.skip)))
  (.seq (.region [
    ⟨(some 23), .mv (.tmp 5), none⟩,
    ⟨(some 4), .mv (.tmp 23), none⟩])
  (.ret))))))))⟩

/-- '(*hostler/global.Queue).Has' -/
def F38 : AFunc := ⟨10, [.tmp 4],
  .seq (.region [
    ⟨(some 4), .mv (.const (.bool false)), none⟩])
  (.seq (.region [
    ⟨(some 5), .mv (.tmp 0), none⟩,
    ⟨(some 6), .nilCheck (.tmp 5), none⟩,
    ⟨(some 7), .fieldAddr 0 (.tmp 6), none⟩,
    ⟨(some 8), .mv (.tmp 1), none⟩,
    ⟨(some 9), .call 34 [(.tmp 7), (.tmp 8)], none⟩,
    ⟨(some 4), .mv (.tmp 9), none⟩])
  (.ret))⟩

/-- 'slices.Clone[[]int,int]' -/
def F39 : AFunc := ⟨8, [.tmp 2],
  .seq (.region [
    ⟨(some 2), .mv (.const .nilslice), none⟩])
  (.seq (.seq (.region [
    ⟨(some 3), .mv (.tmp 0), none⟩,
    ⟨(some 4), .cmpNil false 1 (.tmp 3) (.const .nilslice), none⟩])
  (.cond (.tmp 4)
    (.seq (.region [
      ⟨(some 2), .mv (.const .nilslice), none⟩])
    (.ret))
    (.skip)))
  (.seq (.region [
    ⟨(some 5), .buildSlice [] 0 [], none⟩,
    ⟨(some 6), .mv (.tmp 0), none⟩,
    ⟨(some 7), .append 1 8 [(.int .i64 0)] (.tmp 5) (.tmp 6), none⟩,
    ⟨(some 2), .mv (.tmp 7), none⟩])
  (.ret)))⟩

/-- 'slices.Delete[[]int,int]' -/
def F40 : AFunc := ⟨33, [.tmp 6],
  .seq (.region [
    ⟨(some 6), .mv (.const .nilslice), none⟩])
  (.seq (.region [
    ⟨(some 8), .mv (.tmp 0), none⟩,
    ⟨(some 9), .mv (.tmp 1), none⟩,
    ⟨(some 10), .mv (.tmp 2), none⟩,
    ⟨(some 11), .mv (.tmp 0), none⟩,
    ⟨(some 12), .lenS (.tmp 11), none⟩,
    ⟨(some 13), .slc 1 none (.tmp 8) (some (.tmp 9)) (some (.tmp 10)) (some (.tmp 12)), none⟩])
  (.seq (.seq (.region [
    ⟨(some 14), .mv (.tmp 1), none⟩,
    ⟨(some 15), .mv (.tmp 2), none⟩,
    ⟨(some 16), .bin .eql (.tmp 14) (.tmp 15), none⟩])
  (.cond (.tmp 16)
    (.seq (.region [
      ⟨(some 17), .mv (.tmp 0), none⟩,
      ⟨(some 6), .mv (.tmp 17), none⟩])
    (.ret))
    (.skip)))
  (.seq (.region [
    ⟨(some 18), .mv (.tmp 0), none⟩,
    ⟨(some 19), .lenS (.tmp 18), none⟩,
    ⟨(some 7), .mv (.tmp 19), none⟩])
  (.seq (.draw [
    (⟨(some 20), .mv (.tmp 0), none⟩, .still),
    (⟨(some 21), .mv (.tmp 1), none⟩, .still),
    (⟨(some 22), .slc 1 none (.tmp 20) none (some (.tmp 21)) none, none⟩, .reads 0 0),
    (⟨(some 23), .mv (.tmp 0), none⟩, .still),
    (⟨(some 24), .mv (.tmp 2), none⟩, .still),
    (⟨(some 25), .slc 1 none (.tmp 23) (some (.tmp 24)) none none, none⟩, .reads 0 0),
    (⟨(some 26), .append 1 8 [(.int .i64 0)] (.tmp 22) (.tmp 25), none⟩, .loud),
    (⟨(some 0), .mv (.tmp 26), none⟩, .still)])
  (.seq (.region [
    ⟨(some 27), .mv (.tmp 0), none⟩,
    ⟨(some 28), .mv (.tmp 0), none⟩,
    ⟨(some 29), .lenS (.tmp 28), none⟩,
    ⟨(some 30), .mv (.tmp 7), none⟩,
    ⟨(some 31), .slc 1 none (.tmp 27) (some (.tmp 29)) (some (.tmp 30)) none, none⟩,
    ⟨none, .clearS 1 [(.int .i64 0)] (.tmp 31), none⟩])
  (.seq (.region [
    ⟨(some 32), .mv (.tmp 0), none⟩,
    ⟨(some 6), .mv (.tmp 32), none⟩])
  (.ret)))))))⟩

/-- 'slices.Contains[[]int,int]' -/
def F41 : AFunc := ⟨9, [.tmp 4],
  .seq (.region [
    ⟨(some 4), .mv (.const (.bool false)), none⟩])
  (.seq (.region [
    ⟨(some 5), .mv (.tmp 0), none⟩,
    ⟨(some 6), .mv (.tmp 1), none⟩,
    ⟨(some 7), .call 42 [(.tmp 5), (.tmp 6)], none⟩,
    ⟨(some 8), .bin .geq (.tmp 7) (.const (.int .i64 0)), none⟩,
    ⟨(some 4), .mv (.tmp 8), none⟩])
  (.ret))⟩

/-- 'slices.Index[[]int,int]' -/
def F42 : AFunc := ⟨19, [.tmp 4],
  .seq (.region [
    ⟨(some 4), .mv (.const (.int .i64 0)), none⟩])
  (.seq (.seq (.region [
    ⟨(some 6), .mv (.tmp 0), none⟩,
    ⟨(some 7), .lenS (.tmp 6), none⟩,
    ⟨(some 8), .mv (.const (.int .i64 0)), none⟩])
  (.block 0 (.loop (.seq (.region [
      ⟨(some 9), .bin .lss (.tmp 8) (.tmp 7), none⟩])
    (.seq (.cond (.tmp 9)
      (.skip)
      (.exit 0))
    (.seq (.block 1 (.seq (.region [
      ⟨(some 10), .mv (.tmp 8), none⟩,
      ⟨(some 5), .mv (.tmp 10), none⟩])
    (.seq (.region [
      ⟨(some 11), .mv (.tmp 1), none⟩,
      ⟨(some 12), .mv (.tmp 0), none⟩,
      ⟨(some 13), .mv (.tmp 5), none⟩,
      ⟨(some 14), .idxAddr 1 none (.tmp 12) (.tmp 13), none⟩,
      ⟨(some 15), .load1 (.tmp 14), none⟩,
      ⟨(some 16), .bin .eql (.tmp 11) (.tmp 15), none⟩])
    (.cond (.tmp 16)
      (.seq (.region [
        ⟨(some 17), .mv (.tmp 5), none⟩,
        ⟨(some 4), .mv (.tmp 17), none⟩])
      (.ret))
      (.skip)))))
    (.region [
      ⟨(some 18), .bin .add (.tmp 8) (.const (.int .i64 1)), none⟩,
      ⟨(some 8), .mv (.tmp 18), none⟩])))))))
  (.seq (.region [
    ⟨(some 4), .mv (.const (.int .i64 (-1))), none⟩])
  (.ret)))⟩

def T : ATable := fun f => match f with
  | 3 => some F3
  | 4 => some F4
  | 5 => some F5
  | 6 => some F6
  | 7 => some F7
  | 8 => some F8
  | 9 => some F9
  | 10 => some F10
  | 11 => some F11
  | 12 => some F12
  | 13 => some F13
  | 14 => some F14
  | 15 => some F15
  | 16 => some F16
  | 17 => some F17
  | 18 => some F18
  | 19 => some F19
  | 20 => some F20
  | 21 => some F21
  | 22 => some F22
  | 23 => some F23
  | 24 => some F24
  | 25 => some F25
  | 26 => some F26
  | 27 => some F27
  | 28 => some F28
  | 29 => some F29
  | 30 => some F30
  | 31 => some F31
  | 32 => some F32
  | 33 => some F33
  | 34 => some F34
  | 35 => some F35
  | 36 => some F36
  | 37 => some F37
  | 38 => some F38
  | 39 => some F39
  | 40 => some F40
  | 41 => some F41
  | 42 => some F42
  | _ => none

theorem T_3 : T 3 = some F3 := rfl
theorem T_4 : T 4 = some F4 := rfl
theorem T_5 : T 5 = some F5 := rfl
theorem T_6 : T 6 = some F6 := rfl
theorem T_7 : T 7 = some F7 := rfl
theorem T_8 : T 8 = some F8 := rfl
theorem T_9 : T 9 = some F9 := rfl
theorem T_10 : T 10 = some F10 := rfl
theorem T_11 : T 11 = some F11 := rfl
theorem T_12 : T 12 = some F12 := rfl
theorem T_13 : T 13 = some F13 := rfl
theorem T_14 : T 14 = some F14 := rfl
theorem T_15 : T 15 = some F15 := rfl
theorem T_16 : T 16 = some F16 := rfl
theorem T_17 : T 17 = some F17 := rfl
theorem T_18 : T 18 = some F18 := rfl
theorem T_19 : T 19 = some F19 := rfl
theorem T_20 : T 20 = some F20 := rfl
theorem T_21 : T 21 = some F21 := rfl
theorem T_22 : T 22 = some F22 := rfl
theorem T_23 : T 23 = some F23 := rfl
theorem T_24 : T 24 = some F24 := rfl
theorem T_25 : T 25 = some F25 := rfl
theorem T_26 : T 26 = some F26 := rfl
theorem T_27 : T 27 = some F27 := rfl
theorem T_28 : T 28 = some F28 := rfl
theorem T_29 : T 29 = some F29 := rfl
theorem T_30 : T 30 = some F30 := rfl
theorem T_31 : T 31 = some F31 := rfl
theorem T_32 : T 32 = some F32 := rfl
theorem T_33 : T 33 = some F33 := rfl
theorem T_34 : T 34 = some F34 := rfl
theorem T_35 : T 35 = some F35 := rfl
theorem T_36 : T 36 = some F36 := rfl
theorem T_37 : T 37 = some F37 := rfl
theorem T_38 : T 38 = some F38 := rfl
theorem T_39 : T 39 = some F39 := rfl
theorem T_40 : T 40 = some F40 := rfl
theorem T_41 : T 41 = some F41 := rfl
theorem T_42 : T 42 = some F42 := rfl

set_option maxRecDepth 100000 in
theorem comp_3 : compFunc Try.prog 0 Try.f3 = some F3 := by kernel_rfl
set_option maxRecDepth 100000 in
theorem comp_4 : compFunc Try.prog 0 Try.f4 = some F4 := by kernel_rfl
set_option maxRecDepth 100000 in
theorem comp_5 : compFunc Try.prog 0 Try.f5 = some F5 := by kernel_rfl
set_option maxRecDepth 100000 in
theorem comp_6 : compFunc Try.prog 0 Try.f6 = some F6 := by kernel_rfl
set_option maxRecDepth 100000 in
theorem comp_7 : compFunc Try.prog 0 Try.f7 = some F7 := by kernel_rfl
set_option maxRecDepth 100000 in
theorem comp_8 : compFunc Try.prog 0 Try.f8 = some F8 := by kernel_rfl
set_option maxRecDepth 100000 in
theorem comp_9 : compFunc Try.prog 0 Try.f9 = some F9 := by kernel_rfl
set_option maxRecDepth 100000 in
theorem comp_10 : compFunc Try.prog 0 Try.f10 = some F10 := by kernel_rfl
set_option maxRecDepth 100000 in
theorem comp_11 : compFunc Try.prog 0 Try.f11 = some F11 := by kernel_rfl
set_option maxRecDepth 100000 in
theorem comp_12 : compFunc Try.prog 0 Try.f12 = some F12 := by kernel_rfl
set_option maxRecDepth 100000 in
theorem comp_13 : compFunc Try.prog 0 Try.f13 = some F13 := by kernel_rfl
set_option maxRecDepth 100000 in
theorem comp_14 : compFunc Try.prog 0 Try.f14 = some F14 := by kernel_rfl
set_option maxRecDepth 100000 in
theorem comp_15 : compFunc Try.prog 0 Try.f15 = some F15 := by kernel_rfl
set_option maxRecDepth 100000 in
theorem comp_16 : compFunc Try.prog 0 Try.f16 = some F16 := by kernel_rfl
set_option maxRecDepth 100000 in
theorem comp_17 : compFunc Try.prog 0 Try.f17 = some F17 := by kernel_rfl
set_option maxRecDepth 100000 in
theorem comp_18 : compFunc Try.prog 0 Try.f18 = some F18 := by kernel_rfl
set_option maxRecDepth 100000 in
theorem comp_19 : compFunc Try.prog 0 Try.f19 = some F19 := by kernel_rfl
set_option maxRecDepth 100000 in
theorem comp_20 : compFunc Try.prog 0 Try.f20 = some F20 := by kernel_rfl
set_option maxRecDepth 100000 in
theorem comp_21 : compFunc Try.prog 0 Try.f21 = some F21 := by kernel_rfl
set_option maxRecDepth 100000 in
theorem comp_22 : compFunc Try.prog 0 Try.f22 = some F22 := by kernel_rfl
set_option maxRecDepth 100000 in
theorem comp_23 : compFunc Try.prog 0 Try.f23 = some F23 := by kernel_rfl
set_option maxRecDepth 100000 in
theorem comp_24 : compFunc Try.prog 0 Try.f24 = some F24 := by kernel_rfl
set_option maxRecDepth 100000 in
theorem comp_25 : compFunc Try.prog 0 Try.f25 = some F25 := by kernel_rfl
set_option maxRecDepth 100000 in
theorem comp_26 : compFunc Try.prog 0 Try.f26 = some F26 := by kernel_rfl
set_option maxRecDepth 100000 in
theorem comp_27 : compFunc Try.prog 0 Try.f27 = some F27 := by kernel_rfl
set_option maxRecDepth 100000 in
theorem comp_28 : compFunc Try.prog 0 Try.f28 = some F28 := by kernel_rfl
set_option maxRecDepth 100000 in
theorem comp_29 : compFunc Try.prog 0 Try.f29 = some F29 := by kernel_rfl
set_option maxRecDepth 100000 in
theorem comp_30 : compFunc Try.prog 0 Try.f30 = some F30 := by kernel_rfl
set_option maxRecDepth 100000 in
theorem comp_31 : compFunc Try.prog 0 Try.f31 = some F31 := by kernel_rfl
set_option maxRecDepth 100000 in
theorem comp_32 : compFunc Try.prog 0 Try.f32 = some F32 := by kernel_rfl
set_option maxRecDepth 100000 in
theorem comp_33 : compFunc Try.prog 0 Try.f33 = some F33 := by kernel_rfl
set_option maxRecDepth 100000 in
theorem comp_34 : compFunc Try.prog 0 Try.f34 = some F34 := by kernel_rfl
set_option maxRecDepth 100000 in
theorem comp_35 : compFunc Try.prog 0 Try.f35 = some F35 := by kernel_rfl
set_option maxRecDepth 100000 in
theorem comp_36 : compFunc Try.prog 0 Try.f36 = some F36 := by kernel_rfl
set_option maxRecDepth 100000 in
theorem comp_37 : compFunc Try.prog 0 Try.f37 = some F37 := by kernel_rfl
set_option maxRecDepth 100000 in
theorem comp_38 : compFunc Try.prog 0 Try.f38 = some F38 := by kernel_rfl
set_option maxRecDepth 100000 in
theorem comp_39 : compFunc Try.prog 0 Try.f39 = some F39 := by kernel_rfl
set_option maxRecDepth 100000 in
theorem comp_40 : compFunc Try.prog 0 Try.f40 = some F40 := by kernel_rfl
set_option maxRecDepth 100000 in
theorem comp_41 : compFunc Try.prog 0 Try.f41 = some F41 := by kernel_rfl
set_option maxRecDepth 100000 in
theorem comp_42 : compFunc Try.prog 0 Try.f42 = some F42 := by kernel_rfl
theorem in_3 : F3.body.within F3.ntmps = true := by kernel_rfl
theorem in_4 : F4.body.within F4.ntmps = true := by kernel_rfl
theorem in_5 : F5.body.within F5.ntmps = true := by kernel_rfl
theorem in_6 : F6.body.within F6.ntmps = true := by kernel_rfl
theorem in_7 : F7.body.within F7.ntmps = true := by kernel_rfl
theorem in_8 : F8.body.within F8.ntmps = true := by kernel_rfl
theorem in_9 : F9.body.within F9.ntmps = true := by kernel_rfl
theorem in_10 : F10.body.within F10.ntmps = true := by kernel_rfl
theorem in_11 : F11.body.within F11.ntmps = true := by kernel_rfl
theorem in_12 : F12.body.within F12.ntmps = true := by kernel_rfl
theorem in_13 : F13.body.within F13.ntmps = true := by kernel_rfl
theorem in_14 : F14.body.within F14.ntmps = true := by kernel_rfl
theorem in_15 : F15.body.within F15.ntmps = true := by kernel_rfl
theorem in_16 : F16.body.within F16.ntmps = true := by kernel_rfl
theorem in_17 : F17.body.within F17.ntmps = true := by kernel_rfl
theorem in_18 : F18.body.within F18.ntmps = true := by kernel_rfl
theorem in_19 : F19.body.within F19.ntmps = true := by kernel_rfl
theorem in_20 : F20.body.within F20.ntmps = true := by kernel_rfl
theorem in_21 : F21.body.within F21.ntmps = true := by kernel_rfl
theorem in_22 : F22.body.within F22.ntmps = true := by kernel_rfl
theorem in_23 : F23.body.within F23.ntmps = true := by kernel_rfl
theorem in_24 : F24.body.within F24.ntmps = true := by kernel_rfl
theorem in_25 : F25.body.within F25.ntmps = true := by kernel_rfl
theorem in_26 : F26.body.within F26.ntmps = true := by kernel_rfl
theorem in_27 : F27.body.within F27.ntmps = true := by kernel_rfl
theorem in_28 : F28.body.within F28.ntmps = true := by kernel_rfl
theorem in_29 : F29.body.within F29.ntmps = true := by kernel_rfl
theorem in_30 : F30.body.within F30.ntmps = true := by kernel_rfl
theorem in_31 : F31.body.within F31.ntmps = true := by kernel_rfl
theorem in_32 : F32.body.within F32.ntmps = true := by kernel_rfl
theorem in_33 : F33.body.within F33.ntmps = true := by kernel_rfl
theorem in_34 : F34.body.within F34.ntmps = true := by kernel_rfl
theorem in_35 : F35.body.within F35.ntmps = true := by kernel_rfl
theorem in_36 : F36.body.within F36.ntmps = true := by kernel_rfl
theorem in_37 : F37.body.within F37.ntmps = true := by kernel_rfl
theorem in_38 : F38.body.within F38.ntmps = true := by kernel_rfl
theorem in_39 : F39.body.within F39.ntmps = true := by kernel_rfl
theorem in_40 : F40.body.within F40.ntmps = true := by kernel_rfl
theorem in_41 : F41.body.within F41.ntmps = true := by kernel_rfl
theorem in_42 : F42.body.within F42.ntmps = true := by kernel_rfl

theorem table_in : TableIn T := by
  intro f F h
  unfold T at h
  split at h
  · cases h; exact in_3
  · cases h; exact in_4
  · cases h; exact in_5
  · cases h; exact in_6
  · cases h; exact in_7
  · cases h; exact in_8
  · cases h; exact in_9
  · cases h; exact in_10
  · cases h; exact in_11
  · cases h; exact in_12
  · cases h; exact in_13
  · cases h; exact in_14
  · cases h; exact in_15
  · cases h; exact in_16
  · cases h; exact in_17
  · cases h; exact in_18
  · cases h; exact in_19
  · cases h; exact in_20
  · cases h; exact in_21
  · cases h; exact in_22
  · cases h; exact in_23
  · cases h; exact in_24
  · cases h; exact in_25
  · cases h; exact in_26
  · cases h; exact in_27
  · cases h; exact in_28
  · cases h; exact in_29
  · cases h; exact in_30
  · cases h; exact in_31
  · cases h; exact in_32
  · cases h; exact in_33
  · cases h; exact in_34
  · cases h; exact in_35
  · cases h; exact in_36
  · cases h; exact in_37
  · cases h; exact in_38
  · cases h; exact in_39
  · cases h; exact in_40
  · cases h; exact in_41
  · cases h; exact in_42
  · cases h

theorem table_ok : TableOk Try.prog 0 T := by
  intro f F h
  unfold T at h
  split at h
  · cases h; exact ⟨Try.f3, Try.func3, comp_3⟩
  · cases h; exact ⟨Try.f4, Try.func4, comp_4⟩
  · cases h; exact ⟨Try.f5, Try.func5, comp_5⟩
  · cases h; exact ⟨Try.f6, Try.func6, comp_6⟩
  · cases h; exact ⟨Try.f7, Try.func7, comp_7⟩
  · cases h; exact ⟨Try.f8, Try.func8, comp_8⟩
  · cases h; exact ⟨Try.f9, Try.func9, comp_9⟩
  · cases h; exact ⟨Try.f10, Try.func10, comp_10⟩
  · cases h; exact ⟨Try.f11, Try.func11, comp_11⟩
  · cases h; exact ⟨Try.f12, Try.func12, comp_12⟩
  · cases h; exact ⟨Try.f13, Try.func13, comp_13⟩
  · cases h; exact ⟨Try.f14, Try.func14, comp_14⟩
  · cases h; exact ⟨Try.f15, Try.func15, comp_15⟩
  · cases h; exact ⟨Try.f16, Try.func16, comp_16⟩
  · cases h; exact ⟨Try.f17, Try.func17, comp_17⟩
  · cases h; exact ⟨Try.f18, Try.func18, comp_18⟩
  · cases h; exact ⟨Try.f19, Try.func19, comp_19⟩
  · cases h; exact ⟨Try.f20, Try.func20, comp_20⟩
  · cases h; exact ⟨Try.f21, Try.func21, comp_21⟩
  · cases h; exact ⟨Try.f22, Try.func22, comp_22⟩
  · cases h; exact ⟨Try.f23, Try.func23, comp_23⟩
  · cases h; exact ⟨Try.f24, Try.func24, comp_24⟩
  · cases h; exact ⟨Try.f25, Try.func25, comp_25⟩
  · cases h; exact ⟨Try.f26, Try.func26, comp_26⟩
  · cases h; exact ⟨Try.f27, Try.func27, comp_27⟩
  · cases h; exact ⟨Try.f28, Try.func28, comp_28⟩
  · cases h; exact ⟨Try.f29, Try.func29, comp_29⟩
  · cases h; exact ⟨Try.f30, Try.func30, comp_30⟩
  · cases h; exact ⟨Try.f31, Try.func31, comp_31⟩
  · cases h; exact ⟨Try.f32, Try.func32, comp_32⟩
  · cases h; exact ⟨Try.f33, Try.func33, comp_33⟩
  · cases h; exact ⟨Try.f34, Try.func34, comp_34⟩
  · cases h; exact ⟨Try.f35, Try.func35, comp_35⟩
  · cases h; exact ⟨Try.f36, Try.func36, comp_36⟩
  · cases h; exact ⟨Try.f37, Try.func37, comp_37⟩
  · cases h; exact ⟨Try.f38, Try.func38, comp_38⟩
  · cases h; exact ⟨Try.f39, Try.func39, comp_39⟩
  · cases h; exact ⟨Try.f40, Try.func40, comp_40⟩
  · cases h; exact ⟨Try.f41, Try.func41, comp_41⟩
  · cases h; exact ⟨Try.f42, Try.func42, comp_42⟩
  · cases h

end Go.Proofs.Ytmdckiifmpijhaa.Ev
