/- The program's functions as the evaluator takes them, printed by a program of this repository (PrintTab.lean, mktab.py); that they are the program's is proved at the end. -/
import Derived.Test.YtmcnmcpbdmjbfaaDoorEvComp
import Derived.Test.YtmcnmcpbdmjbfaaDoorEvRun
import Derived.Test.YtmcnmcpbdmjbfaaDoorChecked
import Derived.KernelRfl
namespace Go.Proofs.YtmcnmcpbdmjbfaaDoor.Ev
open Go

/-- 'hostler/hostlerlaw14.StatusSteps' -/
def F3 : AFunc := ⟨64, [.tmp 6],
  .seq (.region [
    ⟨(some 6), .mv (.const (.bool false)), none⟩])
  (.seq (.seq (.region [
    ⟨(some 14), .call 14 [], none⟩,
    ⟨(some 15), .un .not (.tmp 14), none⟩])
  (.cond (.tmp 15)
    (.seq (.region [
      ⟨(some 6), .mv (.const (.bool false)), none⟩])
    (.ret))
    (.skip)))
  (.seq (.region [
    ⟨(some 16), .mv (.tmp 0), none⟩,
    ⟨(some 17), .mv (.tmp 1), none⟩,
    ⟨(some 7), .mv (.tmp 16), none⟩,
    ⟨(some 8), .mv (.tmp 17), none⟩])
  (.seq (.seq (.region [
    ⟨(some 18), .mv (.tmp 7), none⟩,
    ⟨(some 19), .mv (.tmp 8), none⟩,
    ⟨(some 20), .call 15 [(.tmp 18), (.tmp 19)], none⟩,
    ⟨(some 21), .mv (.tmp 0), none⟩,
    ⟨(some 22), .mv (.tmp 1), none⟩,
    ⟨(some 23), .call 16 [(.tmp 21), (.tmp 22)], none⟩,
    ⟨(some 24), .eqBool true (.tmp 20) (.tmp 23), none⟩,
    ⟨(some 25), .mv (.tmp 24), none⟩,
    ⟨(some 26), .mv (.tmp 7), (some (25, false))⟩,
    ⟨(some 27), .call 17 [(.tmp 26)], (some (25, false))⟩,
    ⟨(some 28), .mv (.tmp 0), (some (25, false))⟩,
    ⟨(some 29), .call 18 [(.tmp 28)], (some (25, false))⟩,
    ⟨(some 30), .bin .neq (.tmp 27) (.tmp 29), (some (25, false))⟩,
    ⟨(some 31), .pick (.tmp 25) (.const (.bool true)) (.tmp 30), none⟩])
  (.cond (.tmp 31)
    (.seq (.region [
      ⟨(some 6), .mv (.const (.bool false)), none⟩])
    (.ret))
    (.skip)))
  (.seq (.seq (.region [
    ⟨(some 32), .mv (.const (.int .u64 0)), none⟩])
  (.block 0 (.loop (.seq (.region [
      ⟨(some 33), .bin .lss (.tmp 32) (.const (.int .u64 7)), none⟩])
    (.seq (.cond (.tmp 33)
      (.skip)
      (.exit 0))
    (.seq (.block 1 (.seq (.region [
      ⟨(some 34), .mv (.tmp 32), none⟩,
      ⟨(some 9), .mv (.tmp 34), none⟩])
    (.seq (.region [
      ⟨(some 36), .mv (.tmp 9), none⟩,
      ⟨(some 37), .call 18 [(.tmp 36)], none⟩,
      ⟨(some 38), .call 19 [(.tmp 37)], none⟩,
      ⟨(some 35), .mv (.tmp 38), none⟩,
      ⟨(some 39), .extract 0 (.tmp 35), none⟩,
      ⟨(some 40), .extract 1 (.tmp 35), none⟩,
      ⟨(some 10), .mv (.tmp 39), none⟩,
      ⟨(some 11), .mv (.tmp 40), none⟩])
    (.seq (.seq (.region [
      ⟨(some 41), .mv (.tmp 11), none⟩,
      ⟨(some 42), .un .not (.tmp 41), none⟩,
      ⟨(some 43), .mv (.tmp 42), none⟩,
      ⟨(some 44), .mv (.tmp 10), (some (43, false))⟩,
      ⟨(some 45), .mv (.tmp 9), (some (43, false))⟩,
      ⟨(some 46), .bin .neq (.tmp 44) (.tmp 45), (some (43, false))⟩,
      ⟨(some 47), .pick (.tmp 43) (.const (.bool true)) (.tmp 46), none⟩])
    (.cond (.tmp 47)
      (.seq (.region [
        ⟨(some 6), .mv (.const (.bool false)), none⟩])
      (.ret))
      (.skip)))
    (.seq (.region [
      ⟨(some 48), .mv (.tmp 2), none⟩,
      ⟨(some 49), .mv (.tmp 9), none⟩,
      ⟨(some 50), .call 18 [(.tmp 49)], none⟩,
      ⟨(some 51), .bin .eql (.tmp 48) (.tmp 50), none⟩])
    (.cond (.tmp 51)
      (.seq (.region [
        ⟨(some 6), .mv (.const (.bool true)), none⟩])
      (.ret))
      (.skip)))))))
    (.region [
      ⟨(some 52), .bin .add (.tmp 32) (.const (.int .u64 1)), none⟩,
      ⟨(some 32), .mv (.tmp 52), none⟩])))))))
  (.seq (.region [
    ⟨(some 54), .mv (.tmp 2), none⟩,
    ⟨(some 55), .call 19 [(.tmp 54)], none⟩,
    ⟨(some 53), .mv (.tmp 55), none⟩,
    ⟨(some 56), .extract 0 (.tmp 53), none⟩,
    ⟨(some 57), .extract 1 (.tmp 53), none⟩,
    ⟨(some 12), .mv (.tmp 56), none⟩,
    ⟨(some 13), .mv (.tmp 57), none⟩])
  (.seq (.region [
    ⟨(some 58), .mv (.tmp 13), none⟩,
    ⟨(some 59), .un .not (.tmp 58), none⟩,
    ⟨(some 60), .mv (.tmp 59), none⟩,
    ⟨(some 61), .mv (.tmp 12), (some (60, true))⟩,
    ⟨(some 62), .bin .eql (.tmp 61) (.const (.int .u64 0)), (some (60, true))⟩,
    ⟨(some 63), .pick (.tmp 60) (.tmp 62) (.const (.bool false)), none⟩,
    ⟨(some 6), .mv (.tmp 63), none⟩])
  (.ret))))))), none⟩

/-- 'hostler/hostlerlaw15.EventLegal' -/
def F4 : AFunc := ⟨48, [.tmp 2],
  .seq (.region [
    ⟨(some 2), .mv (.const (.bool false)), none⟩])
  (.seq (.seq (.region [
    ⟨(some 6), .call 20 [], none⟩,
    ⟨(some 7), .un .not (.tmp 6), none⟩])
  (.cond (.tmp 7)
    (.seq (.region [
      ⟨(some 2), .mv (.const (.bool false)), none⟩])
    (.ret))
    (.skip)))
  (.seq (.region [
    ⟨(some 9), .mv (.tmp 0), none⟩,
    ⟨(some 10), .build [(.int .i64 0), (.int .i64 0), (.int .i64 0), (.int .i64 0), (.int .i64 0)] [((0, 1), (.tmp 9))], none⟩,
    ⟨(some 11), .call 21 [(.tmp 10)], none⟩,
    ⟨(some 8), .mv (.tmp 11), none⟩,
    ⟨(some 12), .extract 0 (.tmp 8), none⟩,
    ⟨(some 13), .extract 1 (.tmp 8), none⟩,
    ⟨(some 14), .extract 2 (.tmp 8), none⟩,
    ⟨(some 3), .mv (.tmp 12), none⟩,
    ⟨(some 4), .mv (.tmp 13), none⟩,
    ⟨(some 5), .mv (.tmp 14), none⟩])
  (.seq (.seq (.region [
    ⟨(some 15), .mv (.tmp 0), none⟩,
    ⟨(some 16), .bin .lss (.tmp 15) (.const (.int .i64 0)), none⟩,
    ⟨(some 17), .mv (.tmp 16), none⟩,
    ⟨(some 18), .mv (.tmp 0), (some (17, false))⟩,
    ⟨(some 19), .bin .gtr (.tmp 18) (.const (.int .i64 7)), (some (17, false))⟩,
    ⟨(some 20), .pick (.tmp 17) (.const (.bool true)) (.tmp 19), none⟩])
  (.cond (.tmp 20)
    (.seq (.region [
      ⟨(some 21), .mv (.tmp 5), none⟩,
      ⟨(some 22), .un .not (.tmp 21), none⟩,
      ⟨(some 23), .mv (.tmp 22), none⟩,
      ⟨(some 24), .mv (.tmp 3), (some (23, true))⟩,
      ⟨(some 25), .bin .eql (.tmp 24) (.const (.int .u64 0)), (some (23, true))⟩,
      ⟨(some 26), .pick (.tmp 23) (.tmp 25) (.const (.bool false)), none⟩,
      ⟨(some 27), .mv (.tmp 26), none⟩,
      ⟨(some 28), .mv (.tmp 4), (some (27, true))⟩,
      ⟨(some 29), .bin .eql (.tmp 28) (.const (.int .u64 0)), (some (27, true))⟩,
      ⟨(some 30), .pick (.tmp 27) (.tmp 29) (.const (.bool false)), none⟩,
      ⟨(some 2), .mv (.tmp 30), none⟩])
    (.ret))
    (.skip)))
  (.seq (.seq (.region [
    ⟨(some 31), .mv (.tmp 0), none⟩,
    ⟨(some 32), .bin .eql (.tmp 31) (.const (.int .i64 1)), none⟩])
  (.cond (.tmp 32)
    (.seq (.region [
      ⟨(some 33), .mv (.tmp 5), none⟩,
      ⟨(some 34), .mv (.tmp 33), none⟩,
      ⟨(some 35), .mv (.tmp 4), (some (34, true))⟩,
      ⟨(some 36), .bin .eql (.tmp 35) (.const (.int .u64 1)), (some (34, true))⟩,
      ⟨(some 37), .pick (.tmp 34) (.tmp 36) (.const (.bool false)), none⟩,
      ⟨(some 38), .mv (.tmp 37), none⟩,
      ⟨(some 39), .mv (.tmp 3), (some (38, true))⟩,
      ⟨(some 40), .bin .eql (.tmp 39) (.const (.int .u64 0)), (some (38, true))⟩,
      ⟨(some 41), .pick (.tmp 38) (.tmp 40) (.const (.bool false)), none⟩,
      ⟨(some 2), .mv (.tmp 41), none⟩])
    (.ret))
    (.skip)))
  (.seq (.region [
    ⟨(some 42), .mv (.tmp 5), none⟩,
    ⟨(some 43), .mv (.tmp 42), none⟩,
    ⟨(some 44), .mv (.tmp 3), (some (43, true))⟩,
    ⟨(some 45), .mv (.tmp 4), (some (43, true))⟩,
    ⟨(some 46), .call 15 [(.tmp 44), (.tmp 45)], (some (43, true))⟩,
    ⟨(some 47), .pick (.tmp 43) (.tmp 46) (.const (.bool false)), none⟩,
    ⟨(some 2), .mv (.tmp 47), none⟩])
  (.ret)))))), none⟩

/-- 'hostler/hostlerlaw15.EventRight' -/
def F5 : AFunc := ⟨56, [.tmp 2],
  .seq (.region [
    ⟨(some 1), .box (.tmp 0), none⟩,
    ⟨(some 2), .mv (.const (.bool false)), none⟩])
  (.seq (.seq (.region [
    ⟨(some 9), .call 20 [], none⟩,
    ⟨(some 10), .un .not (.tmp 9), none⟩])
  (.cond (.tmp 10)
    (.seq (.region [
      ⟨(some 2), .mv (.const (.bool false)), none⟩])
    (.ret))
    (.skip)))
  (.seq (.region [
    ⟨(some 12), .loadN 5 (.tmp 1), none⟩,
    ⟨(some 13), .call 21 [(.tmp 12)], none⟩,
    ⟨(some 11), .mv (.tmp 13), none⟩,
    ⟨(some 14), .extract 0 (.tmp 11), none⟩,
    ⟨(some 15), .extract 1 (.tmp 11), none⟩,
    ⟨(some 16), .extract 2 (.tmp 11), none⟩,
    ⟨(some 3), .mv (.tmp 14), none⟩,
    ⟨(some 4), .mv (.tmp 15), none⟩,
    ⟨(some 5), .mv (.tmp 16), none⟩])
  (.seq (.region [
    ⟨(some 18), .fieldAddr 0 (.tmp 1), none⟩,
    ⟨(some 19), .load1 (.tmp 18), none⟩,
    ⟨(some 20), .call 22 [(.tmp 19)], none⟩,
    ⟨(some 17), .mv (.tmp 20), none⟩,
    ⟨(some 21), .extract 0 (.tmp 17), none⟩,
    ⟨(some 22), .extract 1 (.tmp 17), none⟩,
    ⟨(some 23), .extract 2 (.tmp 17), none⟩,
    ⟨(some 6), .mv (.tmp 21), none⟩,
    ⟨(some 7), .mv (.tmp 22), none⟩,
    ⟨(some 8), .mv (.tmp 23), none⟩])
  (.seq (.draw [
    (⟨(some 24), .loadN 5 (.tmp 1), none⟩, .reads 0 0),
    (⟨(some 25), .call 23 [(.tmp 24)], none⟩, .loud),
    (⟨(some 26), .loadN 5 (.tmp 1), none⟩, .reads 0 1),
    (⟨(some 27), .call 25 [(.tmp 26)], none⟩, .loud),
    (⟨(some 28), .call 24 [(.tmp 27)], none⟩, .loud),
    (⟨(some 29), .eqBool false (.tmp 25) (.tmp 28), none⟩, .still),
    (⟨(some 30), .mv (.tmp 29), none⟩, .still),
    (⟨(some 31), .fieldAddr 0 (.tmp 1), (some (30, true))⟩, .still),
    (⟨(some 32), .load1 (.tmp 31), (some (30, true))⟩, .reads 3 3),
    (⟨(some 33), .call 26 [(.tmp 32)], (some (30, true))⟩, .loud),
    (⟨(some 34), .fieldAddr 0 (.tmp 1), (some (30, true))⟩, .still),
    (⟨(some 35), .load1 (.tmp 34), (some (30, true))⟩, .reads 3 4),
    (⟨(some 36), .call 27 [(.tmp 35)], (some (30, true))⟩, .loud),
    (⟨(some 37), .bin .eql (.tmp 33) (.tmp 36), (some (30, true))⟩, .still),
    (⟨(some 38), .pick (.tmp 30) (.tmp 37) (.const (.bool false)), none⟩, .still),
    (⟨(some 39), .mv (.tmp 38), none⟩, .still),
    (⟨(some 40), .mv (.tmp 3), (some (39, true))⟩, .still),
    (⟨(some 41), .toInt .i64 (.tmp 40), (some (39, true))⟩, .still),
    (⟨(some 42), .mv (.tmp 6), (some (39, true))⟩, .still),
    (⟨(some 43), .bin .eql (.tmp 41) (.tmp 42), (some (39, true))⟩, .still),
    (⟨(some 44), .pick (.tmp 39) (.tmp 43) (.const (.bool false)), none⟩, .still),
    (⟨(some 45), .mv (.tmp 44), none⟩, .still),
    (⟨(some 46), .mv (.tmp 4), (some (45, true))⟩, .still),
    (⟨(some 47), .toInt .i64 (.tmp 46), (some (45, true))⟩, .still),
    (⟨(some 48), .mv (.tmp 7), (some (45, true))⟩, .still),
    (⟨(some 49), .bin .eql (.tmp 47) (.tmp 48), (some (45, true))⟩, .still),
    (⟨(some 50), .pick (.tmp 45) (.tmp 49) (.const (.bool false)), none⟩, .still),
    (⟨(some 51), .mv (.tmp 50), none⟩, .still),
    (⟨(some 52), .mv (.tmp 5), (some (51, true))⟩, .still),
    (⟨(some 53), .mv (.tmp 8), (some (51, true))⟩, .still),
    (⟨(some 54), .eqBool false (.tmp 52) (.tmp 53), (some (51, true))⟩, .still),
    (⟨(some 55), .pick (.tmp 51) (.tmp 54) (.const (.bool false)), none⟩, .still),
    (⟨(some 2), .mv (.tmp 55), none⟩, .still)])
  (.ret))))), none⟩

/-- 'hostler/hostlerlaw14.StatusDead' -/
def F6 : AFunc := ⟨74, [.tmp 2],
  .seq (.region [
    ⟨(some 2), .mv (.const (.bool false)), none⟩])
  (.seq (.seq (.region [
    ⟨(some 12), .call 14 [], none⟩,
    ⟨(some 13), .un .not (.tmp 12), none⟩,
    ⟨(some 14), .mv (.tmp 13), none⟩,
    ⟨(some 15), .mv (.tmp 0), (some (14, false))⟩,
    ⟨(some 16), .lenS (.tmp 15), (some (14, false))⟩,
    ⟨(some 17), .bin .gtr (.tmp 16) (.const (.int .i64 60)), (some (14, false))⟩,
    ⟨(some 18), .pick (.tmp 14) (.const (.bool true)) (.tmp 17), none⟩])
  (.cond (.tmp 18)
    (.seq (.region [
      ⟨(some 19), .call 14 [], none⟩,
      ⟨(some 2), .mv (.tmp 19), none⟩])
    (.ret))
    (.skip)))
  (.seq (.region [
    ⟨(some 20), .call 28 [(.const (.int .i64 1))], none⟩,
    ⟨(some 3), .mv (.tmp 20), none⟩])
  (.seq (.region [
    ⟨(some 21), .build [(.int .i64 0), (.int .i64 0)] [((1, 1), (.const (.int .i64 1)))], none⟩,
    ⟨(some 4), .alloc [(.int .i64 0), (.int .i64 0)], none⟩,
    ⟨none, .store 2 (.tmp 4) (.tmp 21), none⟩])
  (.seq (.region [
    ⟨(some 5), .mv (.const (.int .u64 0)), none⟩])
  (.seq (.region [
    ⟨(some 6), .mv (.const (.bool false)), none⟩])
  (.seq (.seq (.region [
    ⟨(some 22), .mv (.tmp 0), none⟩,
    ⟨(some 23), .lenS (.tmp 22), none⟩,
    ⟨(some 24), .mv (.const (.int .i64 0)), none⟩])
  (.block 0 (.loop (.seq (.region [
      ⟨(some 25), .bin .lss (.tmp 24) (.tmp 23), none⟩])
    (.seq (.cond (.tmp 25)
      (.skip)
      (.exit 0))
    (.seq (.block 1 (.seq (.region [
      ⟨(some 26), .idxAddr 1 none (.tmp 22) (.tmp 24), none⟩,
      ⟨(some 27), .load1 (.tmp 26), none⟩,
      ⟨(some 8), .mv (.tmp 27), none⟩])
    (.seq (.region [
      ⟨(some 28), .mv (.tmp 8), none⟩,
      ⟨(some 29), .bin .rem (.tmp 28) (.const (.int .u8 8)), none⟩,
      ⟨(some 30), .toInt .u64 (.tmp 29), none⟩,
      ⟨(some 9), .mv (.tmp 30), none⟩])
    (.seq (.region [
      ⟨(some 31), .loadN 2 (.tmp 4), none⟩,
      ⟨(some 32), .mv (.tmp 3), none⟩,
      ⟨(some 33), .mv (.tmp 5), none⟩,
      ⟨(some 34), .mv (.tmp 9), none⟩,
      ⟨(some 35), .call 29 [(.tmp 31), (.tmp 32), (.const (.int .i64 0)), (.tmp 33), (.tmp 34)], none⟩,
      ⟨(some 10), .mv (.tmp 35), none⟩])
    (.seq (.region [
      ⟨(some 36), .loadN 2 (.tmp 4), none⟩,
      ⟨(some 37), .mv (.tmp 3), none⟩,
      ⟨(some 38), .call 30 [(.tmp 36), (.tmp 37), (.const (.int .i64 0))], none⟩,
      ⟨(some 11), .mv (.tmp 38), none⟩])
    (.seq (.seq (.region [
      ⟨(some 39), .mv (.tmp 10), none⟩,
      ⟨(some 40), .mv (.tmp 39), none⟩,
      ⟨(some 41), .mv (.tmp 11), (some (40, true))⟩,
      ⟨(some 42), .mv (.tmp 9), (some (40, true))⟩,
      ⟨(some 43), .bin .neq (.tmp 41) (.tmp 42), (some (40, true))⟩,
      ⟨(some 44), .mv (.tmp 43), (some (40, true))⟩,
      ⟨(some 45), .mv (.tmp 6), (some (44, false))⟩,
      ⟨(some 46), .pick (.tmp 44) (.const (.bool true)) (.tmp 45), (some (40, true))⟩,
      ⟨(some 47), .mv (.tmp 46), (some (40, true))⟩,
      ⟨(some 48), .mv (.tmp 9), (some (47, false))⟩,
      ⟨(some 49), .bin .eql (.tmp 48) (.const (.int .u64 0)), (some (47, false))⟩,
      ⟨(some 50), .pick (.tmp 47) (.const (.bool true)) (.tmp 49), (some (40, true))⟩,
      ⟨(some 51), .pick (.tmp 40) (.tmp 50) (.const (.bool false)), none⟩,
      ⟨(some 52), .mv (.tmp 51), none⟩,
      ⟨(some 53), .mv (.tmp 10), (some (52, false))⟩,
      ⟨(some 54), .un .not (.tmp 53), (some (52, false))⟩,
      ⟨(some 55), .mv (.tmp 54), (some (52, false))⟩,
      ⟨(some 56), .mv (.tmp 11), (some (55, true))⟩,
      ⟨(some 57), .mv (.tmp 5), (some (55, true))⟩,
      ⟨(some 58), .bin .neq (.tmp 56) (.tmp 57), (some (55, true))⟩,
      ⟨(some 59), .pick (.tmp 55) (.tmp 58) (.const (.bool false)), (some (52, false))⟩,
      ⟨(some 60), .pick (.tmp 52) (.const (.bool true)) (.tmp 59), none⟩])
    (.cond (.tmp 60)
      (.seq (.region [
        ⟨(some 2), .mv (.const (.bool false)), none⟩])
      (.ret))
      (.skip)))
    (.seq (.region [
      ⟨(some 61), .mv (.tmp 6), none⟩,
      ⟨(some 62), .mv (.tmp 61), none⟩,
      ⟨(some 63), .mv (.tmp 11), (some (62, false))⟩,
      ⟨(some 64), .bin .eql (.tmp 63) (.const (.int .u64 6)), (some (62, false))⟩,
      ⟨(some 65), .pick (.tmp 62) (.const (.bool true)) (.tmp 64), none⟩,
      ⟨(some 6), .mv (.tmp 65), none⟩])
    (.region [
      ⟨(some 66), .mv (.tmp 11), none⟩,
      ⟨(some 5), .mv (.tmp 66), none⟩]))))))))
    (.region [
      ⟨(some 67), .bin .add (.tmp 24) (.const (.int .i64 1)), none⟩,
      ⟨(some 24), .mv (.tmp 67), none⟩])))))))
  (.seq (.region [
    ⟨(some 68), .mv (.tmp 6), none⟩,
    ⟨(some 69), .un .not (.tmp 68), none⟩,
    ⟨(some 70), .mv (.tmp 69), none⟩,
    ⟨(some 71), .mv (.tmp 5), (some (70, false))⟩,
    ⟨(some 72), .bin .eql (.tmp 71) (.const (.int .u64 6)), (some (70, false))⟩,
    ⟨(some 73), .pick (.tmp 70) (.const (.bool true)) (.tmp 72), none⟩,
    ⟨(some 2), .mv (.tmp 73), none⟩])
  (.ret)))))))), none⟩

/-- 'hostler/hostlerlaw14.StatusCounts' -/
def F7 : AFunc := ⟨115, [.tmp 4],
  .seq (.region [
    ⟨(some 4), .mv (.const (.bool false)), none⟩])
  (.seq (.seq (.region [
    ⟨(some 18), .call 14 [], none⟩,
    ⟨(some 19), .un .not (.tmp 18), none⟩,
    ⟨(some 20), .mv (.tmp 19), none⟩,
    ⟨(some 21), .mv (.tmp 1), (some (20, false))⟩,
    ⟨(some 22), .lenS (.tmp 21), (some (20, false))⟩,
    ⟨(some 23), .bin .gtr (.tmp 22) (.const (.int .i64 60)), (some (20, false))⟩,
    ⟨(some 24), .pick (.tmp 20) (.const (.bool true)) (.tmp 23), none⟩])
  (.cond (.tmp 24)
    (.seq (.region [
      ⟨(some 25), .call 14 [], none⟩,
      ⟨(some 4), .mv (.tmp 25), none⟩])
    (.ret))
    (.skip)))
  (.seq (.region [
    ⟨(some 26), .mv (.tmp 0), none⟩,
    ⟨(some 27), .bin .rem (.tmp 26) (.const (.int .u8 20)), none⟩,
    ⟨(some 28), .toInt .i64 (.tmp 27), none⟩,
    ⟨(some 29), .bin .add (.const (.int .i64 1)) (.tmp 28), none⟩,
    ⟨(some 5), .mv (.tmp 29), none⟩])
  (.seq (.region [
    ⟨(some 30), .mv (.tmp 5), none⟩,
    ⟨(some 31), .call 28 [(.tmp 30)], none⟩,
    ⟨(some 6), .mv (.tmp 31), none⟩])
  (.seq (.region [
    ⟨(some 32), .mv (.tmp 5), none⟩,
    ⟨(some 33), .build [(.int .i64 0), (.int .i64 0)] [((1, 1), (.tmp 32))], none⟩,
    ⟨(some 7), .alloc [(.int .i64 0), (.int .i64 0)], none⟩,
    ⟨none, .store 2 (.tmp 7) (.tmp 33), none⟩])
  (.seq (.seq (.region [
    ⟨(some 34), .mv (.tmp 1), none⟩,
    ⟨(some 35), .lenS (.tmp 34), none⟩,
    ⟨(some 36), .mv (.const (.int .i64 0)), none⟩])
  (.block 0 (.loop (.seq (.region [
      ⟨(some 37), .bin .lss (.tmp 36) (.tmp 35), none⟩])
    (.seq (.cond (.tmp 37)
      (.skip)
      (.exit 0))
    (.seq (.block 1 (.seq (.region [
      ⟨(some 38), .idxAddr 1 none (.tmp 34) (.tmp 36), none⟩,
      ⟨(some 39), .load1 (.tmp 38), none⟩,
      ⟨(some 9), .mv (.tmp 39), none⟩])
    (.seq (.region [
      ⟨(some 40), .mv (.tmp 9), none⟩,
      ⟨(some 41), .toInt .i64 (.tmp 40), none⟩,
      ⟨(some 42), .mv (.tmp 5), none⟩,
      ⟨(some 43), .bin .rem (.tmp 41) (.tmp 42), none⟩,
      ⟨(some 44), .mv (.tmp 9), none⟩,
      ⟨(some 45), .bin .quo (.tmp 44) (.const (.int .u16 32)), none⟩,
      ⟨(some 46), .bin .rem (.tmp 45) (.const (.int .u16 7)), none⟩,
      ⟨(some 47), .toInt .u64 (.tmp 46), none⟩,
      ⟨(some 10), .mv (.tmp 43), none⟩,
      ⟨(some 11), .mv (.tmp 47), none⟩])
    (.seq (.region [
      ⟨(some 48), .loadN 2 (.tmp 7), none⟩,
      ⟨(some 49), .mv (.tmp 6), none⟩,
      ⟨(some 50), .mv (.tmp 10), none⟩,
      ⟨(some 51), .call 30 [(.tmp 48), (.tmp 49), (.tmp 50)], none⟩,
      ⟨(some 12), .mv (.tmp 51), none⟩])
    (.seq (.draw [
      (⟨(some 52), .loadN 2 (.tmp 7), none⟩, .reads 0 0),
      (⟨(some 53), .mv (.tmp 6), none⟩, .still),
      (⟨(some 54), .mv (.tmp 11), none⟩, .still),
      (⟨(some 55), .call 31 [(.tmp 52), (.tmp 53), (.tmp 54)], none⟩, .loud),
      (⟨(some 56), .loadN 2 (.tmp 7), none⟩, .reads 0 1),
      (⟨(some 57), .mv (.tmp 6), none⟩, .still),
      (⟨(some 58), .mv (.tmp 12), none⟩, .still),
      (⟨(some 59), .call 31 [(.tmp 56), (.tmp 57), (.tmp 58)], none⟩, .loud),
      (⟨(some 13), .mv (.tmp 55), none⟩, .still),
      (⟨(some 14), .mv (.tmp 59), none⟩, .still)])
    (.seq (.region [
      ⟨(some 60), .loadN 2 (.tmp 7), none⟩,
      ⟨(some 61), .mv (.tmp 6), none⟩,
      ⟨(some 62), .mv (.tmp 10), none⟩,
      ⟨(some 63), .mv (.tmp 12), none⟩,
      ⟨(some 64), .mv (.tmp 11), none⟩,
      ⟨(some 65), .call 29 [(.tmp 60), (.tmp 61), (.tmp 62), (.tmp 63), (.tmp 64)], none⟩,
      ⟨(some 15), .mv (.tmp 65), none⟩])
    (.seq (.seq (.region [
      ⟨(some 66), .mv (.tmp 15), none⟩,
      ⟨(some 67), .mv (.tmp 66), none⟩,
      ⟨(some 68), .loadN 2 (.tmp 7), (some (67, true))⟩,
      ⟨(some 69), .mv (.tmp 6), (some (67, true))⟩,
      ⟨(some 70), .mv (.tmp 11), (some (67, true))⟩,
      ⟨(some 71), .call 31 [(.tmp 68), (.tmp 69), (.tmp 70)], (some (67, true))⟩,
      ⟨(some 72), .mv (.tmp 13), (some (67, true))⟩,
      ⟨(some 73), .bin .add (.tmp 72) (.const (.int .i64 1)), (some (67, true))⟩,
      ⟨(some 74), .bin .neq (.tmp 71) (.tmp 73), (some (67, true))⟩,
      ⟨(some 75), .mv (.tmp 74), (some (67, true))⟩,
      ⟨(some 76), .loadN 2 (.tmp 7), (some (75, false))⟩,
      ⟨(some 77), .mv (.tmp 6), (some (75, false))⟩,
      ⟨(some 78), .mv (.tmp 12), (some (75, false))⟩,
      ⟨(some 79), .call 31 [(.tmp 76), (.tmp 77), (.tmp 78)], (some (75, false))⟩,
      ⟨(some 80), .mv (.tmp 14), (some (75, false))⟩,
      ⟨(some 81), .bin .sub (.tmp 80) (.const (.int .i64 1)), (some (75, false))⟩,
      ⟨(some 82), .bin .neq (.tmp 79) (.tmp 81), (some (75, false))⟩,
      ⟨(some 83), .pick (.tmp 75) (.const (.bool true)) (.tmp 82), (some (67, true))⟩,
      ⟨(some 84), .pick (.tmp 67) (.tmp 83) (.const (.bool false)), none⟩,
      ⟨(some 85), .mv (.tmp 84), none⟩,
      ⟨(some 86), .mv (.tmp 15), (some (85, false))⟩,
      ⟨(some 87), .un .not (.tmp 86), (some (85, false))⟩,
      ⟨(some 88), .mv (.tmp 87), (some (85, false))⟩,
      ⟨(some 89), .loadN 2 (.tmp 7), (some (88, true))⟩,
      ⟨(some 90), .mv (.tmp 6), (some (88, true))⟩,
      ⟨(some 91), .mv (.tmp 12), (some (88, true))⟩,
      ⟨(some 92), .call 31 [(.tmp 89), (.tmp 90), (.tmp 91)], (some (88, true))⟩,
      ⟨(some 93), .mv (.tmp 14), (some (88, true))⟩,
      ⟨(some 94), .bin .neq (.tmp 92) (.tmp 93), (some (88, true))⟩,
      ⟨(some 95), .pick (.tmp 88) (.tmp 94) (.const (.bool false)), (some (85, false))⟩,
      ⟨(some 96), .pick (.tmp 85) (.const (.bool true)) (.tmp 95), none⟩])
    (.cond (.tmp 96)
      (.seq (.region [
        ⟨(some 4), .mv (.const (.bool false)), none⟩])
      (.ret))
      (.skip)))
    (.seq (.region [
      ⟨(some 16), .mv (.const (.int .i64 0)), none⟩])
    (.seq (.seq (.region [
      ⟨(some 97), .mv (.const (.int .u64 0)), none⟩])
    (.block 2 (.loop (.seq (.region [
        ⟨(some 98), .bin .lss (.tmp 97) (.const (.int .u64 7)), none⟩])
      (.seq (.cond (.tmp 98)
        (.skip)
        (.exit 2))
      (.seq (.block 3 (.seq (.region [
        ⟨(some 99), .mv (.tmp 97), none⟩,
        ⟨(some 17), .mv (.tmp 99), none⟩])
      (.region [
        ⟨(some 100), .mv (.tmp 16), none⟩,
        ⟨(some 101), .loadN 2 (.tmp 7), none⟩,
        ⟨(some 102), .mv (.tmp 6), none⟩,
        ⟨(some 103), .mv (.tmp 17), none⟩,
        ⟨(some 104), .call 31 [(.tmp 101), (.tmp 102), (.tmp 103)], none⟩,
        ⟨(some 105), .bin .add (.tmp 100) (.tmp 104), none⟩,
        ⟨(some 16), .mv (.tmp 105), none⟩])))
      (.region [
        ⟨(some 106), .bin .add (.tmp 97) (.const (.int .u64 1)), none⟩,
        ⟨(some 97), .mv (.tmp 106), none⟩])))))))
    (.seq (.region [
      ⟨(some 107), .mv (.tmp 16), none⟩,
      ⟨(some 108), .mv (.tmp 5), none⟩,
      ⟨(some 109), .bin .neq (.tmp 107) (.tmp 108), none⟩])
    (.cond (.tmp 109)
      (.seq (.region [
        ⟨(some 4), .mv (.const (.bool false)), none⟩])
      (.ret))
      (.skip))))))))))))
    (.region [
      ⟨(some 110), .bin .add (.tmp 36) (.const (.int .i64 1)), none⟩,
      ⟨(some 36), .mv (.tmp 110), none⟩])))))))
  (.seq (.region [
    ⟨(some 111), .loadN 2 (.tmp 7), none⟩,
    ⟨(some 112), .mv (.tmp 6), none⟩,
    ⟨(some 113), .call 31 [(.tmp 111), (.tmp 112), (.const (.int .u64 7))], none⟩,
    ⟨(some 114), .bin .eql (.tmp 113) (.const (.int .i64 0)), none⟩,
    ⟨(some 4), .mv (.tmp 114), none⟩])
  (.ret))))))), none⟩

/-- 'hostler/hostlerlaw15.EventLogs' -/
def F8 : AFunc := ⟨86, [.tmp 8],
  .seq (.region [
    ⟨(some 8), .mv (.const (.bool false)), none⟩])
  (.seq (.seq (.region [
    ⟨(some 17), .call 20 [], none⟩,
    ⟨(some 18), .un .not (.tmp 17), none⟩,
    ⟨(some 19), .mv (.tmp 18), none⟩,
    ⟨(some 20), .mv (.tmp 0), (some (19, false))⟩,
    ⟨(some 21), .lenS (.tmp 20), (some (19, false))⟩,
    ⟨(some 22), .bin .gtr (.tmp 21) (.const (.int .i64 60)), (some (19, false))⟩,
    ⟨(some 23), .pick (.tmp 19) (.const (.bool true)) (.tmp 22), none⟩])
  (.cond (.tmp 23)
    (.seq (.region [
      ⟨(some 24), .call 20 [], none⟩,
      ⟨(some 8), .mv (.tmp 24), none⟩])
    (.ret))
    (.skip)))
  (.seq (.region [
    ⟨(some 9), .alloc [.nilslice], none⟩])
  (.seq (.region [
    ⟨(some 10), .mv (.const .nilslice), none⟩])
  (.seq (.seq (.region [
    ⟨(some 25), .mv (.tmp 0), none⟩,
    ⟨(some 26), .lenS (.tmp 25), none⟩,
    ⟨(some 27), .mv (.const (.int .i64 0)), none⟩])
  (.block 0 (.loop (.seq (.region [
      ⟨(some 28), .bin .lss (.tmp 27) (.tmp 26), none⟩])
    (.seq (.cond (.tmp 28)
      (.skip)
      (.exit 0))
    (.seq (.block 1 (.seq (.region [
      ⟨(some 29), .idxAddr 5 none (.tmp 25) (.tmp 27), none⟩,
      ⟨(some 30), .loadN 5 (.tmp 29), none⟩,
      ⟨(some 12), .alloc [(.int .i64 0), (.int .i64 0), (.int .i64 0), (.int .i64 0), (.int .i64 0)], none⟩,
      ⟨none, .store 5 (.tmp 12) (.tmp 30), none⟩])
    (.seq (.region [
      ⟨(some 31), .loadN 5 (.tmp 12), none⟩,
      ⟨(some 32), .call 25 [(.tmp 31)], none⟩,
      ⟨(some 33), .call 24 [(.tmp 32)], none⟩,
      ⟨(some 13), .mv (.tmp 33), none⟩])
    (.seq (.seq (.region [
      ⟨(some 34), .loadN 5 (.tmp 12), none⟩,
      ⟨(some 35), .call 32 [(.tmp 9), (.tmp 34)], none⟩,
      ⟨(some 36), .mv (.tmp 13), none⟩,
      ⟨(some 37), .eqBool true (.tmp 35) (.tmp 36), none⟩])
    (.cond (.tmp 37)
      (.seq (.region [
        ⟨(some 8), .mv (.const (.bool false)), none⟩])
      (.ret))
      (.skip)))
    (.seq (.seq (.region [
      ⟨(some 38), .mv (.tmp 13), none⟩])
    (.cond (.tmp 38)
      (.region [
        ⟨(some 39), .mv (.tmp 10), none⟩,
        ⟨(some 40), .loadN 5 (.tmp 12), none⟩,
        ⟨(some 41), .call 25 [(.tmp 40)], none⟩,
        ⟨(some 42), .buildSlice [(.int .i64 0), (.int .i64 0), (.int .i64 0), (.int .i64 0), (.int .i64 0)] 1 [((0, 5), (.tmp 41))], none⟩,
        ⟨(some 43), .append 5 40 [(.int .i64 0), (.int .i64 0), (.int .i64 0), (.int .i64 0), (.int .i64 0)] (.tmp 39) (.tmp 42), none⟩,
        ⟨(some 10), .mv (.tmp 43), none⟩])
      (.skip)))
    (.seq (.region [
      ⟨(some 44), .call 33 [(.tmp 9)], none⟩,
      ⟨(some 45), .mv (.tmp 10), none⟩,
      ⟨(some 46), .lenS (.tmp 45), none⟩,
      ⟨(some 47), .bin .neq (.tmp 44) (.tmp 46), none⟩])
    (.cond (.tmp 47)
      (.seq (.region [
        ⟨(some 8), .mv (.const (.bool false)), none⟩])
      (.ret))
      (.skip))))))))
    (.region [
      ⟨(some 48), .bin .add (.tmp 27) (.const (.int .i64 1)), none⟩,
      ⟨(some 27), .mv (.tmp 48), none⟩])))))))
  (.seq (.region [
    ⟨(some 14), .mv (.const (.int .i64 0)), none⟩])
  (.seq (.seq (.region [
    ⟨(some 49), .mv (.tmp 10), none⟩,
    ⟨(some 50), .lenS (.tmp 49), none⟩,
    ⟨(some 51), .mv (.const (.int .i64 0)), none⟩])
  (.block 2 (.loop (.seq (.region [
      ⟨(some 52), .bin .lss (.tmp 51) (.tmp 50), none⟩])
    (.seq (.cond (.tmp 52)
      (.skip)
      (.exit 2))
    (.seq (.block 3 (.seq (.region [
      ⟨(some 53), .idxAddr 5 none (.tmp 49) (.tmp 51), none⟩,
      ⟨(some 54), .loadN 5 (.tmp 53), none⟩,
      ⟨(some 16), .alloc [(.int .i64 0), (.int .i64 0), (.int .i64 0), (.int .i64 0), (.int .i64 0)], none⟩,
      ⟨none, .store 5 (.tmp 16) (.tmp 54), none⟩])
    (.seq (.region [
      ⟨(some 55), .fieldAddr 0 (.tmp 16), none⟩,
      ⟨(some 56), .load1 (.tmp 55), none⟩,
      ⟨(some 57), .mv (.tmp 3), none⟩,
      ⟨(some 58), .bin .eql (.tmp 56) (.tmp 57), none⟩])
    (.cond (.tmp 58)
      (.region [
        ⟨(some 59), .mv (.tmp 14), none⟩,
        ⟨(some 60), .bin .add (.tmp 59) (.const (.int .i64 1)), none⟩,
        ⟨(some 14), .mv (.tmp 60), none⟩])
      (.skip)))))
    (.region [
      ⟨(some 61), .bin .add (.tmp 51) (.const (.int .i64 1)), none⟩,
      ⟨(some 51), .mv (.tmp 61), none⟩])))))))
  (.seq (.draw [
    (⟨(some 62), .mv (.tmp 1), none⟩, .still),
    (⟨(some 63), .call 35 [(.tmp 9), (.tmp 62)], none⟩, .loud),
    (⟨(some 64), .mv (.tmp 10), none⟩, .still),
    (⟨(some 65), .mv (.tmp 1), none⟩, .still),
    (⟨(some 66), .max2 (.const (.int .i64 0)) (.tmp 65), none⟩, .still),
    (⟨(some 67), .mv (.tmp 10), none⟩, .still),
    (⟨(some 68), .lenS (.tmp 67), none⟩, .still),
    (⟨(some 69), .min2 (.tmp 66) (.tmp 68), none⟩, .still),
    (⟨(some 70), .slc 5 none (.tmp 64) (some (.tmp 69)) none none, none⟩, .reads 0 1),
    (⟨(some 71), .call 34 [(.tmp 63), (.tmp 70)], none⟩, .loud),
    (⟨(some 72), .mv (.tmp 71), none⟩, .still),
    (⟨(some 73), .mv (.tmp 2), (some (72, true))⟩, .still),
    (⟨(some 74), .call 36 [(.tmp 9), (.tmp 73)], (some (72, true))⟩, .loud),
    (⟨(some 75), .mv (.tmp 10), (some (72, true))⟩, .still),
    (⟨(some 76), .mv (.tmp 2), (some (72, true))⟩, .still),
    (⟨(some 77), .call 37 [(.tmp 75), (.tmp 76)], (some (72, true))⟩, .loud),
    (⟨(some 78), .call 34 [(.tmp 74), (.tmp 77)], (some (72, true))⟩, .loud),
    (⟨(some 79), .pick (.tmp 72) (.tmp 78) (.const (.bool false)), none⟩, .still),
    (⟨(some 80), .mv (.tmp 79), none⟩, .still),
    (⟨(some 81), .mv (.tmp 3), (some (80, true))⟩, .still),
    (⟨(some 82), .call 38 [(.tmp 9), (.tmp 81)], (some (80, true))⟩, .loud),
    (⟨(some 83), .mv (.tmp 14), (some (80, true))⟩, .still),
    (⟨(some 84), .bin .eql (.tmp 82) (.tmp 83), (some (80, true))⟩, .still),
    (⟨(some 85), .pick (.tmp 80) (.tmp 84) (.const (.bool false)), none⟩, .still),
    (⟨(some 8), .mv (.tmp 85), none⟩, .still)])
  (.ret)))))))), none⟩

/-- 'hostler/hostlerlaw14.StatusTable' -/
def F9 : AFunc := ⟨200, [.tmp 4],
  .seq (.region [
    ⟨(some 4), .mv (.const (.bool false)), none⟩])
  (.seq (.seq (.region [
    ⟨(some 23), .call 14 [], none⟩,
    ⟨(some 24), .un .not (.tmp 23), none⟩,
    ⟨(some 25), .mv (.tmp 24), none⟩,
    ⟨(some 26), .mv (.tmp 1), (some (25, false))⟩,
    ⟨(some 27), .lenS (.tmp 26), (some (25, false))⟩,
    ⟨(some 28), .bin .gtr (.tmp 27) (.const (.int .i64 60)), (some (25, false))⟩,
    ⟨(some 29), .pick (.tmp 25) (.const (.bool true)) (.tmp 28), none⟩])
  (.cond (.tmp 29)
    (.seq (.region [
      ⟨(some 30), .call 14 [], none⟩,
      ⟨(some 4), .mv (.tmp 30), none⟩])
    (.ret))
    (.skip)))
  (.seq (.region [
    ⟨(some 31), .mv (.tmp 0), none⟩,
    ⟨(some 32), .bin .rem (.tmp 31) (.const (.int .u8 40)), none⟩,
    ⟨(some 33), .toInt .i64 (.tmp 32), none⟩,
    ⟨(some 5), .mv (.tmp 33), none⟩])
  (.seq (.region [
    ⟨(some 34), .mv (.tmp 5), none⟩,
    ⟨(some 35), .bin .add (.tmp 34) (.const (.int .i64 5)), none⟩,
    ⟨(some 36), .call 28 [(.tmp 35)], none⟩,
    ⟨(some 6), .mv (.tmp 36), none⟩])
  (.seq (.region [
    ⟨(some 37), .mv (.tmp 5), none⟩,
    ⟨(some 38), .build [(.int .i64 0), (.int .i64 0)] [((0, 1), (.const (.int .i64 3))), ((1, 1), (.tmp 37))], none⟩,
    ⟨(some 7), .alloc [(.int .i64 0), (.int .i64 0)], none⟩,
    ⟨none, .store 2 (.tmp 7) (.tmp 38), none⟩])
  (.seq (.region [
    ⟨(some 39), .mv (.tmp 5), none⟩,
    ⟨(some 40), .mkslice 1 8 [(.int .u64 0)] (.tmp 39) (.tmp 39), none⟩,
    ⟨(some 8), .mv (.tmp 40), none⟩])
  (.seq (.seq (.region [
    ⟨(some 41), .mv (.tmp 1), none⟩,
    ⟨(some 42), .lenS (.tmp 41), none⟩,
    ⟨(some 43), .mv (.const (.int .i64 0)), none⟩])
  (.block 0 (.loop (.seq (.region [
      ⟨(some 44), .bin .lss (.tmp 43) (.tmp 42), none⟩])
    (.seq (.cond (.tmp 44)
      (.skip)
      (.exit 0))
    (.seq (.block 1 (.seq (.region [
      ⟨(some 45), .idxAddr 4 none (.tmp 41) (.tmp 43), none⟩,
      ⟨(some 46), .loadN 4 (.tmp 45), none⟩,
      ⟨(some 10), .alloc [(.int .u8 0), (.int .i64 0), (.int .u64 0), (.int .u64 0)], none⟩,
      ⟨none, .store 4 (.tmp 10) (.tmp 46), none⟩])
    (.seq (.region [
      ⟨(some 47), .fieldAddr 1 (.tmp 10), none⟩,
      ⟨(some 48), .load1 (.tmp 47), none⟩,
      ⟨(some 49), .bin .geq (.tmp 48) (.const (.int .i64 0)), none⟩,
      ⟨(some 50), .mv (.tmp 49), none⟩,
      ⟨(some 51), .fieldAddr 1 (.tmp 10), (some (50, true))⟩,
      ⟨(some 52), .load1 (.tmp 51), (some (50, true))⟩,
      ⟨(some 53), .mv (.tmp 5), (some (50, true))⟩,
      ⟨(some 54), .bin .lss (.tmp 52) (.tmp 53), (some (50, true))⟩,
      ⟨(some 55), .pick (.tmp 50) (.tmp 54) (.const (.bool false)), none⟩,
      ⟨(some 11), .mv (.tmp 55), none⟩])
    (.seq (.region [
      ⟨(some 56), .mv (.tmp 6), none⟩,
      ⟨(some 57), .call 39 [(.tmp 56)], none⟩,
      ⟨(some 12), .mv (.tmp 57), none⟩])
    (.seq (.region [
      ⟨(some 13), .mv (.const (.int .i64 0)), none⟩])
    (.seq (.seq (.region [
      ⟨(some 58), .fieldAddr 0 (.tmp 10), none⟩,
      ⟨(some 59), .load1 (.tmp 58), none⟩,
      ⟨(some 60), .bin .rem (.tmp 59) (.const (.int .u8 6)), none⟩])
    (.block 2 (.seq (.region [
      ⟨(some 113), .bin .eql (.tmp 60) (.const (.int .u8 4)), none⟩,
      ⟨(some 112), .mv (.tmp 113), none⟩])
    (.cond (.tmp 112)
      (.seq (.region [
        ⟨(some 114), .mv (.tmp 11), none⟩,
        ⟨(some 115), .mv (.tmp 114), none⟩,
        ⟨(some 116), .fieldAddr 3 (.tmp 10), (some (115, true))⟩,
        ⟨(some 117), .load1 (.tmp 116), (some (115, true))⟩,
        ⟨(some 118), .bin .lss (.tmp 117) (.const (.int .u64 7)), (some (115, true))⟩,
        ⟨(some 119), .pick (.tmp 115) (.tmp 118) (.const (.bool false)), none⟩,
        ⟨(some 14), .mv (.tmp 119), none⟩])
      (.seq (.seq (.region [
        ⟨(some 120), .loadN 2 (.tmp 7), none⟩,
        ⟨(some 121), .mv (.tmp 6), none⟩,
        ⟨(some 122), .fieldAddr 1 (.tmp 10), none⟩,
        ⟨(some 123), .load1 (.tmp 122), none⟩,
        ⟨(some 124), .fieldAddr 3 (.tmp 10), none⟩,
        ⟨(some 125), .load1 (.tmp 124), none⟩,
        ⟨(some 126), .call 40 [(.tmp 120), (.tmp 121), (.tmp 123), (.tmp 125)], none⟩,
        ⟨(some 127), .mv (.tmp 14), none⟩,
        ⟨(some 128), .eqBool true (.tmp 126) (.tmp 127), none⟩])
      (.cond (.tmp 128)
        (.seq (.region [
          ⟨(some 4), .mv (.const (.bool false)), none⟩])
        (.ret))
        (.skip)))
      (.seq (.region [
        ⟨(some 129), .mv (.tmp 14), none⟩])
      (.cond (.tmp 129)
        (.seq (.region [
          ⟨(some 130), .mv (.tmp 8), none⟩,
          ⟨(some 131), .fieldAddr 1 (.tmp 10), none⟩,
          ⟨(some 132), .load1 (.tmp 131), none⟩,
          ⟨(some 133), .fieldAddr 3 (.tmp 10), none⟩,
          ⟨(some 134), .load1 (.tmp 133), none⟩,
          ⟨(some 135), .idxAddr 1 none (.tmp 130) (.tmp 132), none⟩,
          ⟨none, .store 1 (.tmp 135) (.tmp 134), none⟩])
        (.region [
          ⟨(some 13), .mv (.const (.int .i64 1)), none⟩]))
        (.skip)))))
      (.seq (.region [
        ⟨(some 137), .bin .eql (.tmp 60) (.const (.int .u8 5)), none⟩,
        ⟨(some 136), .mv (.tmp 137), none⟩])
      (.cond (.tmp 136)
        (.seq (.region [
          ⟨(some 15), .mv (.const (.int .u64 0)), none⟩])
        (.seq (.seq (.region [
          ⟨(some 138), .mv (.tmp 11), none⟩])
        (.cond (.tmp 138)
          (.seq (.region [
            ⟨(some 139), .mv (.tmp 8), none⟩,
            ⟨(some 140), .fieldAddr 1 (.tmp 10), none⟩,
            ⟨(some 141), .load1 (.tmp 140), none⟩,
            ⟨(some 142), .idxAddr 1 none (.tmp 139) (.tmp 141), none⟩,
            ⟨(some 143), .load1 (.tmp 142), none⟩,
            ⟨(some 15), .mv (.tmp 143), none⟩])
          (.region [
            ⟨(some 13), .mv (.const (.int .i64 1)), none⟩]))
          (.skip)))
        (.seq (.region [
          ⟨(some 144), .loadN 2 (.tmp 7), none⟩,
          ⟨(some 145), .mv (.tmp 6), none⟩,
          ⟨(some 146), .fieldAddr 1 (.tmp 10), none⟩,
          ⟨(some 147), .load1 (.tmp 146), none⟩,
          ⟨(some 148), .call 30 [(.tmp 144), (.tmp 145), (.tmp 147)], none⟩,
          ⟨(some 149), .mv (.tmp 15), none⟩,
          ⟨(some 150), .bin .neq (.tmp 148) (.tmp 149), none⟩])
        (.cond (.tmp 150)
          (.seq (.region [
            ⟨(some 4), .mv (.const (.bool false)), none⟩])
          (.ret))
          (.skip)))))
        (.seq (.seq (.region [
          ⟨(some 61), .fieldAddr 0 (.tmp 10), none⟩,
          ⟨(some 62), .load1 (.tmp 61), none⟩,
          ⟨(some 63), .bin .rem (.tmp 62) (.const (.int .u8 6)), none⟩,
          ⟨(some 64), .bin .eql (.tmp 63) (.const (.int .u8 3)), none⟩,
          ⟨(some 65), .mv (.tmp 64), none⟩,
          ⟨(some 66), .mv (.tmp 11), (some (65, true))⟩,
          ⟨(some 67), .pick (.tmp 65) (.tmp 66) (.const (.bool false)), none⟩])
        (.cond (.tmp 67)
          (.region [
            ⟨(some 68), .mv (.tmp 8), none⟩,
            ⟨(some 69), .fieldAddr 1 (.tmp 10), none⟩,
            ⟨(some 70), .load1 (.tmp 69), none⟩,
            ⟨(some 71), .idxAddr 1 none (.tmp 68) (.tmp 70), none⟩,
            ⟨(some 72), .load1 (.tmp 71), none⟩,
            ⟨(some 73), .fieldAddr 2 (.tmp 10), none⟩,
            ⟨none, .store 1 (.tmp 73) (.tmp 72), none⟩])
          (.skip)))
        (.seq (.region [
          ⟨(some 74), .mv (.tmp 11), none⟩,
          ⟨(some 75), .mv (.tmp 74), none⟩,
          ⟨(some 76), .fieldAddr 2 (.tmp 10), (some (75, true))⟩,
          ⟨(some 77), .load1 (.tmp 76), (some (75, true))⟩,
          ⟨(some 78), .fieldAddr 3 (.tmp 10), (some (75, true))⟩,
          ⟨(some 79), .load1 (.tmp 78), (some (75, true))⟩,
          ⟨(some 80), .call 16 [(.tmp 77), (.tmp 79)], (some (75, true))⟩,
          ⟨(some 81), .pick (.tmp 75) (.tmp 80) (.const (.bool false)), none⟩,
          ⟨(some 16), .mv (.tmp 81), none⟩])
        (.seq (.draw [
          (⟨(some 82), .mv (.tmp 16), none⟩, .still),
          (⟨(some 83), .mv (.tmp 82), none⟩, .still),
          (⟨(some 84), .mv (.tmp 8), (some (83, true))⟩, .still),
          (⟨(some 85), .fieldAddr 1 (.tmp 10), (some (83, true))⟩, .still),
          (⟨(some 86), .load1 (.tmp 85), (some (83, true))⟩, .reads 0 0),
          (⟨(some 87), .idxAddr 1 none (.tmp 84) (.tmp 86), (some (83, true))⟩, .still),
          (⟨(some 88), .load1 (.tmp 87), (some (83, true))⟩, .reads 0 0),
          (⟨(some 89), .fieldAddr 2 (.tmp 10), (some (83, true))⟩, .still),
          (⟨(some 90), .load1 (.tmp 89), (some (83, true))⟩, .reads 0 0),
          (⟨(some 91), .bin .eql (.tmp 88) (.tmp 90), (some (83, true))⟩, .still),
          (⟨(some 92), .pick (.tmp 83) (.tmp 91) (.const (.bool false)), none⟩, .still),
          (⟨(some 17), .mv (.tmp 92), none⟩, .still)])
        (.seq (.seq (.region [
          ⟨(some 93), .loadN 2 (.tmp 7), none⟩,
          ⟨(some 94), .mv (.tmp 6), none⟩,
          ⟨(some 95), .fieldAddr 1 (.tmp 10), none⟩,
          ⟨(some 96), .load1 (.tmp 95), none⟩,
          ⟨(some 97), .fieldAddr 2 (.tmp 10), none⟩,
          ⟨(some 98), .load1 (.tmp 97), none⟩,
          ⟨(some 99), .fieldAddr 3 (.tmp 10), none⟩,
          ⟨(some 100), .load1 (.tmp 99), none⟩,
          ⟨(some 101), .call 29 [(.tmp 93), (.tmp 94), (.tmp 96), (.tmp 98), (.tmp 100)], none⟩,
          ⟨(some 102), .mv (.tmp 17), none⟩,
          ⟨(some 103), .eqBool true (.tmp 101) (.tmp 102), none⟩])
        (.cond (.tmp 103)
          (.seq (.region [
            ⟨(some 4), .mv (.const (.bool false)), none⟩])
          (.ret))
          (.skip)))
        (.seq (.seq (.region [
          ⟨(some 104), .mv (.tmp 17), none⟩])
        (.cond (.tmp 104)
          (.region [
            ⟨(some 105), .mv (.tmp 8), none⟩,
            ⟨(some 106), .fieldAddr 1 (.tmp 10), none⟩,
            ⟨(some 107), .load1 (.tmp 106), none⟩,
            ⟨(some 108), .fieldAddr 3 (.tmp 10), none⟩,
            ⟨(some 109), .load1 (.tmp 108), none⟩,
            ⟨(some 110), .idxAddr 1 none (.tmp 105) (.tmp 107), none⟩,
            ⟨none, .store 1 (.tmp 110) (.tmp 109), none⟩])
          (.skip)))
        (.seq (.region [
          ⟨(some 111), .mv (.tmp 16), none⟩])
        (.cond (.tmp 111)
          (.region [
            ⟨(some 13), .mv (.const (.int .i64 1)), none⟩])
          (.skip))))))))))))))
    (.seq (.seq (.region [
      ⟨(some 151), .mv (.tmp 6), none⟩,
      ⟨(some 152), .call 39 [(.tmp 151)], none⟩,
      ⟨(some 153), .mv (.tmp 12), none⟩,
      ⟨(some 154), .mv (.tmp 13), none⟩,
      ⟨(some 155), .bin .add (.tmp 153) (.tmp 154), none⟩,
      ⟨(some 156), .bin .neq (.tmp 152) (.tmp 155), none⟩])
    (.cond (.tmp 156)
      (.seq (.region [
        ⟨(some 4), .mv (.const (.bool false)), none⟩])
      (.ret))
      (.skip)))
    (.seq (.region [
      ⟨(some 157), .mv (.const (.int .u64 0)), none⟩])
    (.block 3 (.loop (.seq (.region [
        ⟨(some 158), .bin .lss (.tmp 157) (.const (.int .u64 8)), none⟩])
      (.seq (.cond (.tmp 158)
        (.skip)
        (.exit 3))
      (.seq (.block 4 (.seq (.region [
        ⟨(some 159), .mv (.tmp 157), none⟩,
        ⟨(some 18), .mv (.tmp 159), none⟩])
      (.seq (.region [
        ⟨(some 19), .mv (.const (.int .i64 0)), none⟩])
      (.seq (.seq (.region [
        ⟨(some 160), .mv (.tmp 8), none⟩,
        ⟨(some 161), .lenS (.tmp 160), none⟩,
        ⟨(some 162), .mv (.const (.int .i64 0)), none⟩])
      (.block 5 (.loop (.seq (.region [
          ⟨(some 163), .bin .lss (.tmp 162) (.tmp 161), none⟩])
        (.seq (.cond (.tmp 163)
          (.skip)
          (.exit 5))
        (.seq (.block 6 (.seq (.region [
          ⟨(some 164), .idxAddr 1 none (.tmp 160) (.tmp 162), none⟩,
          ⟨(some 165), .load1 (.tmp 164), none⟩,
          ⟨(some 21), .mv (.tmp 165), none⟩])
        (.seq (.region [
          ⟨(some 166), .mv (.tmp 21), none⟩,
          ⟨(some 167), .mv (.tmp 18), none⟩,
          ⟨(some 168), .bin .eql (.tmp 166) (.tmp 167), none⟩])
        (.cond (.tmp 168)
          (.region [
            ⟨(some 169), .mv (.tmp 19), none⟩,
            ⟨(some 170), .bin .add (.tmp 169) (.const (.int .i64 1)), none⟩,
            ⟨(some 19), .mv (.tmp 170), none⟩])
          (.skip)))))
        (.region [
          ⟨(some 171), .bin .add (.tmp 162) (.const (.int .i64 1)), none⟩,
          ⟨(some 162), .mv (.tmp 171), none⟩])))))))
      (.seq (.region [
        ⟨(some 172), .loadN 2 (.tmp 7), none⟩,
        ⟨(some 173), .mv (.tmp 6), none⟩,
        ⟨(some 174), .mv (.tmp 18), none⟩,
        ⟨(some 175), .call 31 [(.tmp 172), (.tmp 173), (.tmp 174)], none⟩,
        ⟨(some 176), .mv (.tmp 19), none⟩,
        ⟨(some 177), .bin .neq (.tmp 175) (.tmp 176), none⟩])
      (.cond (.tmp 177)
        (.seq (.region [
          ⟨(some 4), .mv (.const (.bool false)), none⟩])
        (.ret))
        (.skip)))))))
      (.region [
        ⟨(some 178), .bin .add (.tmp 157) (.const (.int .u64 1)), none⟩,
        ⟨(some 157), .mv (.tmp 178), none⟩]))))))))))))))
    (.region [
      ⟨(some 179), .bin .add (.tmp 43) (.const (.int .i64 1)), none⟩,
      ⟨(some 43), .mv (.tmp 179), none⟩])))))))
  (.seq (.seq (.region [
    ⟨(some 180), .mv (.const (.int .i64 0)), none⟩])
  (.block 7 (.loop (.seq (.region [
      ⟨(some 181), .bin .lss (.tmp 180) (.const (.int .i64 3)), none⟩])
    (.seq (.cond (.tmp 181)
      (.skip)
      (.exit 7))
    (.seq (.block 8 (.seq (.region [
      ⟨(some 182), .mv (.tmp 180), none⟩,
      ⟨(some 22), .mv (.tmp 182), none⟩])
    (.seq (.region [
      ⟨(some 183), .mv (.tmp 6), none⟩,
      ⟨(some 184), .mv (.tmp 22), none⟩,
      ⟨(some 185), .call 41 [(.tmp 183), (.tmp 184)], none⟩,
      ⟨(some 186), .bin .neq (.tmp 185) (.const (.int .u64 0)), none⟩])
    (.cond (.tmp 186)
      (.seq (.region [
        ⟨(some 4), .mv (.const (.bool false)), none⟩])
      (.ret))
      (.skip)))))
    (.region [
      ⟨(some 187), .bin .add (.tmp 180) (.const (.int .i64 1)), none⟩,
      ⟨(some 180), .mv (.tmp 187), none⟩])))))))
  (.seq (.region [
    ⟨(some 188), .mv (.tmp 6), none⟩,
    ⟨(some 189), .mv (.tmp 5), none⟩,
    ⟨(some 190), .bin .add (.tmp 189) (.const (.int .i64 3)), none⟩,
    ⟨(some 191), .call 41 [(.tmp 188), (.tmp 190)], none⟩,
    ⟨(some 192), .bin .eql (.tmp 191) (.const (.int .u64 0)), none⟩,
    ⟨(some 193), .mv (.tmp 192), none⟩,
    ⟨(some 194), .mv (.tmp 6), (some (193, true))⟩,
    ⟨(some 195), .mv (.tmp 5), (some (193, true))⟩,
    ⟨(some 196), .bin .add (.tmp 195) (.const (.int .i64 4)), (some (193, true))⟩,
    ⟨(some 197), .call 41 [(.tmp 194), (.tmp 196)], (some (193, true))⟩,
    ⟨(some 198), .bin .eql (.tmp 197) (.const (.int .u64 0)), (some (193, true))⟩,
    ⟨(some 199), .pick (.tmp 193) (.tmp 198) (.const (.bool false)), none⟩,
    ⟨(some 4), .mv (.tmp 199), none⟩])
  (.ret))))))))), none⟩

/-- 'hostler/hostlerlaw17.ModelAnother' -/
def F10 : AFunc := ⟨77, [.tmp 2],
  .seq (.region [
    ⟨(some 2), .mv (.const (.bool false)), none⟩])
  (.seq (.seq (.region [
    ⟨(some 12), .call 42 [], none⟩,
    ⟨(some 13), .un .not (.tmp 12), none⟩,
    ⟨(some 14), .mv (.tmp 13), none⟩,
    ⟨(some 15), .mv (.tmp 0), (some (14, false))⟩,
    ⟨(some 16), .lenS (.tmp 15), (some (14, false))⟩,
    ⟨(some 17), .bin .gtr (.tmp 16) (.const (.int .i64 30)), (some (14, false))⟩,
    ⟨(some 18), .pick (.tmp 14) (.const (.bool true)) (.tmp 17), none⟩])
  (.cond (.tmp 18)
    (.seq (.region [
      ⟨(some 19), .call 42 [], none⟩,
      ⟨(some 2), .mv (.tmp 19), none⟩])
    (.ret))
    (.skip)))
  (.seq (.region [
    ⟨(some 20), .call 43 [(.const (.int .i64 2)), (.const (.int .i64 2)), (.const (.int .i64 2))], none⟩,
    ⟨(some 21), .call 43 [(.const (.int .i64 2)), (.const (.int .i64 2)), (.const (.int .i64 2))], none⟩,
    ⟨(some 3), .mv (.tmp 20), none⟩,
    ⟨(some 4), .mv (.tmp 21), none⟩])
  (.seq (.region [
    ⟨(some 22), .mv (.tmp 4), none⟩,
    ⟨(some 23), .build [(.int .i64 0), (.int .i64 0), (.int .i64 0), (.int .i64 0), (.int .i64 0)] [((1, 1), (.const (.int .i64 1))), ((2, 1), (.const (.int .i64 (-1)))), ((3, 1), (.const (.int .i64 (-1))))], none⟩,
    ⟨(some 24), .call 44 [(.tmp 22), (.tmp 23)], none⟩])
  (.seq (.region [
    ⟨(some 25), .mv (.tmp 4), none⟩,
    ⟨(some 26), .build [(.int .i64 0), (.int .i64 0), (.int .i64 0), (.int .i64 0), (.int .i64 0)] [((0, 1), (.const (.int .i64 2))), ((1, 1), (.const (.int .i64 1))), ((2, 1), (.const (.int .i64 1))), ((3, 1), (.const (.int .i64 1)))], none⟩,
    ⟨(some 27), .call 44 [(.tmp 25), (.tmp 26)], none⟩])
  (.seq (.seq (.region [
    ⟨(some 28), .mv (.tmp 0), none⟩,
    ⟨(some 29), .lenS (.tmp 28), none⟩,
    ⟨(some 30), .mv (.const (.int .i64 0)), none⟩])
  (.block 0 (.loop (.seq (.region [
      ⟨(some 31), .bin .lss (.tmp 30) (.tmp 29), none⟩])
    (.seq (.cond (.tmp 31)
      (.skip)
      (.exit 0))
    (.seq (.block 1 (.seq (.region [
      ⟨(some 32), .idxAddr 1 none (.tmp 28) (.tmp 30), none⟩,
      ⟨(some 33), .load1 (.tmp 32), none⟩,
      ⟨(some 6), .mv (.tmp 33), none⟩])
    (.seq (.region [
      ⟨(some 34), .mv (.tmp 6), none⟩,
      ⟨(some 35), .bin .rem (.tmp 34) (.const (.int .u8 8)), none⟩,
      ⟨(some 36), .toInt .i64 (.tmp 35), none⟩,
      ⟨(some 37), .build [(.int .i64 0), (.int .i64 0), (.int .i64 0), (.int .i64 0), (.int .i64 0)] [((0, 1), (.tmp 36))], none⟩,
      ⟨(some 7), .alloc [(.int .i64 0), (.int .i64 0), (.int .i64 0), (.int .i64 0), (.int .i64 0)], none⟩,
      ⟨none, .store 5 (.tmp 7) (.tmp 37), none⟩])
    (.seq (.region [
      ⟨(some 39), .mv (.tmp 3), none⟩,
      ⟨(some 40), .loadN 5 (.tmp 7), none⟩,
      ⟨(some 41), .call 44 [(.tmp 39), (.tmp 40)], none⟩,
      ⟨(some 38), .mv (.tmp 41), none⟩,
      ⟨(some 42), .extract 0 (.tmp 38), none⟩,
      ⟨(some 43), .extract 1 (.tmp 38), none⟩,
      ⟨(some 8), .mv (.tmp 42), none⟩,
      ⟨(some 9), .mv (.tmp 43), none⟩])
    (.seq (.region [
      ⟨(some 45), .mv (.tmp 4), none⟩,
      ⟨(some 46), .loadN 5 (.tmp 7), none⟩,
      ⟨(some 47), .call 44 [(.tmp 45), (.tmp 46)], none⟩,
      ⟨(some 44), .mv (.tmp 47), none⟩,
      ⟨(some 48), .extract 0 (.tmp 44), none⟩,
      ⟨(some 49), .extract 1 (.tmp 44), none⟩,
      ⟨(some 10), .mv (.tmp 48), none⟩,
      ⟨(some 11), .mv (.tmp 49), none⟩])
    (.seq (.region [
      ⟨(some 50), .mv (.tmp 8), none⟩,
      ⟨(some 51), .mv (.tmp 10), none⟩,
      ⟨(some 52), .bin .neq (.tmp 50) (.tmp 51), none⟩,
      ⟨(some 53), .mv (.tmp 52), none⟩,
      ⟨(some 54), .mv (.tmp 9), (some (53, false))⟩,
      ⟨(some 55), .mv (.tmp 11), (some (53, false))⟩,
      ⟨(some 56), .eqBool true (.tmp 54) (.tmp 55), (some (53, false))⟩,
      ⟨(some 57), .pick (.tmp 53) (.const (.bool true)) (.tmp 56), none⟩,
      ⟨(some 58), .mv (.tmp 57), none⟩,
      ⟨(some 59), .mv (.tmp 3), (some (58, false))⟩,
      ⟨(some 60), .call 45 [(.tmp 59), (.const (.int .i64 0))], (some (58, false))⟩,
      ⟨(some 61), .mv (.tmp 4), (some (58, false))⟩,
      ⟨(some 62), .call 45 [(.tmp 61), (.const (.int .i64 0))], (some (58, false))⟩,
      ⟨(some 63), .bin .neq (.tmp 60) (.tmp 62), (some (58, false))⟩,
      ⟨(some 64), .pick (.tmp 58) (.const (.bool true)) (.tmp 63), none⟩,
      ⟨(some 65), .mv (.tmp 64), none⟩,
      ⟨(some 66), .mv (.tmp 4), (some (65, false))⟩,
      ⟨(some 67), .call 45 [(.tmp 66), (.const (.int .i64 1))], (some (65, false))⟩,
      ⟨(some 68), .bin .neq (.tmp 67) (.const (.int .u64 2)), (some (65, false))⟩,
      ⟨(some 69), .pick (.tmp 65) (.const (.bool true)) (.tmp 68), none⟩])
    (.cond (.tmp 69)
      (.seq (.region [
        ⟨(some 2), .mv (.const (.bool false)), none⟩])
      (.ret))
      (.skip))))))))
    (.region [
      ⟨(some 70), .bin .add (.tmp 30) (.const (.int .i64 1)), none⟩,
      ⟨(some 30), .mv (.tmp 70), none⟩])))))))
  (.seq (.region [
    ⟨(some 71), .mv (.tmp 4), none⟩,
    ⟨(some 72), .call 46 [(.tmp 71)], none⟩,
    ⟨(some 73), .mv (.tmp 3), none⟩,
    ⟨(some 74), .call 46 [(.tmp 73)], none⟩,
    ⟨(some 75), .bin .add (.tmp 74) (.const (.int .i64 1)), none⟩,
    ⟨(some 76), .bin .eql (.tmp 72) (.tmp 75), none⟩,
    ⟨(some 2), .mv (.tmp 76), none⟩])
  (.ret))))))), none⟩

/-- 'hostler/hostlerlaw17.ModelBounds' -/
def F11 : AFunc := ⟨125, [.tmp 6],
  .seq (.region [
    ⟨(some 6), .mv (.const (.bool false)), none⟩])
  (.seq (.seq (.region [
    ⟨(some 20), .call 42 [], none⟩,
    ⟨(some 21), .un .not (.tmp 20), none⟩,
    ⟨(some 22), .mv (.tmp 21), none⟩,
    ⟨(some 23), .mv (.tmp 2), (some (22, false))⟩,
    ⟨(some 24), .lenS (.tmp 23), (some (22, false))⟩,
    ⟨(some 25), .bin .gtr (.tmp 24) (.const (.int .i64 60)), (some (22, false))⟩,
    ⟨(some 26), .pick (.tmp 22) (.const (.bool true)) (.tmp 25), none⟩])
  (.cond (.tmp 26)
    (.seq (.region [
      ⟨(some 27), .call 42 [], none⟩,
      ⟨(some 6), .mv (.tmp 27), none⟩])
    (.ret))
    (.skip)))
  (.seq (.region [
    ⟨(some 28), .mv (.tmp 0), none⟩,
    ⟨(some 29), .bin .rem (.tmp 28) (.const (.int .u8 5)), none⟩,
    ⟨(some 30), .toInt .i64 (.tmp 29), none⟩,
    ⟨(some 31), .mv (.tmp 1), none⟩,
    ⟨(some 32), .bin .rem (.tmp 31) (.const (.int .u8 6)), none⟩,
    ⟨(some 33), .toInt .i64 (.tmp 32), none⟩,
    ⟨(some 7), .mv (.tmp 30), none⟩,
    ⟨(some 8), .mv (.tmp 33), none⟩])
  (.seq (.region [
    ⟨(some 34), .mv (.tmp 7), none⟩,
    ⟨(some 35), .mv (.tmp 8), none⟩,
    ⟨(some 36), .call 43 [(.tmp 34), (.tmp 35), (.const (.int .i64 8))], none⟩,
    ⟨(some 9), .mv (.tmp 36), none⟩])
  (.seq (.seq (.region [
    ⟨(some 37), .mv (.tmp 2), none⟩,
    ⟨(some 38), .lenS (.tmp 37), none⟩,
    ⟨(some 39), .mv (.const (.int .i64 0)), none⟩])
  (.block 0 (.loop (.seq (.region [
      ⟨(some 40), .bin .lss (.tmp 39) (.tmp 38), none⟩])
    (.seq (.cond (.tmp 40)
      (.skip)
      (.exit 0))
    (.seq (.block 1 (.seq (.region [
      ⟨(some 41), .idxAddr 5 none (.tmp 37) (.tmp 39), none⟩,
      ⟨(some 42), .loadN 5 (.tmp 41), none⟩,
      ⟨(some 11), .alloc [(.int .i64 0), (.int .i64 0), (.int .i64 0), (.int .i64 0), (.int .i64 0)], none⟩,
      ⟨none, .store 5 (.tmp 11) (.tmp 42), none⟩])
    (.seq (.region [
      ⟨(some 43), .mv (.tmp 9), none⟩,
      ⟨(some 44), .loadN 5 (.tmp 11), none⟩,
      ⟨(some 45), .call 44 [(.tmp 43), (.tmp 44)], none⟩])
    (.seq (.region [
      ⟨(some 46), .mkmap, none⟩,
      ⟨(some 47), .mkmap, none⟩,
      ⟨(some 12), .mv (.tmp 46), none⟩,
      ⟨(some 13), .mv (.tmp 47), none⟩])
    (.seq (.seq (.region [
      ⟨(some 48), .mv (.tmp 8), none⟩,
      ⟨(some 49), .mv (.const (.int .i64 0)), none⟩])
    (.block 2 (.loop (.seq (.region [
        ⟨(some 50), .bin .lss (.tmp 49) (.tmp 48), none⟩])
      (.seq (.cond (.tmp 50)
        (.skip)
        (.exit 2))
      (.seq (.block 3 (.seq (.region [
        ⟨(some 51), .mv (.tmp 49), none⟩,
        ⟨(some 14), .mv (.tmp 51), none⟩])
      (.seq (.region [
        ⟨(some 53), .mv (.tmp 9), none⟩,
        ⟨(some 54), .mv (.tmp 14), none⟩,
        ⟨(some 55), .call 47 [(.tmp 53), (.tmp 54)], none⟩,
        ⟨(some 52), .mv (.tmp 55), none⟩,
        ⟨(some 56), .extract 0 (.tmp 52), none⟩,
        ⟨(some 57), .extract 1 (.tmp 52), none⟩,
        ⟨(some 58), .extract 2 (.tmp 52), none⟩,
        ⟨(some 15), .mv (.tmp 56), none⟩,
        ⟨(some 16), .mv (.tmp 57), none⟩,
        ⟨(some 17), .mv (.tmp 58), none⟩])
      (.seq (.region [
        ⟨(some 59), .mv (.tmp 17), none⟩])
      (.cond (.tmp 59)
        (.seq (.region [
          ⟨(some 60), .mv (.tmp 12), none⟩,
          ⟨(some 61), .mv (.tmp 15), none⟩,
          ⟨(some 62), .lookup (.int .i64 0) false (.tmp 60) (.tmp 61), none⟩,
          ⟨(some 63), .bin .add (.tmp 62) (.const (.int .i64 1)), none⟩,
          ⟨none, .mapUpdate (.tmp 60) (.tmp 61) (.tmp 63), none⟩])
        (.seq (.region [
          ⟨(some 64), .mv (.tmp 13), none⟩,
          ⟨(some 65), .mv (.tmp 16), none⟩,
          ⟨(some 66), .lookup (.int .i64 0) false (.tmp 64) (.tmp 65), none⟩,
          ⟨(some 67), .bin .add (.tmp 66) (.const (.int .i64 1)), none⟩,
          ⟨none, .mapUpdate (.tmp 64) (.tmp 65) (.tmp 67), none⟩])
        (.seq (.region [
          ⟨(some 68), .mv (.tmp 9), none⟩,
          ⟨(some 69), .mv (.tmp 15), none⟩,
          ⟨(some 70), .call 45 [(.tmp 68), (.tmp 69)], none⟩,
          ⟨(some 71), .bin .neq (.tmp 70) (.const (.int .u64 2)), none⟩,
          ⟨(some 72), .mv (.tmp 71), none⟩,
          ⟨(some 73), .mv (.tmp 12), (some (72, false))⟩,
          ⟨(some 74), .mv (.tmp 15), (some (72, false))⟩,
          ⟨(some 75), .lookup (.int .i64 0) false (.tmp 73) (.tmp 74), (some (72, false))⟩,
          ⟨(some 76), .bin .gtr (.tmp 75) (.const (.int .i64 1)), (some (72, false))⟩,
          ⟨(some 77), .pick (.tmp 72) (.const (.bool true)) (.tmp 76), none⟩,
          ⟨(some 78), .mv (.tmp 77), none⟩,
          ⟨(some 79), .mv (.tmp 13), (some (78, false))⟩,
          ⟨(some 80), .mv (.tmp 16), (some (78, false))⟩,
          ⟨(some 81), .lookup (.int .i64 0) false (.tmp 79) (.tmp 80), (some (78, false))⟩,
          ⟨(some 82), .bin .gtr (.tmp 81) (.const (.int .i64 1)), (some (78, false))⟩,
          ⟨(some 83), .pick (.tmp 78) (.const (.bool true)) (.tmp 82), none⟩,
          ⟨(some 84), .mv (.tmp 83), none⟩,
          ⟨(some 85), .mv (.tmp 16), (some (84, false))⟩,
          ⟨(some 86), .bin .lss (.tmp 85) (.const (.int .i64 0)), (some (84, false))⟩,
          ⟨(some 87), .pick (.tmp 84) (.const (.bool true)) (.tmp 86), none⟩,
          ⟨(some 88), .mv (.tmp 87), none⟩,
          ⟨(some 89), .mv (.tmp 16), (some (88, false))⟩,
          ⟨(some 90), .mv (.tmp 7), (some (88, false))⟩,
          ⟨(some 91), .bin .geq (.tmp 89) (.tmp 90), (some (88, false))⟩,
          ⟨(some 92), .pick (.tmp 88) (.const (.bool true)) (.tmp 91), none⟩])
        (.cond (.tmp 92)
          (.seq (.region [
            ⟨(some 6), .mv (.const (.bool false)), none⟩])
          (.ret))
          (.skip)))))
        (.skip))))))
      (.region [
        ⟨(some 93), .bin .add (.tmp 49) (.const (.int .i64 1)), none⟩,
        ⟨(some 49), .mv (.tmp 93), none⟩])))))))
    (.seq (.region [
      ⟨(some 18), .mv (.const (.int .i64 0)), none⟩])
    (.seq (.seq (.region [
      ⟨(some 94), .mv (.const (.int .i64 0)), none⟩])
    (.block 4 (.loop (.seq (.region [
        ⟨(some 95), .bin .lss (.tmp 94) (.const (.int .i64 8)), none⟩])
      (.seq (.cond (.tmp 95)
        (.skip)
        (.exit 4))
      (.seq (.block 5 (.seq (.region [
        ⟨(some 96), .mv (.tmp 94), none⟩,
        ⟨(some 19), .mv (.tmp 96), none⟩])
      (.seq (.region [
        ⟨(some 97), .mv (.tmp 9), none⟩,
        ⟨(some 98), .mv (.tmp 19), none⟩,
        ⟨(some 99), .call 45 [(.tmp 97), (.tmp 98)], none⟩,
        ⟨(some 100), .bin .eql (.tmp 99) (.const (.int .u64 2)), none⟩])
      (.cond (.tmp 100)
        (.region [
          ⟨(some 101), .mv (.tmp 18), none⟩,
          ⟨(some 102), .bin .add (.tmp 101) (.const (.int .i64 1)), none⟩,
          ⟨(some 18), .mv (.tmp 102), none⟩])
        (.skip)))))
      (.region [
        ⟨(some 103), .bin .add (.tmp 94) (.const (.int .i64 1)), none⟩,
        ⟨(some 94), .mv (.tmp 103), none⟩])))))))
    (.seq (.region [
      ⟨(some 104), .mv (.tmp 18), none⟩,
      ⟨(some 105), .mv (.tmp 12), none⟩,
      ⟨(some 106), .lenM (.tmp 105), none⟩,
      ⟨(some 107), .bin .neq (.tmp 104) (.tmp 106), none⟩,
      ⟨(some 108), .mv (.tmp 107), none⟩,
      ⟨(some 109), .mv (.tmp 9), (some (108, false))⟩,
      ⟨(some 110), .call 46 [(.tmp 109)], (some (108, false))⟩,
      ⟨(some 111), .mv (.tmp 18), (some (108, false))⟩,
      ⟨(some 112), .bin .neq (.tmp 110) (.tmp 111), (some (108, false))⟩,
      ⟨(some 113), .pick (.tmp 108) (.const (.bool true)) (.tmp 112), none⟩,
      ⟨(some 114), .mv (.tmp 113), none⟩,
      ⟨(some 115), .mv (.tmp 18), (some (114, false))⟩,
      ⟨(some 116), .mv (.tmp 7), (some (114, false))⟩,
      ⟨(some 117), .bin .gtr (.tmp 115) (.tmp 116), (some (114, false))⟩,
      ⟨(some 118), .pick (.tmp 114) (.const (.bool true)) (.tmp 117), none⟩,
      ⟨(some 119), .mv (.tmp 118), none⟩,
      ⟨(some 120), .mv (.tmp 18), (some (119, false))⟩,
      ⟨(some 121), .mv (.tmp 8), (some (119, false))⟩,
      ⟨(some 122), .bin .gtr (.tmp 120) (.tmp 121), (some (119, false))⟩,
      ⟨(some 123), .pick (.tmp 119) (.const (.bool true)) (.tmp 122), none⟩])
    (.cond (.tmp 123)
      (.seq (.region [
        ⟨(some 6), .mv (.const (.bool false)), none⟩])
      (.ret))
      (.skip))))))))))
    (.region [
      ⟨(some 124), .bin .add (.tmp 39) (.const (.int .i64 1)), none⟩,
      ⟨(some 39), .mv (.tmp 124), none⟩])))))))
  (.seq (.region [
    ⟨(some 6), .mv (.const (.bool true)), none⟩])
  (.ret)))))), none⟩

/-- 'hostler/hostlerlaw17.ModelKeeps' -/
def F12 : AFunc := ⟨97, [.tmp 2],
  .seq (.region [
    ⟨(some 2), .mv (.const (.bool false)), none⟩])
  (.seq (.seq (.region [
    ⟨(some 14), .call 42 [], none⟩,
    ⟨(some 15), .un .not (.tmp 14), none⟩,
    ⟨(some 16), .mv (.tmp 15), none⟩,
    ⟨(some 17), .mv (.tmp 0), (some (16, false))⟩,
    ⟨(some 18), .lenS (.tmp 17), (some (16, false))⟩,
    ⟨(some 19), .bin .gtr (.tmp 18) (.const (.int .i64 60)), (some (16, false))⟩,
    ⟨(some 20), .pick (.tmp 16) (.const (.bool true)) (.tmp 19), none⟩])
  (.cond (.tmp 20)
    (.seq (.region [
      ⟨(some 21), .call 42 [], none⟩,
      ⟨(some 2), .mv (.tmp 21), none⟩])
    (.ret))
    (.skip)))
  (.seq (.region [
    ⟨(some 22), .call 43 [(.const (.int .i64 3)), (.const (.int .i64 3)), (.const (.int .i64 6))], none⟩,
    ⟨(some 3), .mv (.tmp 22), none⟩])
  (.seq (.seq (.region [
    ⟨(some 23), .mv (.tmp 0), none⟩,
    ⟨(some 24), .lenS (.tmp 23), none⟩,
    ⟨(some 25), .mv (.const (.int .i64 0)), none⟩])
  (.block 0 (.loop (.seq (.region [
      ⟨(some 26), .bin .lss (.tmp 25) (.tmp 24), none⟩])
    (.seq (.cond (.tmp 26)
      (.skip)
      (.exit 0))
    (.seq (.block 1 (.seq (.region [
      ⟨(some 27), .idxAddr 5 none (.tmp 23) (.tmp 25), none⟩,
      ⟨(some 28), .loadN 5 (.tmp 27), none⟩,
      ⟨(some 5), .alloc [(.int .i64 0), (.int .i64 0), (.int .i64 0), (.int .i64 0), (.int .i64 0)], none⟩,
      ⟨none, .store 5 (.tmp 5) (.tmp 28), none⟩])
    (.seq (.region [
      ⟨(some 6), .alloc [(.int .u64 0), (.int .u64 0), (.int .u64 0), (.int .u64 0), (.int .u64 0), (.int .u64 0)], none⟩])
    (.seq (.seq (.region [
      ⟨(some 29), .mv (.const (.int .i64 0)), none⟩])
    (.block 2 (.loop (.seq (.region [
        ⟨(some 30), .bin .lss (.tmp 29) (.const (.int .i64 6)), none⟩])
      (.seq (.cond (.tmp 30)
        (.skip)
        (.exit 2))
      (.seq (.block 3 (.seq (.region [
        ⟨(some 31), .mv (.tmp 29), none⟩,
        ⟨(some 7), .mv (.tmp 31), none⟩])
      (.region [
        ⟨(some 32), .mv (.tmp 7), none⟩,
        ⟨(some 33), .mv (.tmp 3), none⟩,
        ⟨(some 34), .mv (.tmp 7), none⟩,
        ⟨(some 35), .call 45 [(.tmp 33), (.tmp 34)], none⟩,
        ⟨(some 36), .idxAddr 1 (some 6) (.tmp 6) (.tmp 32), none⟩,
        ⟨none, .store 1 (.tmp 36) (.tmp 35), none⟩])))
      (.region [
        ⟨(some 37), .bin .add (.tmp 29) (.const (.int .i64 1)), none⟩,
        ⟨(some 29), .mv (.tmp 37), none⟩])))))))
    (.seq (.region [
      ⟨(some 39), .mv (.tmp 3), none⟩,
      ⟨(some 40), .loadN 5 (.tmp 5), none⟩,
      ⟨(some 41), .call 44 [(.tmp 39), (.tmp 40)], none⟩,
      ⟨(some 38), .mv (.tmp 41), none⟩,
      ⟨(some 42), .extract 0 (.tmp 38), none⟩,
      ⟨(some 43), .extract 1 (.tmp 38), none⟩,
      ⟨(some 8), .mv (.tmp 42), none⟩,
      ⟨(some 9), .mv (.tmp 43), none⟩])
    (.seq (.seq (.region [
      ⟨(some 44), .mv (.const (.int .i64 0)), none⟩])
    (.block 4 (.loop (.seq (.region [
        ⟨(some 45), .bin .lss (.tmp 44) (.const (.int .i64 6)), none⟩])
      (.seq (.cond (.tmp 45)
        (.skip)
        (.exit 4))
      (.seq (.block 5 (.seq (.region [
        ⟨(some 46), .mv (.tmp 44), none⟩,
        ⟨(some 10), .mv (.tmp 46), none⟩])
      (.seq (.region [
        ⟨(some 47), .mv (.tmp 3), none⟩,
        ⟨(some 48), .mv (.tmp 10), none⟩,
        ⟨(some 49), .call 45 [(.tmp 47), (.tmp 48)], none⟩,
        ⟨(some 11), .mv (.tmp 49), none⟩])
      (.seq (.region [
        ⟨(some 50), .mv (.tmp 9), none⟩,
        ⟨(some 51), .un .not (.tmp 50), none⟩,
        ⟨(some 52), .mv (.tmp 51), none⟩,
        ⟨(some 53), .mv (.tmp 10), (some (52, false))⟩,
        ⟨(some 54), .fieldAddr 1 (.tmp 5), (some (52, false))⟩,
        ⟨(some 55), .load1 (.tmp 54), (some (52, false))⟩,
        ⟨(some 56), .bin .neq (.tmp 53) (.tmp 55), (some (52, false))⟩,
        ⟨(some 57), .pick (.tmp 52) (.const (.bool true)) (.tmp 56), none⟩,
        ⟨(some 58), .mv (.tmp 57), none⟩,
        ⟨(some 59), .mv (.tmp 11), (some (58, true))⟩,
        ⟨(some 60), .mv (.tmp 10), (some (58, true))⟩,
        ⟨(some 61), .idxAddr 1 (some 6) (.tmp 6) (.tmp 60), (some (58, true))⟩,
        ⟨(some 62), .load1 (.tmp 61), (some (58, true))⟩,
        ⟨(some 63), .bin .neq (.tmp 59) (.tmp 62), (some (58, true))⟩,
        ⟨(some 64), .pick (.tmp 58) (.tmp 63) (.const (.bool false)), none⟩,
        ⟨(some 65), .mv (.tmp 64), none⟩,
        ⟨(some 66), .mv (.tmp 9), (some (65, false))⟩,
        ⟨(some 67), .mv (.tmp 66), (some (65, false))⟩,
        ⟨(some 68), .mv (.tmp 10), (some (67, true))⟩,
        ⟨(some 69), .fieldAddr 1 (.tmp 5), (some (67, true))⟩,
        ⟨(some 70), .load1 (.tmp 69), (some (67, true))⟩,
        ⟨(some 71), .bin .eql (.tmp 68) (.tmp 70), (some (67, true))⟩,
        ⟨(some 72), .pick (.tmp 67) (.tmp 71) (.const (.bool false)), (some (65, false))⟩,
        ⟨(some 73), .mv (.tmp 72), (some (65, false))⟩,
        ⟨(some 74), .mv (.tmp 10), (some (73, true))⟩,
        ⟨(some 75), .idxAddr 1 (some 6) (.tmp 6) (.tmp 74), (some (73, true))⟩,
        ⟨(some 76), .load1 (.tmp 75), (some (73, true))⟩,
        ⟨(some 77), .mv (.tmp 11), (some (73, true))⟩,
        ⟨(some 78), .call 15 [(.tmp 76), (.tmp 77)], (some (73, true))⟩,
        ⟨(some 79), .un .not (.tmp 78), (some (73, true))⟩,
        ⟨(some 80), .pick (.tmp 73) (.tmp 79) (.const (.bool false)), (some (65, false))⟩,
        ⟨(some 81), .pick (.tmp 65) (.const (.bool true)) (.tmp 80), none⟩])
      (.cond (.tmp 81)
        (.seq (.region [
          ⟨(some 2), .mv (.const (.bool false)), none⟩])
        (.ret))
        (.skip))))))
      (.region [
        ⟨(some 82), .bin .add (.tmp 44) (.const (.int .i64 1)), none⟩,
        ⟨(some 44), .mv (.tmp 82), none⟩])))))))
    (.seq (.seq (.region [
      ⟨(some 83), .mv (.tmp 9), none⟩])
    (.cond (.tmp 83)
      (.exit 1)
      (.skip)))
    (.seq (.region [
      ⟨(some 85), .mv (.tmp 3), none⟩,
      ⟨(some 86), .loadN 5 (.tmp 5), none⟩,
      ⟨(some 87), .call 44 [(.tmp 85), (.tmp 86)], none⟩,
      ⟨(some 84), .mv (.tmp 87), none⟩,
      ⟨(some 88), .extract 0 (.tmp 84), none⟩,
      ⟨(some 89), .extract 1 (.tmp 84), none⟩,
      ⟨(some 12), .mv (.tmp 88), none⟩,
      ⟨(some 13), .mv (.tmp 89), none⟩])
    (.seq (.region [
      ⟨(some 90), .mv (.tmp 13), none⟩,
      ⟨(some 91), .mv (.tmp 90), none⟩,
      ⟨(some 92), .mv (.tmp 12), (some (91, false))⟩,
      ⟨(some 93), .mv (.tmp 8), (some (91, false))⟩,
      ⟨(some 94), .bin .neq (.tmp 92) (.tmp 93), (some (91, false))⟩,
      ⟨(some 95), .pick (.tmp 91) (.const (.bool true)) (.tmp 94), none⟩])
    (.cond (.tmp 95)
      (.seq (.region [
        ⟨(some 2), .mv (.const (.bool false)), none⟩])
      (.ret))
      (.skip)))))))))))
    (.region [
      ⟨(some 96), .bin .add (.tmp 25) (.const (.int .i64 1)), none⟩,
      ⟨(some 25), .mv (.tmp 96), none⟩])))))))
  (.seq (.region [
    ⟨(some 2), .mv (.const (.bool true)), none⟩])
  (.ret))))), none⟩

/-- 'hostler/hostlerlaw17.ModelPlays' -/
def F13 : AFunc := ⟨219, [.tmp 8],
  .seq (.region [
    ⟨(some 8), .mv (.const (.bool false)), none⟩])
  (.seq (.seq (.region [
    ⟨(some 33), .call 42 [], none⟩,
    ⟨(some 34), .un .not (.tmp 33), none⟩,
    ⟨(some 35), .mv (.tmp 34), none⟩,
    ⟨(some 36), .mv (.tmp 3), (some (35, false))⟩,
    ⟨(some 37), .lenS (.tmp 36), (some (35, false))⟩,
    ⟨(some 38), .bin .gtr (.tmp 37) (.const (.int .i64 40)), (some (35, false))⟩,
    ⟨(some 39), .pick (.tmp 35) (.const (.bool true)) (.tmp 38), none⟩,
    ⟨(some 40), .mv (.tmp 39), none⟩,
    ⟨(some 41), .mv (.tmp 1), (some (40, false))⟩,
    ⟨(some 42), .bin .gtr (.tmp 41) (.const (.int .i64 8)), (some (40, false))⟩,
    ⟨(some 43), .pick (.tmp 40) (.const (.bool true)) (.tmp 42), none⟩,
    ⟨(some 44), .mv (.tmp 43), none⟩,
    ⟨(some 45), .mv (.tmp 2), (some (44, false))⟩,
    ⟨(some 46), .bin .gtr (.tmp 45) (.const (.int .i64 30)), (some (44, false))⟩,
    ⟨(some 47), .pick (.tmp 44) (.const (.bool true)) (.tmp 46), none⟩])
  (.cond (.tmp 47)
    (.seq (.region [
      ⟨(some 48), .call 42 [], none⟩,
      ⟨(some 8), .mv (.tmp 48), none⟩])
    (.ret))
    (.skip)))
  (.seq (.region [
    ⟨(some 49), .mv (.tmp 0), none⟩,
    ⟨(some 50), .mv (.tmp 1), none⟩,
    ⟨(some 51), .mv (.tmp 2), none⟩,
    ⟨(some 52), .call 43 [(.tmp 49), (.tmp 50), (.tmp 51)], none⟩,
    ⟨(some 9), .mv (.tmp 52), none⟩])
  (.seq (.region [
    ⟨(some 53), .mv (.tmp 0), none⟩,
    ⟨(some 54), .max2 (.const (.int .i64 0)) (.tmp 53), none⟩,
    ⟨(some 55), .mv (.tmp 1), none⟩,
    ⟨(some 56), .max2 (.const (.int .i64 0)) (.tmp 55), none⟩,
    ⟨(some 57), .mv (.tmp 2), none⟩,
    ⟨(some 58), .max2 (.const (.int .i64 0)) (.tmp 57), none⟩,
    ⟨(some 10), .mv (.tmp 54), none⟩,
    ⟨(some 11), .mv (.tmp 56), none⟩,
    ⟨(some 12), .mv (.tmp 58), none⟩])
  (.seq (.region [
    ⟨(some 13), .mv (.const .nilslice), none⟩])
  (.seq (.region [
    ⟨(some 14), .mv (.const .nilslice), none⟩])
  (.seq (.seq (.region [
    ⟨(some 59), .mv (.tmp 3), none⟩,
    ⟨(some 60), .lenS (.tmp 59), none⟩,
    ⟨(some 61), .mv (.const (.int .i64 0)), none⟩])
  (.block 0 (.loop (.seq (.region [
      ⟨(some 62), .bin .lss (.tmp 61) (.tmp 60), none⟩])
    (.seq (.cond (.tmp 62)
      (.skip)
      (.exit 0))
    (.seq (.block 1 (.seq (.region [
      ⟨(some 63), .mv (.tmp 61), none⟩,
      ⟨(some 64), .idxAddr 5 none (.tmp 59) (.tmp 61), none⟩,
      ⟨(some 65), .loadN 5 (.tmp 64), none⟩,
      ⟨(some 16), .alloc [(.int .i64 0), (.int .i64 0), (.int .i64 0), (.int .i64 0), (.int .i64 0)], none⟩,
      ⟨(some 15), .mv (.tmp 63), none⟩,
      ⟨none, .store 5 (.tmp 16) (.tmp 65), none⟩])
    (.seq (.region [
      ⟨(some 66), .mv (.tmp 10), none⟩,
      ⟨(some 67), .mv (.tmp 11), none⟩,
      ⟨(some 68), .mv (.tmp 12), none⟩,
      ⟨(some 69), .mv (.tmp 13), none⟩,
      ⟨(some 70), .loadN 5 (.tmp 16), none⟩,
      ⟨(some 71), .call 25 [(.tmp 70)], none⟩,
      ⟨(some 72), .call 48 [(.tmp 66), (.tmp 67), (.tmp 68), (.tmp 69), (.tmp 71)], none⟩,
      ⟨(some 17), .mv (.tmp 72), none⟩])
    (.seq (.region [
      ⟨(some 74), .mv (.tmp 9), none⟩,
      ⟨(some 75), .loadN 5 (.tmp 16), none⟩,
      ⟨(some 76), .call 44 [(.tmp 74), (.tmp 75)], none⟩,
      ⟨(some 73), .mv (.tmp 76), none⟩,
      ⟨(some 77), .extract 0 (.tmp 73), none⟩,
      ⟨(some 78), .extract 1 (.tmp 73), none⟩,
      ⟨(some 18), .mv (.tmp 77), none⟩,
      ⟨(some 19), .mv (.tmp 78), none⟩])
    (.seq (.seq (.region [
      ⟨(some 79), .mv (.tmp 19), none⟩,
      ⟨(some 80), .mv (.tmp 17), none⟩,
      ⟨(some 81), .bin .lss (.tmp 80) (.const (.int .i64 0)), none⟩,
      ⟨(some 82), .eqBool true (.tmp 79) (.tmp 81), none⟩,
      ⟨(some 83), .mv (.tmp 82), none⟩,
      ⟨(some 84), .mv (.tmp 19), (some (83, false))⟩,
      ⟨(some 85), .un .not (.tmp 84), (some (83, false))⟩,
      ⟨(some 86), .mv (.tmp 85), (some (83, false))⟩,
      ⟨(some 87), .mv (.tmp 18), (some (86, true))⟩,
      ⟨(some 88), .toInt .i64 (.tmp 87), (some (86, true))⟩,
      ⟨(some 89), .mv (.tmp 17), (some (86, true))⟩,
      ⟨(some 90), .bin .neq (.tmp 88) (.tmp 89), (some (86, true))⟩,
      ⟨(some 91), .pick (.tmp 86) (.tmp 90) (.const (.bool false)), (some (83, false))⟩,
      ⟨(some 92), .pick (.tmp 83) (.const (.bool true)) (.tmp 91), none⟩,
      ⟨(some 93), .mv (.tmp 92), none⟩,
      ⟨(some 94), .mv (.tmp 19), (some (93, false))⟩,
      ⟨(some 95), .mv (.tmp 94), (some (93, false))⟩,
      ⟨(some 96), .mv (.tmp 18), (some (95, true))⟩,
      ⟨(some 97), .bin .neq (.tmp 96) (.const (.int .u8 0)), (some (95, true))⟩,
      ⟨(some 98), .pick (.tmp 95) (.tmp 97) (.const (.bool false)), (some (93, false))⟩,
      ⟨(some 99), .pick (.tmp 93) (.const (.bool true)) (.tmp 98), none⟩])
    (.cond (.tmp 99)
      (.seq (.region [
        ⟨(some 8), .mv (.const (.bool false)), none⟩])
      (.ret))
      (.skip)))
    (.seq (.seq (.region [
      ⟨(some 100), .mv (.tmp 19), none⟩])
    (.cond (.tmp 100)
      (.region [
        ⟨(some 101), .mv (.tmp 13), none⟩,
        ⟨(some 102), .loadN 5 (.tmp 16), none⟩,
        ⟨(some 103), .call 25 [(.tmp 102)], none⟩,
        ⟨(some 104), .buildSlice [(.int .i64 0), (.int .i64 0), (.int .i64 0), (.int .i64 0), (.int .i64 0)] 1 [((0, 5), (.tmp 103))], none⟩,
        ⟨(some 105), .append 5 40 [(.int .i64 0), (.int .i64 0), (.int .i64 0), (.int .i64 0), (.int .i64 0)] (.tmp 101) (.tmp 104), none⟩,
        ⟨(some 13), .mv (.tmp 105), none⟩])
      (.region [
        ⟨(some 106), .mv (.tmp 14), none⟩,
        ⟨(some 107), .mv (.tmp 18), none⟩,
        ⟨(some 108), .mv (.tmp 15), none⟩,
        ⟨(some 109), .build [(.int .u8 0), (.int .i64 0)] [((0, 1), (.tmp 107)), ((1, 1), (.tmp 108))], none⟩,
        ⟨(some 110), .buildSlice [(.int .u8 0), (.int .i64 0)] 1 [((0, 2), (.tmp 109))], none⟩,
        ⟨(some 111), .append 2 16 [(.int .u8 0), (.int .i64 0)] (.tmp 106) (.tmp 110), none⟩,
        ⟨(some 14), .mv (.tmp 111), none⟩])))
    (.seq (.region [
      ⟨(some 20), .mv (.const .nilslice), none⟩])
    (.seq (.seq (.region [
      ⟨(some 112), .mv (.tmp 12), none⟩,
      ⟨(some 113), .mv (.const (.int .i64 0)), none⟩])
    (.block 2 (.loop (.seq (.region [
        ⟨(some 114), .bin .lss (.tmp 113) (.tmp 112), none⟩])
      (.seq (.cond (.tmp 114)
        (.skip)
        (.exit 2))
      (.seq (.block 3 (.seq (.region [
        ⟨(some 115), .mv (.tmp 113), none⟩,
        ⟨(some 21), .mv (.tmp 115), none⟩])
      (.seq (.region [
        ⟨(some 116), .mv (.tmp 13), none⟩,
        ⟨(some 117), .mv (.tmp 21), none⟩,
        ⟨(some 118), .call 49 [(.tmp 116), (.tmp 117)], none⟩,
        ⟨(some 22), .mv (.tmp 118), none⟩])
      (.seq (.seq (.region [
        ⟨(some 119), .mv (.tmp 9), none⟩,
        ⟨(some 120), .mv (.tmp 21), none⟩,
        ⟨(some 121), .call 45 [(.tmp 119), (.tmp 120)], none⟩,
        ⟨(some 122), .toInt .i64 (.tmp 121), none⟩,
        ⟨(some 123), .mv (.tmp 22), none⟩,
        ⟨(some 124), .bin .neq (.tmp 122) (.tmp 123), none⟩])
      (.cond (.tmp 124)
        (.seq (.region [
          ⟨(some 8), .mv (.const (.bool false)), none⟩])
        (.ret))
        (.skip)))
      (.seq (.region [
        ⟨(some 125), .mv (.tmp 22), none⟩,
        ⟨(some 126), .bin .eql (.tmp 125) (.const (.int .i64 1)), none⟩])
      (.cond (.tmp 126)
        (.region [
          ⟨(some 127), .mv (.tmp 20), none⟩,
          ⟨(some 128), .mv (.tmp 21), none⟩,
          ⟨(some 129), .buildSlice [(.int .i64 0)] 1 [((0, 1), (.tmp 128))], none⟩,
          ⟨(some 130), .append 1 8 [(.int .i64 0)] (.tmp 127) (.tmp 129), none⟩,
          ⟨(some 20), .mv (.tmp 130), none⟩])
        (.skip)))))))
      (.region [
        ⟨(some 131), .bin .add (.tmp 113) (.const (.int .i64 1)), none⟩,
        ⟨(some 113), .mv (.tmp 131), none⟩])))))))
    (.seq (.region [
      ⟨(some 23), .mv (.const (.int .i64 0)), none⟩])
    (.seq (.seq (.region [
      ⟨(some 132), .mv (.tmp 11), none⟩,
      ⟨(some 133), .bin .add (.tmp 132) (.const (.int .i64 1)), none⟩,
      ⟨(some 134), .mv (.const (.int .i64 0)), none⟩])
    (.block 4 (.loop (.seq (.region [
        ⟨(some 135), .bin .lss (.tmp 134) (.tmp 133), none⟩])
      (.seq (.cond (.tmp 135)
        (.skip)
        (.exit 4))
      (.seq (.block 5 (.seq (.region [
        ⟨(some 136), .mv (.tmp 134), none⟩,
        ⟨(some 24), .mv (.tmp 136), none⟩])
      (.seq (.region [
        ⟨(some 138), .mv (.tmp 9), none⟩,
        ⟨(some 139), .mv (.tmp 24), none⟩,
        ⟨(some 140), .call 47 [(.tmp 138), (.tmp 139)], none⟩,
        ⟨(some 137), .mv (.tmp 140), none⟩,
        ⟨(some 141), .extract 0 (.tmp 137), none⟩,
        ⟨(some 142), .extract 1 (.tmp 137), none⟩,
        ⟨(some 143), .extract 2 (.tmp 137), none⟩,
        ⟨(some 25), .mv (.tmp 141), none⟩,
        ⟨(some 26), .mv (.tmp 142), none⟩,
        ⟨(some 27), .mv (.tmp 143), none⟩])
      (.seq (.region [
        ⟨(some 145), .mv (.tmp 13), none⟩,
        ⟨(some 146), .mv (.tmp 24), none⟩,
        ⟨(some 147), .call 50 [(.tmp 145), (.tmp 146)], none⟩,
        ⟨(some 144), .mv (.tmp 147), none⟩,
        ⟨(some 148), .extract 0 (.tmp 144), none⟩,
        ⟨(some 149), .extract 1 (.tmp 144), none⟩,
        ⟨(some 150), .extract 2 (.tmp 144), none⟩,
        ⟨(some 28), .mv (.tmp 148), none⟩,
        ⟨(some 29), .mv (.tmp 149), none⟩,
        ⟨(some 30), .mv (.tmp 150), none⟩])
      (.seq (.seq (.region [
        ⟨(some 151), .mv (.tmp 24), none⟩,
        ⟨(some 152), .mv (.tmp 11), none⟩,
        ⟨(some 153), .bin .eql (.tmp 151) (.tmp 152), none⟩])
      (.cond (.tmp 153)
        (.region [
          ⟨(some 30), .mv (.const (.bool false)), none⟩,
          ⟨(some 28), .mv (.const (.int .i64 0)), none⟩,
          ⟨(some 29), .mv (.const (.int .i64 0)), none⟩])
        (.skip)))
      (.seq (.seq (.region [
        ⟨(some 154), .mv (.tmp 27), none⟩,
        ⟨(some 155), .mv (.tmp 30), none⟩,
        ⟨(some 156), .eqBool true (.tmp 154) (.tmp 155), none⟩,
        ⟨(some 157), .mv (.tmp 156), none⟩,
        ⟨(some 158), .mv (.tmp 25), (some (157, false))⟩,
        ⟨(some 159), .mv (.tmp 28), (some (157, false))⟩,
        ⟨(some 160), .bin .neq (.tmp 158) (.tmp 159), (some (157, false))⟩,
        ⟨(some 161), .pick (.tmp 157) (.const (.bool true)) (.tmp 160), none⟩,
        ⟨(some 162), .mv (.tmp 161), none⟩,
        ⟨(some 163), .mv (.tmp 26), (some (162, false))⟩,
        ⟨(some 164), .mv (.tmp 29), (some (162, false))⟩,
        ⟨(some 165), .bin .neq (.tmp 163) (.tmp 164), (some (162, false))⟩,
        ⟨(some 166), .pick (.tmp 162) (.const (.bool true)) (.tmp 165), none⟩])
      (.cond (.tmp 166)
        (.seq (.region [
          ⟨(some 8), .mv (.const (.bool false)), none⟩])
        (.ret))
        (.skip)))
      (.seq (.region [
        ⟨(some 167), .mv (.tmp 27), none⟩])
      (.cond (.tmp 167)
        (.region [
          ⟨(some 168), .mv (.tmp 23), none⟩,
          ⟨(some 169), .bin .add (.tmp 168) (.const (.int .i64 1)), none⟩,
          ⟨(some 23), .mv (.tmp 169), none⟩])
        (.skip)))))))))
      (.region [
        ⟨(some 170), .bin .add (.tmp 134) (.const (.int .i64 1)), none⟩,
        ⟨(some 134), .mv (.tmp 170), none⟩])))))))
    (.seq (.region [
      ⟨(some 171), .mv (.tmp 9), none⟩,
      ⟨(some 172), .call 46 [(.tmp 171)], none⟩,
      ⟨(some 173), .mv (.tmp 23), none⟩,
      ⟨(some 174), .bin .neq (.tmp 172) (.tmp 173), none⟩,
      ⟨(some 175), .mv (.tmp 174), none⟩,
      ⟨(some 176), .mv (.tmp 9), (some (175, false))⟩,
      ⟨(some 177), .call 52 [(.tmp 176)], (some (175, false))⟩,
      ⟨(some 178), .mv (.tmp 20), (some (175, false))⟩,
      ⟨(some 179), .call 51 [(.tmp 177), (.tmp 178)], (some (175, false))⟩,
      ⟨(some 180), .un .not (.tmp 179), (some (175, false))⟩,
      ⟨(some 181), .pick (.tmp 175) (.const (.bool true)) (.tmp 180), none⟩,
      ⟨(some 182), .mv (.tmp 181), none⟩,
      ⟨(some 183), .mv (.tmp 9), (some (182, false))⟩,
      ⟨(some 184), .call 45 [(.tmp 183), (.const (.int .i64 (-1)))], (some (182, false))⟩,
      ⟨(some 185), .bin .neq (.tmp 184) (.const (.int .u64 0)), (some (182, false))⟩,
      ⟨(some 186), .pick (.tmp 182) (.const (.bool true)) (.tmp 185), none⟩,
      ⟨(some 187), .mv (.tmp 186), none⟩,
      ⟨(some 188), .mv (.tmp 9), (some (187, false))⟩,
      ⟨(some 189), .mv (.tmp 12), (some (187, false))⟩,
      ⟨(some 190), .call 45 [(.tmp 188), (.tmp 189)], (some (187, false))⟩,
      ⟨(some 191), .bin .neq (.tmp 190) (.const (.int .u64 0)), (some (187, false))⟩,
      ⟨(some 192), .pick (.tmp 187) (.const (.bool true)) (.tmp 191), none⟩])
    (.cond (.tmp 192)
      (.seq (.region [
        ⟨(some 8), .mv (.const (.bool false)), none⟩])
      (.ret))
      (.skip)))))))))))))
    (.region [
      ⟨(some 193), .bin .add (.tmp 61) (.const (.int .i64 1)), none⟩,
      ⟨(some 61), .mv (.tmp 193), none⟩])))))))
  (.seq (.region [
    ⟨(some 194), .mv (.tmp 0), none⟩,
    ⟨(some 195), .mv (.tmp 1), none⟩,
    ⟨(some 196), .mv (.tmp 2), none⟩,
    ⟨(some 197), .mv (.tmp 3), none⟩,
    ⟨(some 198), .call 53 [(.tmp 194), (.tmp 195), (.tmp 196), (.tmp 197)], none⟩,
    ⟨(some 31), .mv (.tmp 198), none⟩])
  (.seq (.seq (.region [
    ⟨(some 199), .mv (.tmp 31), none⟩,
    ⟨(some 200), .lenS (.tmp 199), none⟩,
    ⟨(some 201), .mv (.tmp 14), none⟩,
    ⟨(some 202), .lenS (.tmp 201), none⟩,
    ⟨(some 203), .bin .neq (.tmp 200) (.tmp 202), none⟩])
  (.cond (.tmp 203)
    (.seq (.region [
      ⟨(some 8), .mv (.const (.bool false)), none⟩])
    (.ret))
    (.skip)))
  (.seq (.seq (.region [
    ⟨(some 204), .mv (.tmp 31), none⟩,
    ⟨(some 205), .lenS (.tmp 204), none⟩,
    ⟨(some 206), .mv (.const (.int .i64 0)), none⟩])
  (.block 6 (.loop (.seq (.region [
      ⟨(some 207), .bin .lss (.tmp 206) (.tmp 205), none⟩])
    (.seq (.cond (.tmp 207)
      (.skip)
      (.exit 6))
    (.seq (.block 7 (.seq (.region [
      ⟨(some 208), .mv (.tmp 206), none⟩,
      ⟨(some 32), .mv (.tmp 208), none⟩])
    (.seq (.draw [
      (⟨(some 209), .mv (.tmp 31), none⟩, .still),
      (⟨(some 210), .mv (.tmp 32), none⟩, .still),
      (⟨(some 211), .idxAddr 2 none (.tmp 209) (.tmp 210), none⟩, .still),
      (⟨(some 212), .loadN 2 (.tmp 211), none⟩, .reads 0 0),
      (⟨(some 213), .mv (.tmp 14), none⟩, .still),
      (⟨(some 214), .mv (.tmp 32), none⟩, .still),
      (⟨(some 215), .idxAddr 2 none (.tmp 213) (.tmp 214), none⟩, .still),
      (⟨(some 216), .loadN 2 (.tmp 215), none⟩, .reads 0 0),
      (⟨(some 217), .eqStruct true [(0, 0), (1, 0)] (.tmp 212) (.tmp 216), none⟩, .still)])
    (.cond (.tmp 217)
      (.seq (.region [
        ⟨(some 8), .mv (.const (.bool false)), none⟩])
      (.ret))
      (.skip)))))
    (.region [
      ⟨(some 218), .bin .add (.tmp 206) (.const (.int .i64 1)), none⟩,
      ⟨(some 206), .mv (.tmp 218), none⟩])))))))
  (.seq (.region [
    ⟨(some 8), .mv (.const (.bool true)), none⟩])
  (.ret))))))))))), none⟩

/-- 'hostler/hostlerlaw14.lives' -/
def F14 : AFunc := ⟨6, [.tmp 0],
  .seq (.region [
    ⟨(some 0), .mv (.const (.bool false)), none⟩])
  (.seq (.region [
    ⟨(some 1), .call 15 [(.const (.int .u64 2)), (.const (.int .u64 6))], none⟩,
    ⟨(some 2), .mv (.tmp 1), none⟩,
    ⟨(some 3), .call 15 [(.const (.int .u64 6)), (.const (.int .u64 1))], (some (2, true))⟩,
    ⟨(some 4), .un .not (.tmp 3), (some (2, true))⟩,
    ⟨(some 5), .pick (.tmp 2) (.tmp 4) (.const (.bool false)), none⟩,
    ⟨(some 0), .mv (.tmp 5), none⟩])
  (.ret)), none⟩

/-- 'hostler/status.Legal' -/
def F15 : AFunc := ⟨14, [.tmp 4],
  .seq (.region [
    ⟨(some 4), .mv (.const (.bool false)), none⟩])
  (.seq (.region [
    ⟨(some 5), .mv (.tmp 0), none⟩,
    ⟨(some 6), .bin .lss (.tmp 5) (.const (.int .u64 7)), none⟩,
    ⟨(some 7), .mv (.tmp 6), none⟩,
    ⟨(some 8), .mv (.tmp 0), (some (7, true))⟩,
    ⟨(some 9), .idxAddr 1 (some 7) (.glob 0) (.tmp 8), (some (7, true))⟩,
    ⟨(some 10), .load1 (.tmp 9), (some (7, true))⟩,
    ⟨(some 11), .mv (.tmp 1), (some (7, true))⟩,
    ⟨(some 12), .call 54 [(.tmp 10), (.tmp 11)], (some (7, true))⟩,
    ⟨(some 13), .pick (.tmp 7) (.tmp 12) (.const (.bool false)), none⟩,
    ⟨(some 4), .mv (.tmp 13), none⟩])
  (.ret)), none⟩

/-- 'hostler/hostlerref14.Legal' -/
def F16 : AFunc := ⟨31, [.tmp 4],
  .seq (.region [
    ⟨(some 4), .mv (.const (.bool false)), none⟩])
  (.seq (.seq (.region [
    ⟨(some 5), .mv (.tmp 1), none⟩,
    ⟨(some 6), .bin .eql (.tmp 5) (.const (.int .u64 1)), none⟩])
  (.cond (.tmp 6)
    (.seq (.region [
      ⟨(some 7), .mv (.tmp 0), none⟩,
      ⟨(some 8), .bin .eql (.tmp 7) (.const (.int .u64 0)), none⟩,
      ⟨(some 9), .mv (.tmp 8), none⟩,
      ⟨(some 10), .mv (.tmp 0), (some (9, false))⟩,
      ⟨(some 11), .bin .geq (.tmp 10) (.const (.int .u64 2)), (some (9, false))⟩,
      ⟨(some 12), .mv (.tmp 11), (some (9, false))⟩,
      ⟨(some 13), .mv (.tmp 0), (some (12, true))⟩,
      ⟨(some 14), .bin .leq (.tmp 13) (.const (.int .u64 5)), (some (12, true))⟩,
      ⟨(some 15), .pick (.tmp 12) (.tmp 14) (.const (.bool false)), (some (9, false))⟩,
      ⟨(some 16), .pick (.tmp 9) (.const (.bool true)) (.tmp 15), none⟩,
      ⟨(some 4), .mv (.tmp 16), none⟩])
    (.ret))
    (.skip)))
  (.seq (.seq (.region [
    ⟨(some 17), .mv (.tmp 1), none⟩,
    ⟨(some 18), .bin .eql (.tmp 17) (.const (.int .u64 2)), none⟩])
  (.cond (.tmp 18)
    (.seq (.region [
      ⟨(some 19), .mv (.tmp 0), none⟩,
      ⟨(some 20), .bin .eql (.tmp 19) (.const (.int .u64 1)), none⟩,
      ⟨(some 4), .mv (.tmp 20), none⟩])
    (.ret))
    (.skip)))
  (.seq (.region [
    ⟨(some 21), .mv (.tmp 0), none⟩,
    ⟨(some 22), .bin .eql (.tmp 21) (.const (.int .u64 2)), none⟩,
    ⟨(some 23), .mv (.tmp 22), none⟩,
    ⟨(some 24), .mv (.tmp 1), (some (23, true))⟩,
    ⟨(some 25), .bin .geq (.tmp 24) (.const (.int .u64 3)), (some (23, true))⟩,
    ⟨(some 26), .pick (.tmp 23) (.tmp 25) (.const (.bool false)), none⟩,
    ⟨(some 27), .mv (.tmp 26), none⟩,
    ⟨(some 28), .mv (.tmp 1), (some (27, true))⟩,
    ⟨(some 29), .bin .leq (.tmp 28) (.const (.int .u64 6)), (some (27, true))⟩,
    ⟨(some 30), .pick (.tmp 27) (.tmp 29) (.const (.bool false)), none⟩,
    ⟨(some 4), .mv (.tmp 30), none⟩])
  (.ret)))), none⟩

/-- 'hostler/status.Name' -/
def F17 : AFunc := ⟨8, [.tmp 2],
  .seq (.region [
    ⟨(some 2), .mv (.const (.str ⟨#[]⟩)), none⟩])
  (.seq (.seq (.region [
    ⟨(some 3), .mv (.tmp 0), none⟩,
    ⟨(some 4), .bin .geq (.tmp 3) (.const (.int .u64 7)), none⟩])
  (.cond (.tmp 4)
    (.seq (.region [
      ⟨(some 2), .mv (.const (.str ⟨#[]⟩)), none⟩])
    (.ret))
    (.skip)))
  (.seq (.region [
    ⟨(some 5), .mv (.tmp 0), none⟩,
    ⟨(some 6), .idxAddr 1 (some 7) (.glob 1) (.tmp 5), none⟩,
    ⟨(some 7), .load1 (.tmp 6), none⟩,
    ⟨(some 2), .mv (.tmp 7), none⟩])
  (.ret))), none⟩

/-- 'hostler/hostlerref14.Name' -/
def F18 : AFunc := ⟨18, [.tmp 2],
  .seq (.region [
    ⟨(some 2), .mv (.const (.str ⟨#[]⟩)), none⟩])
  (.seq (.seq (.region [
    ⟨(some 3), .mv (.tmp 0), none⟩])
  (.block 0 (.seq (.region [
    ⟨(some 5), .bin .eql (.tmp 3) (.const (.int .u64 0)), none⟩,
    ⟨(some 4), .mv (.tmp 5), none⟩])
  (.cond (.tmp 4)
    (.seq (.region [
      ⟨(some 2), .mv (.const (.str ⟨#[110, 111, 110, 101]⟩)), none⟩])
    (.ret))
    (.seq (.region [
      ⟨(some 7), .bin .eql (.tmp 3) (.const (.int .u64 1)), none⟩,
      ⟨(some 6), .mv (.tmp 7), none⟩])
    (.cond (.tmp 6)
      (.seq (.region [
        ⟨(some 2), .mv (.const (.str ⟨#[114, 117, 110, 110, 97, 98, 108, 101]⟩)), none⟩])
      (.ret))
      (.seq (.region [
        ⟨(some 9), .bin .eql (.tmp 3) (.const (.int .u64 2)), none⟩,
        ⟨(some 8), .mv (.tmp 9), none⟩])
      (.cond (.tmp 8)
        (.seq (.region [
          ⟨(some 2), .mv (.const (.str ⟨#[114, 117, 110, 110, 105, 110, 103]⟩)), none⟩])
        (.ret))
        (.seq (.region [
          ⟨(some 11), .bin .eql (.tmp 3) (.const (.int .u64 3)), none⟩,
          ⟨(some 10), .mv (.tmp 11), none⟩])
        (.cond (.tmp 10)
          (.seq (.region [
            ⟨(some 2), .mv (.const (.str ⟨#[98, 108, 111, 99, 107, 101, 100]⟩)), none⟩])
          (.ret))
          (.seq (.region [
            ⟨(some 13), .bin .eql (.tmp 3) (.const (.int .u64 4)), none⟩,
            ⟨(some 12), .mv (.tmp 13), none⟩])
          (.cond (.tmp 12)
            (.seq (.region [
              ⟨(some 2), .mv (.const (.str ⟨#[115, 108, 101, 101, 112, 105, 110, 103]⟩)), none⟩])
            (.ret))
            (.seq (.region [
              ⟨(some 15), .bin .eql (.tmp 3) (.const (.int .u64 5)), none⟩,
              ⟨(some 14), .mv (.tmp 15), none⟩])
            (.cond (.tmp 14)
              (.seq (.region [
                ⟨(some 2), .mv (.const (.str ⟨#[119, 97, 105, 116, 105, 110, 103]⟩)), none⟩])
              (.ret))
              (.seq (.region [
                ⟨(some 17), .bin .eql (.tmp 3) (.const (.int .u64 6)), none⟩,
                ⟨(some 16), .mv (.tmp 17), none⟩])
              (.cond (.tmp 16)
                (.seq (.region [
                  ⟨(some 2), .mv (.const (.str ⟨#[100, 101, 97, 100]⟩)), none⟩])
                (.ret))
                (.skip)))))))))))))))))
  (.seq (.region [
    ⟨(some 2), .mv (.const (.str ⟨#[]⟩)), none⟩])
  (.ret))), none⟩

/-- 'hostler/status.Named' -/
def F19 : AFunc := ⟨13, [.tmp 2, .tmp 3],
  .seq (.region [
    ⟨(some 2), .mv (.const (.int .u64 0)), none⟩,
    ⟨(some 3), .mv (.const (.bool false)), none⟩])
  (.seq (.region [
    ⟨(some 5), .slc 1 (some 7) (.glob 1) none none none, none⟩,
    ⟨(some 6), .mv (.tmp 0), none⟩,
    ⟨(some 7), .call 55 [(.tmp 5), (.tmp 6)], none⟩,
    ⟨(some 4), .mv (.tmp 7), none⟩])
  (.seq (.region [
    ⟨(some 8), .mv (.tmp 4), none⟩,
    ⟨(some 9), .max2 (.const (.int .i64 0)) (.tmp 8), none⟩,
    ⟨(some 10), .toInt .u64 (.tmp 9), none⟩,
    ⟨(some 11), .mv (.tmp 4), none⟩,
    ⟨(some 12), .bin .geq (.tmp 11) (.const (.int .i64 0)), none⟩,
    ⟨(some 2), .mv (.tmp 10), none⟩,
    ⟨(some 3), .mv (.tmp 12), none⟩])
  (.ret))), none⟩

/-- 'hostler/hostlerlaw15.lives' -/
def F20 : AFunc := ⟨19, [.tmp 0],
  .seq (.region [
    ⟨(some 0), .mv (.const (.bool false)), none⟩])
  (.seq (.region [
    ⟨(some 5), .build [(.int .i64 0), (.int .i64 0), (.int .i64 0), (.int .i64 0), (.int .i64 0)] [((0, 1), (.const (.int .i64 7)))], none⟩,
    ⟨(some 6), .call 21 [(.tmp 5)], none⟩,
    ⟨(some 4), .mv (.tmp 6), none⟩,
    ⟨(some 7), .extract 0 (.tmp 4), none⟩,
    ⟨(some 8), .extract 1 (.tmp 4), none⟩,
    ⟨(some 9), .extract 2 (.tmp 4), none⟩,
    ⟨(some 1), .mv (.tmp 7), none⟩,
    ⟨(some 2), .mv (.tmp 8), none⟩,
    ⟨(some 3), .mv (.tmp 9), none⟩])
  (.seq (.region [
    ⟨(some 10), .mv (.tmp 1), none⟩,
    ⟨(some 11), .bin .eql (.tmp 10) (.const (.int .u64 2)), none⟩,
    ⟨(some 12), .mv (.tmp 11), none⟩,
    ⟨(some 13), .mv (.tmp 2), (some (12, true))⟩,
    ⟨(some 14), .bin .eql (.tmp 13) (.const (.int .u64 6)), (some (12, true))⟩,
    ⟨(some 15), .pick (.tmp 12) (.tmp 14) (.const (.bool false)), none⟩,
    ⟨(some 16), .mv (.tmp 15), none⟩,
    ⟨(some 17), .mv (.tmp 3), (some (16, true))⟩,
    ⟨(some 18), .pick (.tmp 16) (.tmp 17) (.const (.bool false)), none⟩,
    ⟨(some 0), .mv (.tmp 18), none⟩])
  (.ret))), none⟩

/-- 'hostler/event.Steps' -/
def F21 : AFunc := ⟨17, [.tmp 2, .tmp 3, .tmp 4],
  .seq (.region [
    ⟨(some 1), .box (.tmp 0), none⟩,
    ⟨(some 2), .mv (.const (.int .u64 0)), none⟩,
    ⟨(some 3), .mv (.const (.int .u64 0)), none⟩,
    ⟨(some 4), .mv (.const (.bool false)), none⟩])
  (.seq (.region [
    ⟨(some 7), .fieldAddr 0 (.tmp 1), none⟩,
    ⟨(some 8), .load1 (.tmp 7), none⟩,
    ⟨(some 9), .call 56 [(.tmp 8)], none⟩,
    ⟨(some 6), .mv (.tmp 9), none⟩,
    ⟨(some 10), .extract 0 (.tmp 6), none⟩,
    ⟨(some 11), .extract 1 (.tmp 6), none⟩,
    ⟨(some 5), .alloc [(.str ⟨#[]⟩), (.int .u64 0), (.int .u64 0)], none⟩,
    ⟨none, .store 3 (.tmp 5) (.tmp 10), none⟩,
    ⟨(some 4), .mv (.tmp 11), none⟩])
  (.seq (.draw [
    (⟨(some 12), .fieldAddr 1 (.tmp 5), none⟩, .still),
    (⟨(some 13), .load1 (.tmp 12), none⟩, .reads 0 0),
    (⟨(some 14), .fieldAddr 2 (.tmp 5), none⟩, .still),
    (⟨(some 15), .load1 (.tmp 14), none⟩, .reads 0 0),
    (⟨(some 16), .mv (.tmp 4), none⟩, .still),
    (⟨(some 2), .mv (.tmp 13), none⟩, .still),
    (⟨(some 3), .mv (.tmp 15), none⟩, .still),
    (⟨(some 4), .mv (.tmp 16), none⟩, .still)])
  (.ret))), none⟩

/-- 'hostler/hostlerref15.Steps' -/
def F22 : AFunc := ⟨19, [.tmp 2, .tmp 3, .tmp 4],
  .seq (.region [
    ⟨(some 2), .mv (.const (.int .i64 0)), none⟩,
    ⟨(some 3), .mv (.const (.int .i64 0)), none⟩,
    ⟨(some 4), .mv (.const (.bool false)), none⟩])
  (.seq (.seq (.region [
    ⟨(some 5), .mv (.tmp 0), none⟩,
    ⟨(some 6), .bin .lss (.tmp 5) (.const (.int .i64 0)), none⟩,
    ⟨(some 7), .mv (.tmp 6), none⟩,
    ⟨(some 8), .mv (.tmp 0), (some (7, false))⟩,
    ⟨(some 9), .bin .gtr (.tmp 8) (.const (.int .i64 7)), (some (7, false))⟩,
    ⟨(some 10), .pick (.tmp 7) (.const (.bool true)) (.tmp 9), none⟩])
  (.cond (.tmp 10)
    (.seq (.region [
      ⟨(some 2), .mv (.const (.int .i64 0)), none⟩,
      ⟨(some 3), .mv (.const (.int .i64 0)), none⟩,
      ⟨(some 4), .mv (.const (.bool false)), none⟩])
    (.ret))
    (.skip)))
  (.seq (.seq (.region [
    ⟨(some 11), .mv (.tmp 0), none⟩,
    ⟨(some 12), .bin .lss (.tmp 11) (.const (.int .i64 2)), none⟩])
  (.cond (.tmp 12)
    (.seq (.region [
      ⟨(some 2), .mv (.const (.int .i64 0)), none⟩,
      ⟨(some 3), .mv (.const (.int .i64 1)), none⟩,
      ⟨(some 4), .mv (.const (.bool true)), none⟩])
    (.ret))
    (.skip)))
  (.seq (.seq (.region [
    ⟨(some 13), .mv (.tmp 0), none⟩,
    ⟨(some 14), .bin .eql (.tmp 13) (.const (.int .i64 2)), none⟩])
  (.cond (.tmp 14)
    (.seq (.region [
      ⟨(some 2), .mv (.const (.int .i64 1)), none⟩,
      ⟨(some 3), .mv (.const (.int .i64 2)), none⟩,
      ⟨(some 4), .mv (.const (.bool true)), none⟩])
    (.ret))
    (.skip)))
  (.seq (.seq (.region [
    ⟨(some 15), .mv (.tmp 0), none⟩,
    ⟨(some 16), .bin .eql (.tmp 15) (.const (.int .i64 3)), none⟩])
  (.cond (.tmp 16)
    (.seq (.region [
      ⟨(some 2), .mv (.const (.int .i64 2)), none⟩,
      ⟨(some 3), .mv (.const (.int .i64 1)), none⟩,
      ⟨(some 4), .mv (.const (.bool true)), none⟩])
    (.ret))
    (.skip)))
  (.seq (.region [
    ⟨(some 17), .mv (.tmp 0), none⟩,
    ⟨(some 18), .bin .sub (.tmp 17) (.const (.int .i64 1)), none⟩,
    ⟨(some 2), .mv (.const (.int .i64 2)), none⟩,
    ⟨(some 3), .mv (.tmp 18), none⟩,
    ⟨(some 4), .mv (.const (.bool true)), none⟩])
  (.ret)))))), none⟩

/-- 'hostler/event.Right' -/
def F23 : AFunc := ⟨46, [.tmp 2],
  .seq (.region [
    ⟨(some 1), .box (.tmp 0), none⟩,
    ⟨(some 2), .mv (.const (.bool false)), none⟩])
  (.seq (.region [
    ⟨(some 6), .fieldAddr 0 (.tmp 1), none⟩,
    ⟨(some 7), .load1 (.tmp 6), none⟩,
    ⟨(some 8), .call 56 [(.tmp 7)], none⟩,
    ⟨(some 5), .mv (.tmp 8), none⟩,
    ⟨(some 9), .extract 0 (.tmp 5), none⟩,
    ⟨(some 10), .extract 1 (.tmp 5), none⟩,
    ⟨(some 3), .alloc [(.str ⟨#[]⟩), (.int .u64 0), (.int .u64 0)], none⟩,
    ⟨none, .store 3 (.tmp 3) (.tmp 9), none⟩,
    ⟨(some 4), .mv (.tmp 10), none⟩])
  (.seq (.region [
    ⟨(some 11), .mv (.tmp 4), none⟩,
    ⟨(some 12), .mv (.tmp 11), none⟩,
    ⟨(some 13), .fieldAddr 1 (.tmp 1), (some (12, true))⟩,
    ⟨(some 14), .load1 (.tmp 13), (some (12, true))⟩,
    ⟨(some 15), .bin .geq (.tmp 14) (.const (.int .i64 0)), (some (12, true))⟩,
    ⟨(some 16), .pick (.tmp 12) (.tmp 15) (.const (.bool false)), none⟩,
    ⟨(some 17), .mv (.tmp 16), none⟩,
    ⟨(some 18), .fieldAddr 1 (.tmp 1), (some (17, true))⟩,
    ⟨(some 19), .load1 (.tmp 18), (some (17, true))⟩,
    ⟨(some 20), .bin .lss (.tmp 19) (.const (.int .i64 4096)), (some (17, true))⟩,
    ⟨(some 21), .pick (.tmp 17) (.tmp 20) (.const (.bool false)), none⟩,
    ⟨(some 22), .mv (.tmp 21), none⟩,
    ⟨(some 23), .fieldAddr 2 (.tmp 1), (some (22, true))⟩,
    ⟨(some 24), .load1 (.tmp 23), (some (22, true))⟩,
    ⟨(some 25), .bin .geq (.tmp 24) (.const (.int .i64 (-1))), (some (22, true))⟩,
    ⟨(some 26), .pick (.tmp 22) (.tmp 25) (.const (.bool false)), none⟩,
    ⟨(some 27), .mv (.tmp 26), none⟩,
    ⟨(some 28), .fieldAddr 2 (.tmp 1), (some (27, true))⟩,
    ⟨(some 29), .load1 (.tmp 28), (some (27, true))⟩,
    ⟨(some 30), .bin .lss (.tmp 29) (.const (.int .i64 128)), (some (27, true))⟩,
    ⟨(some 31), .pick (.tmp 27) (.tmp 30) (.const (.bool false)), none⟩,
    ⟨(some 32), .mv (.tmp 31), none⟩,
    ⟨(some 33), .fieldAddr 3 (.tmp 1), (some (32, true))⟩,
    ⟨(some 34), .load1 (.tmp 33), (some (32, true))⟩,
    ⟨(some 35), .bin .geq (.tmp 34) (.const (.int .i64 (-1))), (some (32, true))⟩,
    ⟨(some 36), .pick (.tmp 32) (.tmp 35) (.const (.bool false)), none⟩,
    ⟨(some 37), .mv (.tmp 36), none⟩,
    ⟨(some 38), .fieldAddr 3 (.tmp 1), (some (37, true))⟩,
    ⟨(some 39), .load1 (.tmp 38), (some (37, true))⟩,
    ⟨(some 40), .bin .lss (.tmp 39) (.const (.int .i64 64)), (some (37, true))⟩,
    ⟨(some 41), .pick (.tmp 37) (.tmp 40) (.const (.bool false)), none⟩,
    ⟨(some 42), .mv (.tmp 41), none⟩,
    ⟨(some 43), .loadN 5 (.tmp 1), (some (42, true))⟩,
    ⟨(some 44), .call 57 [(.tmp 43)], (some (42, true))⟩,
    ⟨(some 45), .pick (.tmp 42) (.tmp 44) (.const (.bool false)), none⟩,
    ⟨(some 2), .mv (.tmp 45), none⟩])
  (.ret))), none⟩

/-- 'hostler/hostlerref15.Right' -/
def F24 : AFunc := ⟨58, [.tmp 2],
  .seq (.region [
    ⟨(some 1), .box (.tmp 0), none⟩,
    ⟨(some 2), .mv (.const (.bool false)), none⟩])
  (.seq (.seq (.region [
    ⟨(some 3), .fieldAddr 0 (.tmp 1), none⟩,
    ⟨(some 4), .load1 (.tmp 3), none⟩,
    ⟨(some 5), .bin .lss (.tmp 4) (.const (.int .i64 0)), none⟩,
    ⟨(some 6), .mv (.tmp 5), none⟩,
    ⟨(some 7), .fieldAddr 0 (.tmp 1), (some (6, false))⟩,
    ⟨(some 8), .load1 (.tmp 7), (some (6, false))⟩,
    ⟨(some 9), .bin .gtr (.tmp 8) (.const (.int .i64 7)), (some (6, false))⟩,
    ⟨(some 10), .pick (.tmp 6) (.const (.bool true)) (.tmp 9), none⟩,
    ⟨(some 11), .mv (.tmp 10), none⟩,
    ⟨(some 12), .fieldAddr 1 (.tmp 1), (some (11, false))⟩,
    ⟨(some 13), .load1 (.tmp 12), (some (11, false))⟩,
    ⟨(some 14), .bin .lss (.tmp 13) (.const (.int .i64 0)), (some (11, false))⟩,
    ⟨(some 15), .pick (.tmp 11) (.const (.bool true)) (.tmp 14), none⟩,
    ⟨(some 16), .mv (.tmp 15), none⟩,
    ⟨(some 17), .fieldAddr 1 (.tmp 1), (some (16, false))⟩,
    ⟨(some 18), .load1 (.tmp 17), (some (16, false))⟩,
    ⟨(some 19), .bin .gtr (.tmp 18) (.const (.int .i64 4095)), (some (16, false))⟩,
    ⟨(some 20), .pick (.tmp 16) (.const (.bool true)) (.tmp 19), none⟩,
    ⟨(some 21), .mv (.tmp 20), none⟩,
    ⟨(some 22), .fieldAddr 2 (.tmp 1), (some (21, false))⟩,
    ⟨(some 23), .load1 (.tmp 22), (some (21, false))⟩,
    ⟨(some 24), .bin .lss (.tmp 23) (.const (.int .i64 (-1))), (some (21, false))⟩,
    ⟨(some 25), .pick (.tmp 21) (.const (.bool true)) (.tmp 24), none⟩,
    ⟨(some 26), .mv (.tmp 25), none⟩,
    ⟨(some 27), .fieldAddr 2 (.tmp 1), (some (26, false))⟩,
    ⟨(some 28), .load1 (.tmp 27), (some (26, false))⟩,
    ⟨(some 29), .bin .gtr (.tmp 28) (.const (.int .i64 127)), (some (26, false))⟩,
    ⟨(some 30), .pick (.tmp 26) (.const (.bool true)) (.tmp 29), none⟩,
    ⟨(some 31), .mv (.tmp 30), none⟩,
    ⟨(some 32), .fieldAddr 3 (.tmp 1), (some (31, false))⟩,
    ⟨(some 33), .load1 (.tmp 32), (some (31, false))⟩,
    ⟨(some 34), .bin .lss (.tmp 33) (.const (.int .i64 (-1))), (some (31, false))⟩,
    ⟨(some 35), .pick (.tmp 31) (.const (.bool true)) (.tmp 34), none⟩,
    ⟨(some 36), .mv (.tmp 35), none⟩,
    ⟨(some 37), .fieldAddr 3 (.tmp 1), (some (36, false))⟩,
    ⟨(some 38), .load1 (.tmp 37), (some (36, false))⟩,
    ⟨(some 39), .bin .gtr (.tmp 38) (.const (.int .i64 63)), (some (36, false))⟩,
    ⟨(some 40), .pick (.tmp 36) (.const (.bool true)) (.tmp 39), none⟩])
  (.cond (.tmp 40)
    (.seq (.region [
      ⟨(some 2), .mv (.const (.bool false)), none⟩])
    (.ret))
    (.skip)))
  (.seq (.seq (.region [
    ⟨(some 41), .fieldAddr 0 (.tmp 1), none⟩,
    ⟨(some 42), .load1 (.tmp 41), none⟩,
    ⟨(some 43), .bin .eql (.tmp 42) (.const (.int .i64 5)), none⟩])
  (.cond (.tmp 43)
    (.seq (.region [
      ⟨(some 2), .mv (.const (.bool true)), none⟩])
    (.ret))
    (.skip)))
  (.seq (.seq (.region [
    ⟨(some 44), .fieldAddr 0 (.tmp 1), none⟩,
    ⟨(some 45), .load1 (.tmp 44), none⟩,
    ⟨(some 46), .bin .eql (.tmp 45) (.const (.int .i64 6)), none⟩])
  (.cond (.tmp 46)
    (.seq (.region [
      ⟨(some 47), .fieldAddr 4 (.tmp 1), none⟩,
      ⟨(some 48), .load1 (.tmp 47), none⟩,
      ⟨(some 49), .bin .geq (.tmp 48) (.const (.int .i64 0)), none⟩,
      ⟨(some 50), .mv (.tmp 49), none⟩,
      ⟨(some 51), .fieldAddr 4 (.tmp 1), (some (50, true))⟩,
      ⟨(some 52), .load1 (.tmp 51), (some (50, true))⟩,
      ⟨(some 53), .bin .leq (.tmp 52) (.const (.int .i64 65535)), (some (50, true))⟩,
      ⟨(some 54), .pick (.tmp 50) (.tmp 53) (.const (.bool false)), none⟩,
      ⟨(some 2), .mv (.tmp 54), none⟩])
    (.ret))
    (.skip)))
  (.seq (.region [
    ⟨(some 55), .fieldAddr 4 (.tmp 1), none⟩,
    ⟨(some 56), .load1 (.tmp 55), none⟩,
    ⟨(some 57), .bin .eql (.tmp 56) (.const (.int .i64 0)), none⟩,
    ⟨(some 2), .mv (.tmp 57), none⟩])
  (.ret))))), none⟩

/-- 'hostler/hostlerlaw15.Ref' -/
def F25 : AFunc := ⟨14, [.cellN 2 5],
  .seq (.region [
    ⟨(some 1), .box (.tmp 0), none⟩,
    ⟨(some 2), .alloc [(.int .i64 0), (.int .i64 0), (.int .i64 0), (.int .i64 0), (.int .i64 0)], none⟩])
  (.seq (.region [
    ⟨(some 3), .fieldAddr 0 (.tmp 1), none⟩,
    ⟨(some 4), .load1 (.tmp 3), none⟩,
    ⟨(some 5), .fieldAddr 1 (.tmp 1), none⟩,
    ⟨(some 6), .load1 (.tmp 5), none⟩,
    ⟨(some 7), .fieldAddr 2 (.tmp 1), none⟩,
    ⟨(some 8), .load1 (.tmp 7), none⟩,
    ⟨(some 9), .fieldAddr 3 (.tmp 1), none⟩,
    ⟨(some 10), .load1 (.tmp 9), none⟩,
    ⟨(some 11), .fieldAddr 4 (.tmp 1), none⟩,
    ⟨(some 12), .load1 (.tmp 11), none⟩,
    ⟨(some 13), .build [(.int .i64 0), (.int .i64 0), (.int .i64 0), (.int .i64 0), (.int .i64 0)] [((0, 1), (.tmp 4)), ((1, 1), (.tmp 6)), ((2, 1), (.tmp 8)), ((3, 1), (.tmp 10)), ((4, 1), (.tmp 12))], none⟩,
    ⟨none, .store 5 (.tmp 2) (.tmp 13), none⟩])
  (.ret)), none⟩

/-- 'hostler/event.Name' -/
def F26 : AFunc := ⟨12, [.tmp 2],
  .seq (.region [
    ⟨(some 2), .mv (.const (.str ⟨#[]⟩)), none⟩])
  (.seq (.region [
    ⟨(some 6), .mv (.tmp 0), none⟩,
    ⟨(some 7), .call 56 [(.tmp 6)], none⟩,
    ⟨(some 5), .mv (.tmp 7), none⟩,
    ⟨(some 8), .extract 0 (.tmp 5), none⟩,
    ⟨(some 9), .extract 1 (.tmp 5), none⟩,
    ⟨(some 3), .alloc [(.str ⟨#[]⟩), (.int .u64 0), (.int .u64 0)], none⟩,
    ⟨none, .store 3 (.tmp 3) (.tmp 8), none⟩,
    ⟨(some 4), .mv (.tmp 9), none⟩])
  (.seq (.region [
    ⟨(some 10), .fieldAddr 0 (.tmp 3), none⟩,
    ⟨(some 11), .load1 (.tmp 10), none⟩,
    ⟨(some 2), .mv (.tmp 11), none⟩])
  (.ret))), none⟩

/-- 'hostler/hostlerref15.Name' -/
def F27 : AFunc := ⟨20, [.tmp 2],
  .seq (.region [
    ⟨(some 2), .mv (.const (.str ⟨#[]⟩)), none⟩])
  (.seq (.seq (.region [
    ⟨(some 3), .mv (.tmp 0), none⟩])
  (.block 0 (.seq (.region [
    ⟨(some 5), .bin .eql (.tmp 3) (.const (.int .i64 0)), none⟩,
    ⟨(some 4), .mv (.tmp 5), none⟩])
  (.cond (.tmp 4)
    (.seq (.region [
      ⟨(some 2), .mv (.const (.str ⟨#[115, 112, 97, 119, 110]⟩)), none⟩])
    (.ret))
    (.seq (.region [
      ⟨(some 7), .bin .eql (.tmp 3) (.const (.int .i64 1)), none⟩,
      ⟨(some 6), .mv (.tmp 7), none⟩])
    (.cond (.tmp 6)
      (.seq (.region [
        ⟨(some 2), .mv (.const (.str ⟨#[114, 101, 97, 100, 121]⟩)), none⟩])
      (.ret))
      (.seq (.region [
        ⟨(some 9), .bin .eql (.tmp 3) (.const (.int .i64 2)), none⟩,
        ⟨(some 8), .mv (.tmp 9), none⟩])
      (.cond (.tmp 8)
        (.seq (.region [
          ⟨(some 2), .mv (.const (.str ⟨#[100, 105, 115, 112, 97, 116, 99, 104]⟩)), none⟩])
        (.ret))
        (.seq (.region [
          ⟨(some 11), .bin .eql (.tmp 3) (.const (.int .i64 3)), none⟩,
          ⟨(some 10), .mv (.tmp 11), none⟩])
        (.cond (.tmp 10)
          (.seq (.region [
            ⟨(some 2), .mv (.const (.str ⟨#[121, 105, 101, 108, 100]⟩)), none⟩])
          (.ret))
          (.seq (.region [
            ⟨(some 13), .bin .eql (.tmp 3) (.const (.int .i64 4)), none⟩,
            ⟨(some 12), .mv (.tmp 13), none⟩])
          (.cond (.tmp 12)
            (.seq (.region [
              ⟨(some 2), .mv (.const (.str ⟨#[98, 108, 111, 99, 107]⟩)), none⟩])
            (.ret))
            (.seq (.region [
              ⟨(some 15), .bin .eql (.tmp 3) (.const (.int .i64 5)), none⟩,
              ⟨(some 14), .mv (.tmp 15), none⟩])
            (.cond (.tmp 14)
              (.seq (.region [
                ⟨(some 2), .mv (.const (.str ⟨#[115, 108, 101, 101, 112]⟩)), none⟩])
              (.ret))
              (.seq (.region [
                ⟨(some 17), .bin .eql (.tmp 3) (.const (.int .i64 6)), none⟩,
                ⟨(some 16), .mv (.tmp 17), none⟩])
              (.cond (.tmp 16)
                (.seq (.region [
                  ⟨(some 2), .mv (.const (.str ⟨#[119, 97, 105, 116]⟩)), none⟩])
                (.ret))
                (.seq (.region [
                  ⟨(some 19), .bin .eql (.tmp 3) (.const (.int .i64 7)), none⟩,
                  ⟨(some 18), .mv (.tmp 19), none⟩])
                (.cond (.tmp 18)
                  (.seq (.region [
                    ⟨(some 2), .mv (.const (.str ⟨#[101, 120, 105, 116]⟩)), none⟩])
                  (.ret))
                  (.skip)))))))))))))))))))
  (.seq (.region [
    ⟨(some 2), .mv (.const (.str ⟨#[]⟩)), none⟩])
  (.ret))), none⟩

/-- 'hostler/cell.New' -/
def F28 : AFunc := ⟨9, [.tmp 2],
  .seq (.region [
    ⟨(some 2), .mv (.const .nilptr), none⟩])
  (.seq (.region [
    ⟨(some 3), .mv (.tmp 0), none⟩,
    ⟨(some 4), .max2 (.const (.int .i64 0)) (.tmp 3), none⟩,
    ⟨(some 5), .min2 (.tmp 4) (.const (.int .i64 65536)), none⟩,
    ⟨(some 6), .mkslice 1 8 [(.int .u64 0)] (.tmp 5) (.tmp 5), none⟩,
    ⟨(some 7), .build [.nilslice, (.int .i64 0)] [((0, 1), (.tmp 6))], none⟩,
    ⟨(some 8), .box (.tmp 7), none⟩,
    ⟨(some 2), .mv (.tmp 8), none⟩])
  (.ret)), none⟩

/-- '(hostler/status.Table).Move' -/
def F29 : AFunc := ⟨29, [.tmp 10],
  .seq (.region [
    ⟨(some 5), .box (.tmp 0), none⟩,
    ⟨(some 10), .mv (.const (.bool false)), none⟩])
  (.seq (.region [
    ⟨(some 11), .loadN 2 (.tmp 5), none⟩,
    ⟨(some 12), .mv (.tmp 2), none⟩,
    ⟨(some 13), .call 58 [(.tmp 11), (.tmp 12)], none⟩,
    ⟨(some 14), .mv (.tmp 13), none⟩,
    ⟨(some 15), .mv (.tmp 3), (some (14, true))⟩,
    ⟨(some 16), .mv (.tmp 4), (some (14, true))⟩,
    ⟨(some 17), .call 15 [(.tmp 15), (.tmp 16)], (some (14, true))⟩,
    ⟨(some 18), .pick (.tmp 14) (.tmp 17) (.const (.bool false)), none⟩,
    ⟨(some 19), .mv (.tmp 18), none⟩,
    ⟨(some 20), .mv (.tmp 1), (some (19, true))⟩,
    ⟨(some 21), .fieldAddr 0 (.tmp 5), (some (19, true))⟩,
    ⟨(some 22), .load1 (.tmp 21), (some (19, true))⟩,
    ⟨(some 23), .mv (.tmp 2), (some (19, true))⟩,
    ⟨(some 24), .bin .add (.tmp 22) (.tmp 23), (some (19, true))⟩,
    ⟨(some 25), .mv (.tmp 3), (some (19, true))⟩,
    ⟨(some 26), .mv (.tmp 4), (some (19, true))⟩,
    ⟨(some 27), .call 59 [(.tmp 20), (.tmp 24), (.tmp 25), (.tmp 26)], (some (19, true))⟩,
    ⟨(some 28), .pick (.tmp 19) (.tmp 27) (.const (.bool false)), none⟩,
    ⟨(some 10), .mv (.tmp 28), none⟩])
  (.ret)), none⟩

/-- '(hostler/status.Table).Of' -/
def F30 : AFunc := ⟨17, [.tmp 6],
  .seq (.region [
    ⟨(some 3), .box (.tmp 0), none⟩,
    ⟨(some 6), .mv (.const (.int .u64 0)), none⟩])
  (.seq (.seq (.region [
    ⟨(some 7), .loadN 2 (.tmp 3), none⟩,
    ⟨(some 8), .mv (.tmp 2), none⟩,
    ⟨(some 9), .call 58 [(.tmp 7), (.tmp 8)], none⟩,
    ⟨(some 10), .un .not (.tmp 9), none⟩])
  (.cond (.tmp 10)
    (.seq (.region [
      ⟨(some 6), .mv (.const (.int .u64 0)), none⟩])
    (.ret))
    (.skip)))
  (.seq (.region [
    ⟨(some 11), .mv (.tmp 1), none⟩,
    ⟨(some 12), .fieldAddr 0 (.tmp 3), none⟩,
    ⟨(some 13), .load1 (.tmp 12), none⟩,
    ⟨(some 14), .mv (.tmp 2), none⟩,
    ⟨(some 15), .bin .add (.tmp 13) (.tmp 14), none⟩,
    ⟨(some 16), .call 41 [(.tmp 11), (.tmp 15)], none⟩,
    ⟨(some 6), .mv (.tmp 16), none⟩])
  (.ret))), none⟩

/-- '(hostler/status.Table).Count' -/
def F31 : AFunc := ⟨25, [.tmp 6],
  .seq (.region [
    ⟨(some 3), .box (.tmp 0), none⟩,
    ⟨(some 6), .mv (.const (.int .i64 0)), none⟩])
  (.seq (.region [
    ⟨(some 7), .mv (.const (.int .i64 0)), none⟩])
  (.seq (.seq (.region [
    ⟨(some 9), .fieldAddr 1 (.tmp 3), none⟩,
    ⟨(some 10), .load1 (.tmp 9), none⟩,
    ⟨(some 11), .max2 (.const (.int .i64 0)) (.tmp 10), none⟩,
    ⟨(some 12), .mv (.const (.int .i64 0)), none⟩])
  (.block 0 (.loop (.seq (.region [
      ⟨(some 13), .bin .lss (.tmp 12) (.tmp 11), none⟩])
    (.seq (.cond (.tmp 13)
      (.skip)
      (.exit 0))
    (.seq (.block 1 (.seq (.region [
      ⟨(some 14), .mv (.tmp 12), none⟩,
      ⟨(some 8), .mv (.tmp 14), none⟩])
    (.seq (.region [
      ⟨(some 15), .loadN 2 (.tmp 3), none⟩,
      ⟨(some 16), .mv (.tmp 1), none⟩,
      ⟨(some 17), .mv (.tmp 8), none⟩,
      ⟨(some 18), .call 30 [(.tmp 15), (.tmp 16), (.tmp 17)], none⟩,
      ⟨(some 19), .mv (.tmp 2), none⟩,
      ⟨(some 20), .bin .eql (.tmp 18) (.tmp 19), none⟩])
    (.cond (.tmp 20)
      (.region [
        ⟨(some 21), .mv (.tmp 7), none⟩,
        ⟨(some 22), .bin .add (.tmp 21) (.const (.int .i64 1)), none⟩,
        ⟨(some 7), .mv (.tmp 22), none⟩])
      (.skip)))))
    (.region [
      ⟨(some 23), .bin .add (.tmp 12) (.const (.int .i64 1)), none⟩,
      ⟨(some 12), .mv (.tmp 23), none⟩])))))))
  (.seq (.region [
    ⟨(some 24), .mv (.tmp 7), none⟩,
    ⟨(some 6), .mv (.tmp 24), none⟩])
  (.ret)))), none⟩

/-- '(*hostler/event.Log).Add' -/
def F32 : AFunc := ⟨18, [.tmp 4],
  .seq (.region [
    ⟨(some 3), .box (.tmp 1), none⟩,
    ⟨(some 4), .mv (.const (.bool false)), none⟩])
  (.seq (.seq (.region [
    ⟨(some 5), .loadN 5 (.tmp 3), none⟩,
    ⟨(some 6), .call 23 [(.tmp 5)], none⟩,
    ⟨(some 7), .un .not (.tmp 6), none⟩])
  (.cond (.tmp 7)
    (.seq (.region [
      ⟨(some 4), .mv (.const (.bool false)), none⟩])
    (.ret))
    (.skip)))
  (.seq (.draw [
    (⟨(some 8), .mv (.tmp 0), none⟩, .still),
    (⟨(some 9), .mv (.tmp 0), none⟩, .still),
    (⟨(some 10), .nilCheck (.tmp 9), none⟩, .still),
    (⟨(some 11), .fieldAddr 0 (.tmp 10), none⟩, .still),
    (⟨(some 12), .load1 (.tmp 11), none⟩, .reads 0 1),
    (⟨(some 13), .loadN 5 (.tmp 3), none⟩, .reads 0 0),
    (⟨(some 14), .buildSlice [(.int .i64 0), (.int .i64 0), (.int .i64 0), (.int .i64 0), (.int .i64 0)] 1 [((0, 5), (.tmp 13))], none⟩, .loud),
    (⟨(some 15), .append 5 40 [(.int .i64 0), (.int .i64 0), (.int .i64 0), (.int .i64 0), (.int .i64 0)] (.tmp 12) (.tmp 14), none⟩, .loud),
    (⟨(some 16), .nilCheck (.tmp 8), none⟩, .still),
    (⟨(some 17), .fieldAddr 0 (.tmp 16), none⟩, .still),
    (⟨none, .store 1 (.tmp 17) (.tmp 15), none⟩, .loud)])
  (.seq (.region [
    ⟨(some 4), .mv (.const (.bool true)), none⟩])
  (.ret)))), none⟩

/-- '(*hostler/event.Log).Len' -/
def F33 : AFunc := ⟨8, [.tmp 2],
  .seq (.region [
    ⟨(some 2), .mv (.const (.int .i64 0)), none⟩])
  (.seq (.region [
    ⟨(some 3), .mv (.tmp 0), none⟩,
    ⟨(some 4), .nilCheck (.tmp 3), none⟩,
    ⟨(some 5), .fieldAddr 0 (.tmp 4), none⟩,
    ⟨(some 6), .load1 (.tmp 5), none⟩,
    ⟨(some 7), .lenS (.tmp 6), none⟩,
    ⟨(some 2), .mv (.tmp 7), none⟩])
  (.ret)), none⟩

/-- 'hostler/hostlerlaw15.same' -/
def F34 : AFunc := ⟨27, [.tmp 4],
  .seq (.region [
    ⟨(some 4), .mv (.const (.bool false)), none⟩])
  (.seq (.seq (.region [
    ⟨(some 6), .mv (.tmp 0), none⟩,
    ⟨(some 7), .lenS (.tmp 6), none⟩,
    ⟨(some 8), .mv (.tmp 1), none⟩,
    ⟨(some 9), .lenS (.tmp 8), none⟩,
    ⟨(some 10), .bin .neq (.tmp 7) (.tmp 9), none⟩])
  (.cond (.tmp 10)
    (.seq (.region [
      ⟨(some 4), .mv (.const (.bool false)), none⟩])
    (.ret))
    (.skip)))
  (.seq (.seq (.region [
    ⟨(some 11), .mv (.tmp 0), none⟩,
    ⟨(some 12), .lenS (.tmp 11), none⟩,
    ⟨(some 13), .mv (.const (.int .i64 0)), none⟩])
  (.block 0 (.loop (.seq (.region [
      ⟨(some 14), .bin .lss (.tmp 13) (.tmp 12), none⟩])
    (.seq (.cond (.tmp 14)
      (.skip)
      (.exit 0))
    (.seq (.block 1 (.seq (.region [
      ⟨(some 15), .mv (.tmp 13), none⟩,
      ⟨(some 5), .mv (.tmp 15), none⟩])
    (.seq (.draw [
      (⟨(some 16), .mv (.tmp 0), none⟩, .still),
      (⟨(some 17), .mv (.tmp 5), none⟩, .still),
      (⟨(some 18), .idxAddr 5 none (.tmp 16) (.tmp 17), none⟩, .still),
      (⟨(some 19), .loadN 5 (.tmp 18), none⟩, .reads 0 0),
      (⟨(some 20), .call 25 [(.tmp 19)], none⟩, .loud),
      (⟨(some 21), .mv (.tmp 1), none⟩, .still),
      (⟨(some 22), .mv (.tmp 5), none⟩, .still),
      (⟨(some 23), .idxAddr 5 none (.tmp 21) (.tmp 22), none⟩, .still),
      (⟨(some 24), .loadN 5 (.tmp 23), none⟩, .reads 0 1),
      (⟨(some 25), .eqStruct true [(0, 0), (1, 0), (2, 0), (3, 0), (4, 0)] (.tmp 20) (.tmp 24), none⟩, .still)])
    (.cond (.tmp 25)
      (.seq (.region [
        ⟨(some 4), .mv (.const (.bool false)), none⟩])
      (.ret))
      (.skip)))))
    (.region [
      ⟨(some 26), .bin .add (.tmp 13) (.const (.int .i64 1)), none⟩,
      ⟨(some 13), .mv (.tmp 26), none⟩])))))))
  (.seq (.region [
    ⟨(some 4), .mv (.const (.bool true)), none⟩])
  (.ret)))), none⟩

/-- '(*hostler/event.Log).From' -/
def F35 : AFunc := ⟨19, [.tmp 4],
  .seq (.region [
    ⟨(some 4), .mv (.const .nilslice), none⟩])
  (.seq (.draw [
    (⟨(some 5), .mv (.tmp 0), none⟩, .still),
    (⟨(some 6), .nilCheck (.tmp 5), none⟩, .still),
    (⟨(some 7), .fieldAddr 0 (.tmp 6), none⟩, .still),
    (⟨(some 8), .load1 (.tmp 7), none⟩, .reads 0 0),
    (⟨(some 9), .mv (.tmp 1), none⟩, .still),
    (⟨(some 10), .max2 (.const (.int .i64 0)) (.tmp 9), none⟩, .still),
    (⟨(some 11), .mv (.tmp 0), none⟩, .still),
    (⟨(some 12), .nilCheck (.tmp 11), none⟩, .still),
    (⟨(some 13), .fieldAddr 0 (.tmp 12), none⟩, .still),
    (⟨(some 14), .load1 (.tmp 13), none⟩, .reads 0 0),
    (⟨(some 15), .lenS (.tmp 14), none⟩, .still),
    (⟨(some 16), .min2 (.tmp 10) (.tmp 15), none⟩, .still),
    (⟨(some 17), .slc 5 none (.tmp 8) (some (.tmp 16)) none none, none⟩, .reads 0 0),
    (⟨(some 18), .call 60 [(.tmp 17)], none⟩, .loud),
    (⟨(some 4), .mv (.tmp 18), none⟩, .still)])
  (.ret)), none⟩

/-- '(*hostler/event.Log).Of', by hand: the events of a goroutine, out of a log's (it goes through an iterator; that this is what it does is shown in a text of its own). -/
def F36 : AFunc := { ntmps := 4, arity := some 2, results := [.tmp 3], body := .seq (.region [⟨some 2, .load1 (.tmp 0), none⟩, ⟨some 3, .filterRows 5 40 1 (.tmp 2) (.tmp 1), none⟩]) .ret }

/-- 'hostler/hostlerref15.Of' -/
def F37 : AFunc := ⟨24, [.tmp 4],
  .seq (.region [
    ⟨(some 4), .mv (.const .nilslice), none⟩])
  (.seq (.region [
    ⟨(some 5), .mv (.const .nilslice), none⟩])
  (.seq (.seq (.region [
    ⟨(some 8), .mv (.tmp 0), none⟩,
    ⟨(some 9), .lenS (.tmp 8), none⟩,
    ⟨(some 10), .mv (.const (.int .i64 0)), none⟩])
  (.block 0 (.loop (.seq (.region [
      ⟨(some 11), .bin .lss (.tmp 10) (.tmp 9), none⟩])
    (.seq (.cond (.tmp 11)
      (.skip)
      (.exit 0))
    (.seq (.block 1 (.seq (.region [
      ⟨(some 12), .idxAddr 5 none (.tmp 8) (.tmp 10), none⟩,
      ⟨(some 13), .loadN 5 (.tmp 12), none⟩,
      ⟨(some 7), .alloc [(.int .i64 0), (.int .i64 0), (.int .i64 0), (.int .i64 0), (.int .i64 0)], none⟩,
      ⟨none, .store 5 (.tmp 7) (.tmp 13), none⟩])
    (.seq (.region [
      ⟨(some 14), .fieldAddr 1 (.tmp 7), none⟩,
      ⟨(some 15), .load1 (.tmp 14), none⟩,
      ⟨(some 16), .mv (.tmp 1), none⟩,
      ⟨(some 17), .bin .eql (.tmp 15) (.tmp 16), none⟩])
    (.cond (.tmp 17)
      (.region [
        ⟨(some 18), .mv (.tmp 5), none⟩,
        ⟨(some 19), .loadN 5 (.tmp 7), none⟩,
        ⟨(some 20), .buildSlice [(.int .i64 0), (.int .i64 0), (.int .i64 0), (.int .i64 0), (.int .i64 0)] 1 [((0, 5), (.tmp 19))], none⟩,
        ⟨(some 21), .append 5 40 [(.int .i64 0), (.int .i64 0), (.int .i64 0), (.int .i64 0), (.int .i64 0)] (.tmp 18) (.tmp 20), none⟩,
        ⟨(some 5), .mv (.tmp 21), none⟩])
      (.skip)))))
    (.region [
      ⟨(some 22), .bin .add (.tmp 10) (.const (.int .i64 1)), none⟩,
      ⟨(some 10), .mv (.tmp 22), none⟩])))))))
  (.seq (.region [
    ⟨(some 23), .mv (.tmp 5), none⟩,
    ⟨(some 4), .mv (.tmp 23), none⟩])
  (.ret)))), none⟩

/-- '(*hostler/event.Log).Count' -/
def F38 : AFunc := ⟨25, [.tmp 4],
  .seq (.region [
    ⟨(some 4), .mv (.const (.int .i64 0)), none⟩])
  (.seq (.region [
    ⟨(some 5), .mv (.const (.int .i64 0)), none⟩])
  (.seq (.seq (.region [
    ⟨(some 8), .mv (.tmp 0), none⟩,
    ⟨(some 9), .nilCheck (.tmp 8), none⟩,
    ⟨(some 10), .fieldAddr 0 (.tmp 9), none⟩,
    ⟨(some 11), .load1 (.tmp 10), none⟩,
    ⟨(some 12), .lenS (.tmp 11), none⟩,
    ⟨(some 13), .mv (.const (.int .i64 0)), none⟩])
  (.block 0 (.loop (.seq (.region [
      ⟨(some 14), .bin .lss (.tmp 13) (.tmp 12), none⟩])
    (.seq (.cond (.tmp 14)
      (.skip)
      (.exit 0))
    (.seq (.block 1 (.seq (.region [
      ⟨(some 15), .idxAddr 5 none (.tmp 11) (.tmp 13), none⟩,
      ⟨(some 16), .loadN 5 (.tmp 15), none⟩,
      ⟨(some 7), .alloc [(.int .i64 0), (.int .i64 0), (.int .i64 0), (.int .i64 0), (.int .i64 0)], none⟩,
      ⟨none, .store 5 (.tmp 7) (.tmp 16), none⟩])
    (.seq (.region [
      ⟨(some 17), .fieldAddr 0 (.tmp 7), none⟩,
      ⟨(some 18), .load1 (.tmp 17), none⟩,
      ⟨(some 19), .mv (.tmp 1), none⟩,
      ⟨(some 20), .bin .eql (.tmp 18) (.tmp 19), none⟩])
    (.cond (.tmp 20)
      (.region [
        ⟨(some 21), .mv (.tmp 5), none⟩,
        ⟨(some 22), .bin .add (.tmp 21) (.const (.int .i64 1)), none⟩,
        ⟨(some 5), .mv (.tmp 22), none⟩])
      (.skip)))))
    (.region [
      ⟨(some 23), .bin .add (.tmp 13) (.const (.int .i64 1)), none⟩,
      ⟨(some 13), .mv (.tmp 23), none⟩])))))))
  (.seq (.region [
    ⟨(some 24), .mv (.tmp 5), none⟩,
    ⟨(some 4), .mv (.tmp 24), none⟩])
  (.ret)))), none⟩

/-- '(*hostler/cell.Memory).Count' -/
def F39 : AFunc := ⟨9, [.tmp 2],
  .seq (.region [
    ⟨(some 2), .mv (.const (.int .i64 0)), none⟩])
  (.seq (.seq (.region [
    ⟨(some 3), .mv (.tmp 0), none⟩,
    ⟨(some 4), .cmpNil false 0 (.tmp 3) (.const .nilptr), none⟩])
  (.cond (.tmp 4)
    (.seq (.region [
      ⟨(some 2), .mv (.const (.int .i64 0)), none⟩])
    (.ret))
    (.skip)))
  (.seq (.region [
    ⟨(some 5), .mv (.tmp 0), none⟩,
    ⟨(some 6), .nilCheck (.tmp 5), none⟩,
    ⟨(some 7), .fieldAddr 1 (.tmp 6), none⟩,
    ⟨(some 8), .load1 (.tmp 7), none⟩,
    ⟨(some 2), .mv (.tmp 8), none⟩])
  (.ret))), none⟩

/-- '(hostler/status.Table).Set' -/
def F40 : AFunc := ⟨25, [.tmp 8],
  .seq (.region [
    ⟨(some 4), .box (.tmp 0), none⟩,
    ⟨(some 8), .mv (.const (.bool false)), none⟩])
  (.seq (.region [
    ⟨(some 9), .loadN 2 (.tmp 4), none⟩,
    ⟨(some 10), .mv (.tmp 2), none⟩,
    ⟨(some 11), .call 58 [(.tmp 9), (.tmp 10)], none⟩,
    ⟨(some 12), .mv (.tmp 11), none⟩,
    ⟨(some 13), .mv (.tmp 3), (some (12, true))⟩,
    ⟨(some 14), .bin .lss (.tmp 13) (.const (.int .u64 7)), (some (12, true))⟩,
    ⟨(some 15), .pick (.tmp 12) (.tmp 14) (.const (.bool false)), none⟩,
    ⟨(some 16), .mv (.tmp 15), none⟩,
    ⟨(some 17), .mv (.tmp 1), (some (16, true))⟩,
    ⟨(some 18), .fieldAddr 0 (.tmp 4), (some (16, true))⟩,
    ⟨(some 19), .load1 (.tmp 18), (some (16, true))⟩,
    ⟨(some 20), .mv (.tmp 2), (some (16, true))⟩,
    ⟨(some 21), .bin .add (.tmp 19) (.tmp 20), (some (16, true))⟩,
    ⟨(some 22), .mv (.tmp 3), (some (16, true))⟩,
    ⟨(some 23), .call 62 [(.tmp 17), (.tmp 21), (.tmp 22)], (some (16, true))⟩,
    ⟨(some 24), .pick (.tmp 16) (.tmp 23) (.const (.bool false)), none⟩,
    ⟨(some 8), .mv (.tmp 24), none⟩])
  (.ret)), none⟩

/-- '(*hostler/cell.Memory).Load' -/
def F41 : AFunc := ⟨14, [.tmp 4],
  .seq (.region [
    ⟨(some 4), .mv (.const (.int .u64 0)), none⟩])
  (.seq (.seq (.region [
    ⟨(some 6), .mv (.tmp 0), none⟩,
    ⟨(some 7), .mv (.tmp 1), none⟩,
    ⟨(some 8), .call 63 [(.tmp 6), (.tmp 7)], none⟩,
    ⟨(some 5), .mv (.tmp 8), none⟩])
  (.seq (.region [
    ⟨(some 9), .mv (.tmp 5), none⟩,
    ⟨(some 10), .cmpNil true 0 (.tmp 9) (.const .nilptr), none⟩])
  (.cond (.tmp 10)
    (.seq (.region [
      ⟨(some 11), .mv (.tmp 5), none⟩,
      ⟨(some 12), .nilCheck (.tmp 11), none⟩,
      ⟨(some 13), .load1 (.tmp 12), none⟩,
      ⟨(some 4), .mv (.tmp 13), none⟩])
    (.ret))
    (.skip))))
  (.seq (.region [
    ⟨(some 4), .mv (.const (.int .u64 0)), none⟩])
  (.ret))), none⟩

/-- 'hostler/hostlerlaw17.lives' -/
def F42 : AFunc := ⟨17, [.tmp 0],
  .seq (.region [
    ⟨(some 0), .mv (.const (.bool false)), none⟩])
  (.seq (.region [
    ⟨(some 2), .build [(.int .i64 0), (.int .i64 0), (.int .i64 0), (.int .i64 0), (.int .i64 0)] [((0, 1), (.const (.int .i64 0)))], none⟩,
    ⟨(some 3), .build [(.int .i64 0), (.int .i64 0), (.int .i64 0), (.int .i64 0), (.int .i64 0)] [((0, 1), (.const (.int .i64 2)))], none⟩,
    ⟨(some 4), .build [(.int .i64 0), (.int .i64 0), (.int .i64 0), (.int .i64 0), (.int .i64 0)] [((0, 1), (.const (.int .i64 2)))], none⟩,
    ⟨(some 5), .buildSlice [(.int .i64 0), (.int .i64 0), (.int .i64 0), (.int .i64 0), (.int .i64 0), (.int .i64 0), (.int .i64 0), (.int .i64 0), (.int .i64 0), (.int .i64 0), (.int .i64 0), (.int .i64 0), (.int .i64 0), (.int .i64 0), (.int .i64 0)] 3 [((0, 5), (.tmp 2)), ((5, 5), (.tmp 3)), ((10, 5), (.tmp 4))], none⟩,
    ⟨(some 6), .call 53 [(.const (.int .i64 1)), (.const (.int .i64 1)), (.const (.int .i64 1)), (.tmp 5)], none⟩,
    ⟨(some 1), .mv (.tmp 6), none⟩])
  (.seq (.region [
    ⟨(some 7), .mv (.tmp 1), none⟩,
    ⟨(some 8), .lenS (.tmp 7), none⟩,
    ⟨(some 9), .bin .eql (.tmp 8) (.const (.int .i64 1)), none⟩,
    ⟨(some 10), .mv (.tmp 9), none⟩,
    ⟨(some 11), .mv (.tmp 1), (some (10, true))⟩,
    ⟨(some 12), .idxAddr 2 none (.tmp 11) (.const (.int .i64 0)), (some (10, true))⟩,
    ⟨(some 13), .loadN 2 (.tmp 12), (some (10, true))⟩,
    ⟨(some 14), .build [(.int .u8 0), (.int .i64 0)] [((0, 1), (.const (.int .u8 1))), ((1, 1), (.const (.int .i64 2)))], (some (10, true))⟩,
    ⟨(some 15), .eqStruct false [(0, 0), (1, 0)] (.tmp 13) (.tmp 14), (some (10, true))⟩,
    ⟨(some 16), .pick (.tmp 10) (.tmp 15) (.const (.bool false)), none⟩,
    ⟨(some 0), .mv (.tmp 16), none⟩])
  (.ret))), none⟩

/-- 'hostler/model.New' -/
def F43 : AFunc := ⟨18, [.tmp 6],
  .seq (.region [
    ⟨(some 6), .mv (.const .nilptr), none⟩])
  (.seq (.region [
    ⟨(some 7), .mv (.tmp 0), none⟩,
    ⟨(some 8), .max2 (.const (.int .i64 0)) (.tmp 7), none⟩,
    ⟨(some 9), .mv (.tmp 1), none⟩,
    ⟨(some 10), .max2 (.const (.int .i64 0)) (.tmp 9), none⟩,
    ⟨(some 11), .mv (.tmp 2), none⟩,
    ⟨(some 12), .max2 (.const (.int .i64 0)) (.tmp 11), none⟩,
    ⟨(some 13), .mkslice 1 8 [(.int .u64 0)] (.tmp 12) (.tmp 12), none⟩,
    ⟨(some 14), .mkmap, none⟩,
    ⟨(some 15), .mkmap, none⟩,
    ⟨(some 16), .build [(.int .i64 0), (.int .i64 0), .nilslice, .nilmap, .nilmap] [((0, 1), (.tmp 8)), ((1, 1), (.tmp 10)), ((2, 1), (.tmp 13)), ((3, 1), (.tmp 14)), ((4, 1), (.tmp 15))], none⟩,
    ⟨(some 17), .box (.tmp 16), none⟩,
    ⟨(some 6), .mv (.tmp 17), none⟩])
  (.ret)), none⟩

/-- '(*hostler/model.Model).Add' -/
def F44 : AFunc := ⟨71, [.tmp 4, .tmp 5],
  .seq (.region [
    ⟨(some 3), .box (.tmp 1), none⟩,
    ⟨(some 4), .mv (.const (.int .u8 0)), none⟩,
    ⟨(some 5), .mv (.const (.bool false)), none⟩])
  (.seq (.seq (.region [
    ⟨(some 9), .mv (.tmp 0), none⟩,
    ⟨(some 10), .loadN 5 (.tmp 3), none⟩,
    ⟨(some 11), .call 64 [(.tmp 9), (.tmp 10)], none⟩,
    ⟨(some 8), .mv (.tmp 11), none⟩,
    ⟨(some 12), .extract 0 (.tmp 8), none⟩,
    ⟨(some 13), .extract 1 (.tmp 8), none⟩,
    ⟨(some 6), .mv (.tmp 12), none⟩,
    ⟨(some 7), .mv (.tmp 13), none⟩])
  (.seq (.region [
    ⟨(some 14), .mv (.tmp 7), none⟩])
  (.cond (.tmp 14)
    (.seq (.region [
      ⟨(some 15), .mv (.tmp 6), none⟩,
      ⟨(some 4), .mv (.tmp 15), none⟩,
      ⟨(some 5), .mv (.const (.bool false)), none⟩])
    (.ret))
    (.skip))))
  (.seq (.draw [
    (⟨(some 17), .mv (.tmp 0), none⟩, .still),
    (⟨(some 18), .nilCheck (.tmp 17), none⟩, .still),
    (⟨(some 19), .fieldAddr 2 (.tmp 18), none⟩, .still),
    (⟨(some 20), .load1 (.tmp 19), none⟩, .reads 0 1),
    (⟨(some 21), .fieldAddr 1 (.tmp 3), none⟩, .still),
    (⟨(some 22), .load1 (.tmp 21), none⟩, .reads 0 1),
    (⟨(some 23), .loadN 5 (.tmp 3), none⟩, .reads 0 0),
    (⟨(some 24), .call 21 [(.tmp 23)], none⟩, .loud),
    (⟨(some 16), .mv (.tmp 24), none⟩, .still),
    (⟨(some 25), .extract 0 (.tmp 16), none⟩, .still),
    (⟨(some 26), .extract 1 (.tmp 16), none⟩, .still),
    (⟨(some 27), .extract 2 (.tmp 16), none⟩, .still),
    (⟨(some 28), .idxAddr 1 none (.tmp 20) (.tmp 22), none⟩, .still),
    (⟨none, .store 1 (.tmp 28) (.tmp 26), none⟩, .loud)])
  (.seq (.block 0 (.seq (.region [
    ⟨(some 42), .loadN 5 (.tmp 3), none⟩,
    ⟨(some 43), .call 65 [(.tmp 42)], none⟩,
    ⟨(some 41), .mv (.tmp 43), none⟩])
  (.cond (.tmp 41)
    (.skip)
    (.seq (.region [
      ⟨(some 45), .fieldAddr 0 (.tmp 3), none⟩,
      ⟨(some 46), .load1 (.tmp 45), none⟩,
      ⟨(some 47), .bin .eql (.tmp 46) (.const (.int .i64 2)), none⟩,
      ⟨(some 44), .mv (.tmp 47), none⟩])
    (.cond (.tmp 44)
      (.draw [
        (⟨(some 48), .mv (.tmp 0), none⟩, .still),
        (⟨(some 49), .nilCheck (.tmp 48), none⟩, .still),
        (⟨(some 50), .fieldAddr 3 (.tmp 49), none⟩, .still),
        (⟨(some 51), .load1 (.tmp 50), none⟩, .reads 0 0),
        (⟨(some 52), .fieldAddr 2 (.tmp 3), none⟩, .still),
        (⟨(some 53), .load1 (.tmp 52), none⟩, .reads 0 0),
        (⟨(some 54), .mv (.tmp 0), none⟩, .still),
        (⟨(some 55), .nilCheck (.tmp 54), none⟩, .still),
        (⟨(some 56), .fieldAddr 4 (.tmp 55), none⟩, .still),
        (⟨(some 57), .load1 (.tmp 56), none⟩, .reads 0 0),
        (⟨(some 58), .fieldAddr 3 (.tmp 3), none⟩, .still),
        (⟨(some 59), .load1 (.tmp 58), none⟩, .reads 0 2),
        (⟨(some 60), .fieldAddr 1 (.tmp 3), none⟩, .still),
        (⟨(some 61), .load1 (.tmp 60), none⟩, .reads 0 1),
        (⟨(some 62), .fieldAddr 3 (.tmp 3), none⟩, .still),
        (⟨(some 63), .load1 (.tmp 62), none⟩, .reads 0 1),
        (⟨(some 64), .build [(.int .i64 0), (.int .i64 0)] [((0, 1), (.tmp 61)), ((1, 1), (.tmp 63))], none⟩, .still),
        (⟨(some 65), .fieldAddr 2 (.tmp 3), none⟩, .still),
        (⟨(some 66), .load1 (.tmp 65), none⟩, .reads 0 3),
        (⟨(some 67), .mapEntry (.agg [(.int .i64 0), (.int .i64 0)]) (.tmp 51) (.tmp 53), none⟩, .loud),
        (⟨(some 68), .extract 1 (.tmp 67), none⟩, .still),
        (⟨none, .entryStore (.tmp 51) (.tmp 68) (.tmp 64), none⟩, .loud),
        (⟨(some 69), .mapEntry (.int .i64 0) (.tmp 57) (.tmp 59), none⟩, .loud),
        (⟨(some 70), .extract 1 (.tmp 69), none⟩, .still),
        (⟨none, .entryStore (.tmp 57) (.tmp 70) (.tmp 66), none⟩, .loud)])
      (.seq (.draw [
        (⟨(some 29), .mv (.tmp 0), none⟩, .still),
        (⟨(some 30), .nilCheck (.tmp 29), none⟩, .still),
        (⟨(some 31), .fieldAddr 3 (.tmp 30), none⟩, .still),
        (⟨(some 32), .load1 (.tmp 31), none⟩, .reads 0 0),
        (⟨(some 33), .fieldAddr 2 (.tmp 3), none⟩, .still),
        (⟨(some 34), .load1 (.tmp 33), none⟩, .reads 0 0),
        (⟨none, .delete (.tmp 32) (.tmp 34), none⟩, .loud)])
      (.draw [
        (⟨(some 35), .mv (.tmp 0), none⟩, .still),
        (⟨(some 36), .nilCheck (.tmp 35), none⟩, .still),
        (⟨(some 37), .fieldAddr 4 (.tmp 36), none⟩, .still),
        (⟨(some 38), .load1 (.tmp 37), none⟩, .reads 0 0),
        (⟨(some 39), .fieldAddr 3 (.tmp 3), none⟩, .still),
        (⟨(some 40), .load1 (.tmp 39), none⟩, .reads 0 0),
        (⟨none, .delete (.tmp 38) (.tmp 40), none⟩, .loud)])))))))
  (.seq (.region [
    ⟨(some 4), .mv (.const (.int .u8 0)), none⟩,
    ⟨(some 5), .mv (.const (.bool true)), none⟩])
  (.ret))))), none⟩

/-- '(*hostler/model.Model).Status' -/
def F45 : AFunc := ⟨23, [.tmp 4],
  .seq (.region [
    ⟨(some 4), .mv (.const (.int .u64 0)), none⟩])
  (.seq (.seq (.region [
    ⟨(some 5), .mv (.tmp 1), none⟩,
    ⟨(some 6), .bin .lss (.tmp 5) (.const (.int .i64 0)), none⟩,
    ⟨(some 7), .mv (.tmp 6), none⟩,
    ⟨(some 8), .mv (.tmp 1), (some (7, false))⟩,
    ⟨(some 9), .mv (.tmp 0), (some (7, false))⟩,
    ⟨(some 10), .nilCheck (.tmp 9), (some (7, false))⟩,
    ⟨(some 11), .fieldAddr 2 (.tmp 10), (some (7, false))⟩,
    ⟨(some 12), .load1 (.tmp 11), (some (7, false))⟩,
    ⟨(some 13), .lenS (.tmp 12), (some (7, false))⟩,
    ⟨(some 14), .bin .geq (.tmp 8) (.tmp 13), (some (7, false))⟩,
    ⟨(some 15), .pick (.tmp 7) (.const (.bool true)) (.tmp 14), none⟩])
  (.cond (.tmp 15)
    (.seq (.region [
      ⟨(some 4), .mv (.const (.int .u64 0)), none⟩])
    (.ret))
    (.skip)))
  (.seq (.region [
    ⟨(some 16), .mv (.tmp 0), none⟩,
    ⟨(some 17), .nilCheck (.tmp 16), none⟩,
    ⟨(some 18), .fieldAddr 2 (.tmp 17), none⟩,
    ⟨(some 19), .load1 (.tmp 18), none⟩,
    ⟨(some 20), .mv (.tmp 1), none⟩,
    ⟨(some 21), .idxAddr 1 none (.tmp 19) (.tmp 20), none⟩,
    ⟨(some 22), .load1 (.tmp 21), none⟩,
    ⟨(some 4), .mv (.tmp 22), none⟩])
  (.ret))), none⟩

/-- '(*hostler/model.Model).Running' -/
def F46 : AFunc := ⟨8, [.tmp 2],
  .seq (.region [
    ⟨(some 2), .mv (.const (.int .i64 0)), none⟩])
  (.seq (.region [
    ⟨(some 3), .mv (.tmp 0), none⟩,
    ⟨(some 4), .nilCheck (.tmp 3), none⟩,
    ⟨(some 5), .fieldAddr 3 (.tmp 4), none⟩,
    ⟨(some 6), .load1 (.tmp 5), none⟩,
    ⟨(some 7), .lenM (.tmp 6), none⟩,
    ⟨(some 2), .mv (.tmp 7), none⟩])
  (.ret)), none⟩

/-- '(*hostler/model.Model).Runs' -/
def F47 : AFunc := ⟨22, [.tmp 4, .tmp 5, .tmp 6],
  .seq (.region [
    ⟨(some 4), .mv (.const (.int .i64 0)), none⟩,
    ⟨(some 5), .mv (.const (.int .i64 0)), none⟩,
    ⟨(some 6), .mv (.const (.bool false)), none⟩])
  (.seq (.region [
    ⟨(some 9), .mv (.tmp 0), none⟩,
    ⟨(some 10), .nilCheck (.tmp 9), none⟩,
    ⟨(some 11), .fieldAddr 3 (.tmp 10), none⟩,
    ⟨(some 12), .load1 (.tmp 11), none⟩,
    ⟨(some 13), .mv (.tmp 1), none⟩,
    ⟨(some 14), .lookup (.agg [(.int .i64 0), (.int .i64 0)]) true (.tmp 12) (.tmp 13), none⟩,
    ⟨(some 8), .mv (.tmp 14), none⟩,
    ⟨(some 15), .extract 0 (.tmp 8), none⟩,
    ⟨(some 16), .extract 1 (.tmp 8), none⟩,
    ⟨(some 7), .alloc [(.int .i64 0), (.int .i64 0)], none⟩,
    ⟨none, .store 2 (.tmp 7) (.tmp 15), none⟩,
    ⟨(some 6), .mv (.tmp 16), none⟩])
  (.seq (.draw [
    (⟨(some 17), .fieldAddr 0 (.tmp 7), none⟩, .still),
    (⟨(some 18), .load1 (.tmp 17), none⟩, .reads 0 0),
    (⟨(some 19), .fieldAddr 1 (.tmp 7), none⟩, .still),
    (⟨(some 20), .load1 (.tmp 19), none⟩, .reads 0 0),
    (⟨(some 21), .mv (.tmp 6), none⟩, .still),
    (⟨(some 4), .mv (.tmp 18), none⟩, .still),
    (⟨(some 5), .mv (.tmp 20), none⟩, .still),
    (⟨(some 6), .mv (.tmp 21), none⟩, .still)])
  (.ret))), none⟩

/-- 'hostler/hostlerref17.Wrong' -/
def F48 : AFunc := ⟨115, [.tmp 10],
  .seq (.region [
    ⟨(some 9), .box (.tmp 4), none⟩,
    ⟨(some 10), .mv (.const (.int .i64 0)), none⟩])
  (.seq (.seq (.region [
    ⟨(some 18), .loadN 5 (.tmp 9), none⟩,
    ⟨(some 19), .call 24 [(.tmp 18)], none⟩,
    ⟨(some 20), .un .not (.tmp 19), none⟩,
    ⟨(some 21), .mv (.tmp 20), none⟩,
    ⟨(some 22), .fieldAddr 1 (.tmp 9), (some (21, false))⟩,
    ⟨(some 23), .load1 (.tmp 22), (some (21, false))⟩,
    ⟨(some 24), .mv (.tmp 2), (some (21, false))⟩,
    ⟨(some 25), .bin .geq (.tmp 23) (.tmp 24), (some (21, false))⟩,
    ⟨(some 26), .pick (.tmp 21) (.const (.bool true)) (.tmp 25), none⟩,
    ⟨(some 27), .mv (.tmp 26), none⟩,
    ⟨(some 28), .fieldAddr 2 (.tmp 9), (some (27, false))⟩,
    ⟨(some 29), .load1 (.tmp 28), (some (27, false))⟩,
    ⟨(some 30), .mv (.tmp 1), (some (27, false))⟩,
    ⟨(some 31), .bin .geq (.tmp 29) (.tmp 30), (some (27, false))⟩,
    ⟨(some 32), .pick (.tmp 27) (.const (.bool true)) (.tmp 31), none⟩,
    ⟨(some 33), .mv (.tmp 32), none⟩,
    ⟨(some 34), .fieldAddr 3 (.tmp 9), (some (33, false))⟩,
    ⟨(some 35), .load1 (.tmp 34), (some (33, false))⟩,
    ⟨(some 36), .mv (.tmp 0), (some (33, false))⟩,
    ⟨(some 37), .bin .geq (.tmp 35) (.tmp 36), (some (33, false))⟩,
    ⟨(some 38), .pick (.tmp 33) (.const (.bool true)) (.tmp 37), none⟩,
    ⟨(some 39), .mv (.tmp 38), none⟩,
    ⟨(some 40), .fieldAddr 0 (.tmp 9), (some (39, false))⟩,
    ⟨(some 41), .load1 (.tmp 40), (some (39, false))⟩,
    ⟨(some 42), .bin .gtr (.tmp 41) (.const (.int .i64 1)), (some (39, false))⟩,
    ⟨(some 43), .mv (.tmp 42), (some (39, false))⟩,
    ⟨(some 44), .fieldAddr 2 (.tmp 9), (some (43, true))⟩,
    ⟨(some 45), .load1 (.tmp 44), (some (43, true))⟩,
    ⟨(some 46), .bin .lss (.tmp 45) (.const (.int .i64 0)), (some (43, true))⟩,
    ⟨(some 47), .mv (.tmp 46), (some (43, true))⟩,
    ⟨(some 48), .fieldAddr 3 (.tmp 9), (some (47, false))⟩,
    ⟨(some 49), .load1 (.tmp 48), (some (47, false))⟩,
    ⟨(some 50), .bin .lss (.tmp 49) (.const (.int .i64 0)), (some (47, false))⟩,
    ⟨(some 51), .pick (.tmp 47) (.const (.bool true)) (.tmp 50), (some (43, true))⟩,
    ⟨(some 52), .pick (.tmp 43) (.tmp 51) (.const (.bool false)), (some (39, false))⟩,
    ⟨(some 53), .pick (.tmp 39) (.const (.bool true)) (.tmp 52), none⟩])
  (.cond (.tmp 53)
    (.seq (.region [
      ⟨(some 10), .mv (.const (.int .i64 0)), none⟩])
    (.ret))
    (.skip)))
  (.seq (.region [
    ⟨(some 54), .mv (.tmp 3), none⟩,
    ⟨(some 55), .fieldAddr 1 (.tmp 9), none⟩,
    ⟨(some 56), .load1 (.tmp 55), none⟩,
    ⟨(some 57), .call 49 [(.tmp 54), (.tmp 56)], none⟩,
    ⟨(some 11), .mv (.tmp 57), none⟩])
  (.seq (.region [
    ⟨(some 59), .fieldAddr 0 (.tmp 9), none⟩,
    ⟨(some 60), .load1 (.tmp 59), none⟩,
    ⟨(some 61), .call 22 [(.tmp 60)], none⟩,
    ⟨(some 58), .mv (.tmp 61), none⟩,
    ⟨(some 62), .extract 0 (.tmp 58), none⟩,
    ⟨(some 63), .extract 1 (.tmp 58), none⟩,
    ⟨(some 64), .extract 2 (.tmp 58), none⟩,
    ⟨(some 12), .mv (.tmp 62), none⟩,
    ⟨(some 13), .mv (.tmp 63), none⟩,
    ⟨(some 14), .mv (.tmp 64), none⟩])
  (.seq (.seq (.region [
    ⟨(some 65), .fieldAddr 0 (.tmp 9), none⟩,
    ⟨(some 66), .load1 (.tmp 65), none⟩,
    ⟨(some 67), .bin .eql (.tmp 66) (.const (.int .i64 1)), none⟩])
  (.cond (.tmp 67)
    (.seq (.seq (.region [
      ⟨(some 68), .mv (.tmp 11), none⟩,
      ⟨(some 69), .bin .lss (.tmp 68) (.const (.int .i64 3)), none⟩,
      ⟨(some 70), .mv (.tmp 69), none⟩,
      ⟨(some 71), .mv (.tmp 11), (some (70, false))⟩,
      ⟨(some 72), .toInt .u64 (.tmp 71), (some (70, false))⟩,
      ⟨(some 73), .call 16 [(.tmp 72), (.const (.int .u64 1))], (some (70, false))⟩,
      ⟨(some 74), .un .not (.tmp 73), (some (70, false))⟩,
      ⟨(some 75), .pick (.tmp 70) (.const (.bool true)) (.tmp 74), none⟩])
    (.cond (.tmp 75)
      (.seq (.region [
        ⟨(some 10), .mv (.const (.int .i64 1)), none⟩])
      (.ret))
      (.skip)))
    (.seq (.region [
      ⟨(some 10), .mv (.const (.int .i64 (-1))), none⟩])
    (.ret)))
    (.skip)))
  (.seq (.seq (.region [
    ⟨(some 76), .mv (.tmp 11), none⟩,
    ⟨(some 77), .mv (.tmp 12), none⟩,
    ⟨(some 78), .bin .neq (.tmp 76) (.tmp 77), none⟩])
  (.cond (.tmp 78)
    (.seq (.region [
      ⟨(some 10), .mv (.const (.int .i64 1)), none⟩])
    (.ret))
    (.skip)))
  (.seq (.seq (.region [
    ⟨(some 79), .fieldAddr 0 (.tmp 9), none⟩,
    ⟨(some 80), .load1 (.tmp 79), none⟩,
    ⟨(some 81), .bin .eql (.tmp 80) (.const (.int .i64 0)), none⟩])
  (.cond (.tmp 81)
    (.seq (.region [
      ⟨(some 10), .mv (.const (.int .i64 (-1))), none⟩])
    (.ret))
    (.skip)))
  (.seq (.region [
    ⟨(some 83), .mv (.tmp 3), none⟩,
    ⟨(some 84), .fieldAddr 2 (.tmp 9), none⟩,
    ⟨(some 85), .load1 (.tmp 84), none⟩,
    ⟨(some 86), .call 50 [(.tmp 83), (.tmp 85)], none⟩,
    ⟨(some 82), .mv (.tmp 86), none⟩,
    ⟨(some 87), .extract 0 (.tmp 82), none⟩,
    ⟨(some 88), .extract 1 (.tmp 82), none⟩,
    ⟨(some 89), .extract 2 (.tmp 82), none⟩,
    ⟨(some 15), .mv (.tmp 87), none⟩,
    ⟨(some 16), .mv (.tmp 88), none⟩,
    ⟨(some 17), .mv (.tmp 89), none⟩])
  (.seq (.seq (.region [
    ⟨(some 90), .fieldAddr 0 (.tmp 9), none⟩,
    ⟨(some 91), .load1 (.tmp 90), none⟩,
    ⟨(some 92), .bin .eql (.tmp 91) (.const (.int .i64 2)), none⟩])
  (.cond (.tmp 92)
    (.seq (.seq (.region [
      ⟨(some 93), .mv (.tmp 17), none⟩,
      ⟨(some 94), .mv (.tmp 93), none⟩,
      ⟨(some 95), .mv (.tmp 3), (some (94, false))⟩,
      ⟨(some 96), .mv (.tmp 1), (some (94, false))⟩,
      ⟨(some 97), .fieldAddr 3 (.tmp 9), (some (94, false))⟩,
      ⟨(some 98), .load1 (.tmp 97), (some (94, false))⟩,
      ⟨(some 99), .call 66 [(.tmp 95), (.tmp 96), (.tmp 98)], (some (94, false))⟩,
      ⟨(some 100), .pick (.tmp 94) (.const (.bool true)) (.tmp 99), none⟩])
    (.cond (.tmp 100)
      (.seq (.region [
        ⟨(some 10), .mv (.const (.int .i64 2)), none⟩])
      (.ret))
      (.skip)))
    (.seq (.region [
      ⟨(some 10), .mv (.const (.int .i64 (-1))), none⟩])
    (.ret)))
    (.skip)))
  (.seq (.seq (.region [
    ⟨(some 101), .mv (.tmp 17), none⟩,
    ⟨(some 102), .un .not (.tmp 101), none⟩,
    ⟨(some 103), .mv (.tmp 102), none⟩,
    ⟨(some 104), .mv (.tmp 15), (some (103, false))⟩,
    ⟨(some 105), .fieldAddr 1 (.tmp 9), (some (103, false))⟩,
    ⟨(some 106), .load1 (.tmp 105), (some (103, false))⟩,
    ⟨(some 107), .bin .neq (.tmp 104) (.tmp 106), (some (103, false))⟩,
    ⟨(some 108), .pick (.tmp 103) (.const (.bool true)) (.tmp 107), none⟩,
    ⟨(some 109), .mv (.tmp 108), none⟩,
    ⟨(some 110), .mv (.tmp 16), (some (109, false))⟩,
    ⟨(some 111), .fieldAddr 3 (.tmp 9), (some (109, false))⟩,
    ⟨(some 112), .load1 (.tmp 111), (some (109, false))⟩,
    ⟨(some 113), .bin .neq (.tmp 110) (.tmp 112), (some (109, false))⟩,
    ⟨(some 114), .pick (.tmp 109) (.const (.bool true)) (.tmp 113), none⟩])
  (.cond (.tmp 114)
    (.seq (.region [
      ⟨(some 10), .mv (.const (.int .i64 3)), none⟩])
    (.ret))
    (.skip)))
  (.seq (.region [
    ⟨(some 10), .mv (.const (.int .i64 (-1))), none⟩])
  (.ret))))))))))), none⟩

/-- 'hostler/hostlerref17.Status' -/
def F49 : AFunc := ⟨31, [.tmp 4],
  .seq (.region [
    ⟨(some 4), .mv (.const (.int .i64 0)), none⟩])
  (.seq (.region [
    ⟨(some 5), .mv (.const (.int .i64 0)), none⟩])
  (.seq (.seq (.region [
    ⟨(some 11), .mv (.tmp 0), none⟩,
    ⟨(some 12), .lenS (.tmp 11), none⟩,
    ⟨(some 13), .mv (.const (.int .i64 0)), none⟩])
  (.block 0 (.loop (.seq (.region [
      ⟨(some 14), .bin .lss (.tmp 13) (.tmp 12), none⟩])
    (.seq (.cond (.tmp 14)
      (.skip)
      (.exit 0))
    (.seq (.block 1 (.seq (.region [
      ⟨(some 15), .idxAddr 5 none (.tmp 11) (.tmp 13), none⟩,
      ⟨(some 16), .loadN 5 (.tmp 15), none⟩,
      ⟨(some 7), .alloc [(.int .i64 0), (.int .i64 0), (.int .i64 0), (.int .i64 0), (.int .i64 0)], none⟩,
      ⟨none, .store 5 (.tmp 7) (.tmp 16), none⟩])
    (.seq (.region [
      ⟨(some 17), .fieldAddr 1 (.tmp 7), none⟩,
      ⟨(some 18), .load1 (.tmp 17), none⟩,
      ⟨(some 19), .mv (.tmp 1), none⟩,
      ⟨(some 20), .bin .eql (.tmp 18) (.tmp 19), none⟩])
    (.cond (.tmp 20)
      (.seq (.region [
        ⟨(some 22), .fieldAddr 0 (.tmp 7), none⟩,
        ⟨(some 23), .load1 (.tmp 22), none⟩,
        ⟨(some 24), .call 22 [(.tmp 23)], none⟩,
        ⟨(some 21), .mv (.tmp 24), none⟩,
        ⟨(some 25), .extract 0 (.tmp 21), none⟩,
        ⟨(some 26), .extract 1 (.tmp 21), none⟩,
        ⟨(some 27), .extract 2 (.tmp 21), none⟩,
        ⟨(some 8), .mv (.tmp 25), none⟩,
        ⟨(some 9), .mv (.tmp 26), none⟩,
        ⟨(some 10), .mv (.tmp 27), none⟩])
      (.region [
        ⟨(some 28), .mv (.tmp 9), none⟩,
        ⟨(some 5), .mv (.tmp 28), none⟩]))
      (.skip)))))
    (.region [
      ⟨(some 29), .bin .add (.tmp 13) (.const (.int .i64 1)), none⟩,
      ⟨(some 13), .mv (.tmp 29), none⟩])))))))
  (.seq (.region [
    ⟨(some 30), .mv (.tmp 5), none⟩,
    ⟨(some 4), .mv (.tmp 30), none⟩])
  (.ret)))), none⟩

/-- 'hostler/hostlerref17.Runs' -/
def F50 : AFunc := ⟨39, [.tmp 4, .tmp 5, .tmp 6],
  .seq (.region [
    ⟨(some 4), .mv (.const (.int .i64 0)), none⟩,
    ⟨(some 5), .mv (.const (.int .i64 0)), none⟩,
    ⟨(some 6), .mv (.const (.bool false)), none⟩])
  (.seq (.region [
    ⟨(some 7), .mv (.const (.int .i64 0)), none⟩])
  (.seq (.region [
    ⟨(some 8), .mv (.const (.int .i64 0)), none⟩])
  (.seq (.region [
    ⟨(some 9), .mv (.const (.bool false)), none⟩])
  (.seq (.seq (.region [
    ⟨(some 12), .mv (.tmp 0), none⟩,
    ⟨(some 13), .lenS (.tmp 12), none⟩,
    ⟨(some 14), .mv (.const (.int .i64 0)), none⟩])
  (.block 0 (.loop (.seq (.region [
      ⟨(some 15), .bin .lss (.tmp 14) (.tmp 13), none⟩])
    (.seq (.cond (.tmp 15)
      (.skip)
      (.exit 0))
    (.seq (.block 1 (.seq (.region [
      ⟨(some 16), .idxAddr 5 none (.tmp 12) (.tmp 14), none⟩,
      ⟨(some 17), .loadN 5 (.tmp 16), none⟩,
      ⟨(some 11), .alloc [(.int .i64 0), (.int .i64 0), (.int .i64 0), (.int .i64 0), (.int .i64 0)], none⟩,
      ⟨none, .store 5 (.tmp 11) (.tmp 17), none⟩])
    (.seq (.seq (.region [
      ⟨(some 18), .fieldAddr 0 (.tmp 11), none⟩,
      ⟨(some 19), .load1 (.tmp 18), none⟩,
      ⟨(some 20), .bin .lss (.tmp 19) (.const (.int .i64 2)), none⟩,
      ⟨(some 21), .mv (.tmp 20), none⟩,
      ⟨(some 22), .fieldAddr 2 (.tmp 11), (some (21, false))⟩,
      ⟨(some 23), .load1 (.tmp 22), (some (21, false))⟩,
      ⟨(some 24), .mv (.tmp 1), (some (21, false))⟩,
      ⟨(some 25), .bin .neq (.tmp 23) (.tmp 24), (some (21, false))⟩,
      ⟨(some 26), .pick (.tmp 21) (.const (.bool true)) (.tmp 25), none⟩])
    (.cond (.tmp 26)
      (.exit 1)
      (.skip)))
    (.seq (.region [
      ⟨(some 27), .fieldAddr 0 (.tmp 11), none⟩,
      ⟨(some 28), .load1 (.tmp 27), none⟩,
      ⟨(some 29), .bin .eql (.tmp 28) (.const (.int .i64 2)), none⟩,
      ⟨(some 9), .mv (.tmp 29), none⟩])
    (.seq (.region [
      ⟨(some 7), .mv (.const (.int .i64 0)), none⟩])
    (.seq (.region [
      ⟨(some 8), .mv (.const (.int .i64 0)), none⟩])
    (.seq (.region [
      ⟨(some 30), .mv (.tmp 9), none⟩])
    (.cond (.tmp 30)
      (.seq (.region [
        ⟨(some 31), .fieldAddr 1 (.tmp 11), none⟩,
        ⟨(some 32), .load1 (.tmp 31), none⟩,
        ⟨(some 7), .mv (.tmp 32), none⟩])
      (.region [
        ⟨(some 33), .fieldAddr 3 (.tmp 11), none⟩,
        ⟨(some 34), .load1 (.tmp 33), none⟩,
        ⟨(some 8), .mv (.tmp 34), none⟩]))
      (.skip)))))))))
    (.region [
      ⟨(some 35), .bin .add (.tmp 14) (.const (.int .i64 1)), none⟩,
      ⟨(some 14), .mv (.tmp 35), none⟩])))))))
  (.seq (.region [
    ⟨(some 36), .mv (.tmp 7), none⟩,
    ⟨(some 37), .mv (.tmp 8), none⟩,
    ⟨(some 38), .mv (.tmp 9), none⟩,
    ⟨(some 4), .mv (.tmp 36), none⟩,
    ⟨(some 5), .mv (.tmp 37), none⟩,
    ⟨(some 6), .mv (.tmp 38), none⟩])
  (.ret)))))), none⟩

/-- 'hostler/hostlerref05.Same' -/
def F51 : AFunc := ⟨26, [.tmp 4],
  .seq (.region [
    ⟨(some 4), .mv (.const (.bool false)), none⟩])
  (.seq (.seq (.region [
    ⟨(some 6), .mv (.tmp 0), none⟩,
    ⟨(some 7), .lenS (.tmp 6), none⟩,
    ⟨(some 8), .mv (.tmp 1), none⟩,
    ⟨(some 9), .lenS (.tmp 8), none⟩,
    ⟨(some 10), .bin .neq (.tmp 7) (.tmp 9), none⟩])
  (.cond (.tmp 10)
    (.seq (.region [
      ⟨(some 4), .mv (.const (.bool false)), none⟩])
    (.ret))
    (.skip)))
  (.seq (.seq (.region [
    ⟨(some 11), .mv (.tmp 0), none⟩,
    ⟨(some 12), .lenS (.tmp 11), none⟩,
    ⟨(some 13), .mv (.const (.int .i64 0)), none⟩])
  (.block 0 (.loop (.seq (.region [
      ⟨(some 14), .bin .lss (.tmp 13) (.tmp 12), none⟩])
    (.seq (.cond (.tmp 14)
      (.skip)
      (.exit 0))
    (.seq (.block 1 (.seq (.region [
      ⟨(some 15), .mv (.tmp 13), none⟩,
      ⟨(some 5), .mv (.tmp 15), none⟩])
    (.seq (.draw [
      (⟨(some 16), .mv (.tmp 0), none⟩, .still),
      (⟨(some 17), .mv (.tmp 5), none⟩, .still),
      (⟨(some 18), .idxAddr 1 none (.tmp 16) (.tmp 17), none⟩, .still),
      (⟨(some 19), .load1 (.tmp 18), none⟩, .reads 0 0),
      (⟨(some 20), .mv (.tmp 1), none⟩, .still),
      (⟨(some 21), .mv (.tmp 5), none⟩, .still),
      (⟨(some 22), .idxAddr 1 none (.tmp 20) (.tmp 21), none⟩, .still),
      (⟨(some 23), .load1 (.tmp 22), none⟩, .reads 0 0),
      (⟨(some 24), .bin .neq (.tmp 19) (.tmp 23), none⟩, .still)])
    (.cond (.tmp 24)
      (.seq (.region [
        ⟨(some 4), .mv (.const (.bool false)), none⟩])
      (.ret))
      (.skip)))))
    (.region [
      ⟨(some 25), .bin .add (.tmp 13) (.const (.int .i64 1)), none⟩,
      ⟨(some 13), .mv (.tmp 25), none⟩])))))))
  (.seq (.region [
    ⟨(some 4), .mv (.const (.bool true)), none⟩])
  (.ret)))), none⟩

/-- '(*hostler/model.Model).Runnable' -/
def F52 : AFunc := ⟨24, [.tmp 2],
  .seq (.region [
    ⟨(some 2), .mv (.const .nilslice), none⟩])
  (.seq (.region [
    ⟨(some 3), .mv (.const .nilslice), none⟩])
  (.seq (.seq (.region [
    ⟨(some 6), .mv (.tmp 0), none⟩,
    ⟨(some 7), .nilCheck (.tmp 6), none⟩,
    ⟨(some 8), .fieldAddr 2 (.tmp 7), none⟩,
    ⟨(some 9), .load1 (.tmp 8), none⟩,
    ⟨(some 10), .lenS (.tmp 9), none⟩,
    ⟨(some 11), .mv (.const (.int .i64 0)), none⟩])
  (.block 0 (.loop (.seq (.region [
      ⟨(some 12), .bin .lss (.tmp 11) (.tmp 10), none⟩])
    (.seq (.cond (.tmp 12)
      (.skip)
      (.exit 0))
    (.seq (.block 1 (.seq (.region [
      ⟨(some 13), .mv (.tmp 11), none⟩,
      ⟨(some 14), .idxAddr 1 none (.tmp 9) (.tmp 11), none⟩,
      ⟨(some 15), .load1 (.tmp 14), none⟩,
      ⟨(some 4), .mv (.tmp 13), none⟩,
      ⟨(some 5), .mv (.tmp 15), none⟩])
    (.seq (.region [
      ⟨(some 16), .mv (.tmp 5), none⟩,
      ⟨(some 17), .bin .eql (.tmp 16) (.const (.int .u64 1)), none⟩])
    (.cond (.tmp 17)
      (.region [
        ⟨(some 18), .mv (.tmp 3), none⟩,
        ⟨(some 19), .mv (.tmp 4), none⟩,
        ⟨(some 20), .buildSlice [(.int .i64 0)] 1 [((0, 1), (.tmp 19))], none⟩,
        ⟨(some 21), .append 1 8 [(.int .i64 0)] (.tmp 18) (.tmp 20), none⟩,
        ⟨(some 3), .mv (.tmp 21), none⟩])
      (.skip)))))
    (.region [
      ⟨(some 22), .bin .add (.tmp 11) (.const (.int .i64 1)), none⟩,
      ⟨(some 11), .mv (.tmp 22), none⟩])))))))
  (.seq (.region [
    ⟨(some 23), .mv (.tmp 3), none⟩,
    ⟨(some 2), .mv (.tmp 23), none⟩])
  (.ret)))), none⟩

/-- 'hostler/model.Check' -/
def F53 : AFunc := ⟨42, [.tmp 8],
  .seq (.region [
    ⟨(some 8), .mv (.const .nilslice), none⟩])
  (.seq (.region [
    ⟨(some 15), .mv (.tmp 0), none⟩,
    ⟨(some 16), .mv (.tmp 1), none⟩,
    ⟨(some 17), .mv (.tmp 2), none⟩,
    ⟨(some 18), .call 43 [(.tmp 15), (.tmp 16), (.tmp 17)], none⟩,
    ⟨(some 9), .mv (.tmp 18), none⟩])
  (.seq (.region [
    ⟨(some 10), .mv (.const .nilslice), none⟩])
  (.seq (.seq (.region [
    ⟨(some 19), .mv (.tmp 3), none⟩,
    ⟨(some 20), .lenS (.tmp 19), none⟩,
    ⟨(some 21), .mv (.const (.int .i64 0)), none⟩])
  (.block 0 (.loop (.seq (.region [
      ⟨(some 22), .bin .lss (.tmp 21) (.tmp 20), none⟩])
    (.seq (.cond (.tmp 22)
      (.skip)
      (.exit 0))
    (.seq (.block 1 (.seq (.region [
      ⟨(some 23), .mv (.tmp 21), none⟩,
      ⟨(some 24), .idxAddr 5 none (.tmp 19) (.tmp 21), none⟩,
      ⟨(some 25), .loadN 5 (.tmp 24), none⟩,
      ⟨(some 12), .alloc [(.int .i64 0), (.int .i64 0), (.int .i64 0), (.int .i64 0), (.int .i64 0)], none⟩,
      ⟨(some 11), .mv (.tmp 23), none⟩,
      ⟨none, .store 5 (.tmp 12) (.tmp 25), none⟩])
    (.seq (.region [
      ⟨(some 27), .mv (.tmp 9), none⟩,
      ⟨(some 28), .loadN 5 (.tmp 12), none⟩,
      ⟨(some 29), .call 44 [(.tmp 27), (.tmp 28)], none⟩,
      ⟨(some 26), .mv (.tmp 29), none⟩,
      ⟨(some 30), .extract 0 (.tmp 26), none⟩,
      ⟨(some 31), .extract 1 (.tmp 26), none⟩,
      ⟨(some 13), .mv (.tmp 30), none⟩,
      ⟨(some 14), .mv (.tmp 31), none⟩])
    (.seq (.region [
      ⟨(some 32), .mv (.tmp 14), none⟩,
      ⟨(some 33), .un .not (.tmp 32), none⟩])
    (.cond (.tmp 33)
      (.region [
        ⟨(some 34), .mv (.tmp 10), none⟩,
        ⟨(some 35), .mv (.tmp 13), none⟩,
        ⟨(some 36), .mv (.tmp 11), none⟩,
        ⟨(some 37), .build [(.int .u8 0), (.int .i64 0)] [((0, 1), (.tmp 35)), ((1, 1), (.tmp 36))], none⟩,
        ⟨(some 38), .buildSlice [(.int .u8 0), (.int .i64 0)] 1 [((0, 2), (.tmp 37))], none⟩,
        ⟨(some 39), .append 2 16 [(.int .u8 0), (.int .i64 0)] (.tmp 34) (.tmp 38), none⟩,
        ⟨(some 10), .mv (.tmp 39), none⟩])
      (.skip))))))
    (.region [
      ⟨(some 40), .bin .add (.tmp 21) (.const (.int .i64 1)), none⟩,
      ⟨(some 21), .mv (.tmp 40), none⟩])))))))
  (.seq (.region [
    ⟨(some 41), .mv (.tmp 10), none⟩,
    ⟨(some 8), .mv (.tmp 41), none⟩])
  (.ret))))), none⟩

/-- 'slices.Contains[[]hostler/status.Status,hostler/status.Status]' -/
def F54 : AFunc := ⟨9, [.tmp 4],
  .seq (.region [
    ⟨(some 4), .mv (.const (.bool false)), none⟩])
  (.seq (.region [
    ⟨(some 5), .mv (.tmp 0), none⟩,
    ⟨(some 6), .mv (.tmp 1), none⟩,
    ⟨(some 7), .call 67 [(.tmp 5), (.tmp 6)], none⟩,
    ⟨(some 8), .bin .geq (.tmp 7) (.const (.int .i64 0)), none⟩,
    ⟨(some 4), .mv (.tmp 8), none⟩])
  (.ret)), none⟩

/-- 'slices.Index[[]string,string]' -/
def F55 : AFunc := ⟨19, [.tmp 4],
  .seq (.region [
    ⟨(some 4), .mv (.const (.int .i64 0)), none⟩])
  (.seq (.seq (.region [
    ⟨(some 6), .mv (.tmp 0), none⟩,
    ⟨(some 7), .lenS (.tmp 6), none⟩,
    ⟨(some 8), .mv (.const (.int .i64 0)), none⟩])
  (.block 0 (.loop (.seq (.region [
      ⟨(some 9), .bin .lss (.tmp 8) (.tmp 7), none⟩])
    (.seq (.cond (.tmp 9)
      (.skip)
      (.exit 0))
    (.seq (.block 1 (.seq (.region [
      ⟨(some 10), .mv (.tmp 8), none⟩,
      ⟨(some 5), .mv (.tmp 10), none⟩])
    (.seq (.region [
      ⟨(some 11), .mv (.tmp 1), none⟩,
      ⟨(some 12), .mv (.tmp 0), none⟩,
      ⟨(some 13), .mv (.tmp 5), none⟩,
      ⟨(some 14), .idxAddr 1 none (.tmp 12) (.tmp 13), none⟩,
      ⟨(some 15), .load1 (.tmp 14), none⟩,
      ⟨(some 16), .bin .eql (.tmp 11) (.tmp 15), none⟩])
    (.cond (.tmp 16)
      (.seq (.region [
        ⟨(some 17), .mv (.tmp 5), none⟩,
        ⟨(some 4), .mv (.tmp 17), none⟩])
      (.ret))
      (.skip)))))
    (.region [
      ⟨(some 18), .bin .add (.tmp 8) (.const (.int .i64 1)), none⟩,
      ⟨(some 8), .mv (.tmp 18), none⟩])))))))
  (.seq (.region [
    ⟨(some 4), .mv (.const (.int .i64 (-1))), none⟩])
  (.ret))), none⟩

/-- 'hostler/event.of' -/
def F56 : AFunc := ⟨14, [.cellN 2 3, .tmp 3],
  .seq (.region [
    ⟨(some 2), .alloc [(.str ⟨#[]⟩), (.int .u64 0), (.int .u64 0)], none⟩,
    ⟨(some 3), .mv (.const (.bool false)), none⟩])
  (.seq (.seq (.region [
    ⟨(some 4), .mv (.tmp 0), none⟩,
    ⟨(some 5), .bin .lss (.tmp 4) (.const (.int .i64 0)), none⟩,
    ⟨(some 6), .mv (.tmp 5), none⟩,
    ⟨(some 7), .mv (.tmp 0), (some (6, false))⟩,
    ⟨(some 8), .bin .geq (.tmp 7) (.const (.int .i64 8)), (some (6, false))⟩,
    ⟨(some 9), .pick (.tmp 6) (.const (.bool true)) (.tmp 8), none⟩])
  (.cond (.tmp 9)
    (.seq (.region [
      ⟨(some 10), .build [(.str ⟨#[]⟩), (.int .u64 0), (.int .u64 0)] [], none⟩,
      ⟨none, .store 3 (.tmp 2) (.tmp 10), none⟩,
      ⟨(some 3), .mv (.const (.bool false)), none⟩])
    (.ret))
    (.skip)))
  (.seq (.region [
    ⟨(some 11), .mv (.tmp 0), none⟩,
    ⟨(some 12), .idxAddr 3 (some 8) (.glob 2) (.tmp 11), none⟩,
    ⟨(some 13), .loadN 3 (.tmp 12), none⟩,
    ⟨none, .store 3 (.tmp 2) (.tmp 13), none⟩,
    ⟨(some 3), .mv (.const (.bool true)), none⟩])
  (.ret))), none⟩

/-- 'hostler/event.value' -/
def F57 : AFunc := ⟨20, [.tmp 2],
  .seq (.region [
    ⟨(some 1), .box (.tmp 0), none⟩,
    ⟨(some 2), .mv (.const (.bool false)), none⟩])
  (.seq (.seq (.region [
    ⟨(some 3), .fieldAddr 0 (.tmp 1), none⟩,
    ⟨(some 4), .load1 (.tmp 3), none⟩])
  (.block 0 (.seq (.region [
    ⟨(some 6), .bin .eql (.tmp 4) (.const (.int .i64 5)), none⟩,
    ⟨(some 5), .mv (.tmp 6), none⟩])
  (.cond (.tmp 5)
    (.seq (.region [
      ⟨(some 2), .mv (.const (.bool true)), none⟩])
    (.ret))
    (.seq (.region [
      ⟨(some 8), .bin .eql (.tmp 4) (.const (.int .i64 6)), none⟩,
      ⟨(some 7), .mv (.tmp 8), none⟩])
    (.cond (.tmp 7)
      (.seq (.region [
        ⟨(some 9), .fieldAddr 4 (.tmp 1), none⟩,
        ⟨(some 10), .load1 (.tmp 9), none⟩,
        ⟨(some 11), .bin .geq (.tmp 10) (.const (.int .i64 0)), none⟩,
        ⟨(some 12), .mv (.tmp 11), none⟩,
        ⟨(some 13), .fieldAddr 4 (.tmp 1), (some (12, true))⟩,
        ⟨(some 14), .load1 (.tmp 13), (some (12, true))⟩,
        ⟨(some 15), .bin .lss (.tmp 14) (.const (.int .i64 65536)), (some (12, true))⟩,
        ⟨(some 16), .pick (.tmp 12) (.tmp 15) (.const (.bool false)), none⟩,
        ⟨(some 2), .mv (.tmp 16), none⟩])
      (.ret))
      (.skip)))))))
  (.seq (.region [
    ⟨(some 17), .fieldAddr 4 (.tmp 1), none⟩,
    ⟨(some 18), .load1 (.tmp 17), none⟩,
    ⟨(some 19), .bin .eql (.tmp 18) (.const (.int .i64 0)), none⟩,
    ⟨(some 2), .mv (.tmp 19), none⟩])
  (.ret))), none⟩

/-- '(hostler/status.Table).in' -/
def F58 : AFunc := ⟨13, [.tmp 4],
  .seq (.region [
    ⟨(some 2), .box (.tmp 0), none⟩,
    ⟨(some 4), .mv (.const (.bool false)), none⟩])
  (.seq (.region [
    ⟨(some 5), .mv (.tmp 1), none⟩,
    ⟨(some 6), .bin .geq (.tmp 5) (.const (.int .i64 0)), none⟩,
    ⟨(some 7), .mv (.tmp 6), none⟩,
    ⟨(some 8), .mv (.tmp 1), (some (7, true))⟩,
    ⟨(some 9), .fieldAddr 1 (.tmp 2), (some (7, true))⟩,
    ⟨(some 10), .load1 (.tmp 9), (some (7, true))⟩,
    ⟨(some 11), .bin .lss (.tmp 8) (.tmp 10), (some (7, true))⟩,
    ⟨(some 12), .pick (.tmp 7) (.tmp 11) (.const (.bool false)), none⟩,
    ⟨(some 4), .mv (.tmp 12), none⟩])
  (.ret)), none⟩

/-- '(*hostler/cell.Memory).Swap' -/
def F59 : AFunc := ⟨25, [.tmp 8],
  .seq (.region [
    ⟨(some 8), .mv (.const (.bool false)), none⟩])
  (.seq (.region [
    ⟨(some 10), .mv (.tmp 0), none⟩,
    ⟨(some 11), .mv (.tmp 1), none⟩,
    ⟨(some 12), .call 63 [(.tmp 10), (.tmp 11)], none⟩,
    ⟨(some 9), .mv (.tmp 12), none⟩])
  (.seq (.seq (.region [
    ⟨(some 13), .mv (.tmp 9), none⟩,
    ⟨(some 14), .cmpNil false 0 (.tmp 13) (.const .nilptr), none⟩,
    ⟨(some 15), .mv (.tmp 14), none⟩,
    ⟨(some 16), .mv (.tmp 9), (some (15, false))⟩,
    ⟨(some 17), .nilCheck (.tmp 16), (some (15, false))⟩,
    ⟨(some 18), .load1 (.tmp 17), (some (15, false))⟩,
    ⟨(some 19), .mv (.tmp 2), (some (15, false))⟩,
    ⟨(some 20), .bin .neq (.tmp 18) (.tmp 19), (some (15, false))⟩,
    ⟨(some 21), .pick (.tmp 15) (.const (.bool true)) (.tmp 20), none⟩])
  (.cond (.tmp 21)
    (.seq (.region [
      ⟨(some 8), .mv (.const (.bool false)), none⟩])
    (.ret))
    (.skip)))
  (.seq (.region [
    ⟨(some 22), .mv (.tmp 9), none⟩,
    ⟨(some 23), .mv (.tmp 3), none⟩,
    ⟨(some 24), .nilCheck (.tmp 22), none⟩,
    ⟨none, .store 1 (.tmp 24) (.tmp 23), none⟩])
  (.seq (.region [
    ⟨(some 8), .mv (.const (.bool true)), none⟩])
  (.ret))))), none⟩

/-- 'slices.Clone[[]hostler/event.Event,hostler/event.Event]' -/
def F60 : AFunc := ⟨8, [.tmp 2],
  .seq (.region [
    ⟨(some 2), .mv (.const .nilslice), none⟩])
  (.seq (.seq (.region [
    ⟨(some 3), .mv (.tmp 0), none⟩,
    ⟨(some 4), .cmpNil false 1 (.tmp 3) (.const .nilslice), none⟩])
  (.cond (.tmp 4)
    (.seq (.region [
      ⟨(some 2), .mv (.const .nilslice), none⟩])
    (.ret))
    (.skip)))
  (.seq (.region [
    ⟨(some 5), .buildSlice [] 0 [], none⟩,
    ⟨(some 6), .mv (.tmp 0), none⟩,
    ⟨(some 7), .append 5 40 [(.int .i64 0), (.int .i64 0), (.int .i64 0), (.int .i64 0), (.int .i64 0)] (.tmp 5) (.tmp 6), none⟩,
    ⟨(some 2), .mv (.tmp 7), none⟩])
  (.ret))), none⟩

/-- '(*hostler/event.Log).All' -/
def F61 : AFunc := ⟨8, [.tmp 2],
  .seq (.region [
    ⟨(some 2), .mv (.const .nilfunc), none⟩])
  (.seq (.region [
    ⟨(some 3), .mv (.tmp 0), none⟩,
    ⟨(some 4), .nilCheck (.tmp 3), none⟩,
    ⟨(some 5), .fieldAddr 0 (.tmp 4), none⟩,
    ⟨(some 6), .load1 (.tmp 5), none⟩,
    ⟨(some 7), .call 68 [(.tmp 6)], none⟩,
    ⟨(some 2), .mv (.tmp 7), none⟩])
  (.ret)), none⟩

/-- '(*hostler/cell.Memory).Store' -/
def F62 : AFunc := ⟨18, [.tmp 6],
  .seq (.region [
    ⟨(some 6), .mv (.const (.bool false)), none⟩])
  (.seq (.region [
    ⟨(some 8), .mv (.tmp 0), none⟩,
    ⟨(some 9), .mv (.tmp 1), none⟩,
    ⟨(some 10), .call 63 [(.tmp 8), (.tmp 9)], none⟩,
    ⟨(some 7), .mv (.tmp 10), none⟩])
  (.seq (.seq (.region [
    ⟨(some 11), .mv (.tmp 7), none⟩,
    ⟨(some 12), .cmpNil true 0 (.tmp 11) (.const .nilptr), none⟩])
  (.cond (.tmp 12)
    (.region [
      ⟨(some 13), .mv (.tmp 7), none⟩,
      ⟨(some 14), .mv (.tmp 2), none⟩,
      ⟨(some 15), .nilCheck (.tmp 13), none⟩,
      ⟨none, .store 1 (.tmp 15) (.tmp 14), none⟩])
    (.skip)))
  (.seq (.region [
    ⟨(some 16), .mv (.tmp 7), none⟩,
    ⟨(some 17), .cmpNil true 0 (.tmp 16) (.const .nilptr), none⟩,
    ⟨(some 6), .mv (.tmp 17), none⟩])
  (.ret)))), none⟩

/-- '(*hostler/cell.Memory).at' -/
def F63 : AFunc := ⟨26, [.tmp 4],
  .seq (.region [
    ⟨(some 4), .mv (.const .nilptr), none⟩])
  (.seq (.seq (.region [
    ⟨(some 5), .mv (.tmp 1), none⟩,
    ⟨(some 6), .bin .lss (.tmp 5) (.const (.int .i64 0)), none⟩,
    ⟨(some 7), .mv (.tmp 6), none⟩,
    ⟨(some 8), .mv (.tmp 1), (some (7, false))⟩,
    ⟨(some 9), .mv (.tmp 0), (some (7, false))⟩,
    ⟨(some 10), .call 69 [(.tmp 9)], (some (7, false))⟩,
    ⟨(some 11), .bin .geq (.tmp 8) (.tmp 10), (some (7, false))⟩,
    ⟨(some 12), .pick (.tmp 7) (.const (.bool true)) (.tmp 11), none⟩])
  (.cond (.tmp 12)
    (.seq (.region [
      ⟨(some 4), .mv (.const .nilptr), none⟩])
    (.ret))
    (.skip)))
  (.seq (.region [
    ⟨(some 13), .mv (.tmp 0), none⟩,
    ⟨(some 14), .nilCheck (.tmp 13), none⟩,
    ⟨(some 15), .fieldAddr 1 (.tmp 14), none⟩,
    ⟨(some 16), .load1 (.tmp 15), none⟩,
    ⟨(some 17), .bin .add (.tmp 16) (.const (.int .i64 1)), none⟩,
    ⟨(some 18), .nilCheck (.tmp 13), none⟩,
    ⟨(some 19), .fieldAddr 1 (.tmp 18), none⟩,
    ⟨none, .store 1 (.tmp 19) (.tmp 17), none⟩])
  (.seq (.region [
    ⟨(some 20), .mv (.tmp 0), none⟩,
    ⟨(some 21), .nilCheck (.tmp 20), none⟩,
    ⟨(some 22), .fieldAddr 0 (.tmp 21), none⟩,
    ⟨(some 23), .load1 (.tmp 22), none⟩,
    ⟨(some 24), .mv (.tmp 1), none⟩,
    ⟨(some 25), .idxAddr 1 none (.tmp 23) (.tmp 24), none⟩,
    ⟨(some 4), .mv (.tmp 25), none⟩])
  (.ret)))), none⟩

/-- '(*hostler/model.Model).wrong' -/
def F64 : AFunc := ⟨60, [.tmp 4, .tmp 5],
  .seq (.region [
    ⟨(some 3), .box (.tmp 1), none⟩,
    ⟨(some 4), .mv (.const (.int .u8 0)), none⟩,
    ⟨(some 5), .mv (.const (.bool false)), none⟩])
  (.seq (.seq (.region [
    ⟨(some 10), .mv (.tmp 0), none⟩,
    ⟨(some 11), .loadN 5 (.tmp 3), none⟩,
    ⟨(some 12), .call 70 [(.tmp 10), (.tmp 11)], none⟩,
    ⟨(some 13), .un .not (.tmp 12), none⟩])
  (.cond (.tmp 13)
    (.seq (.region [
      ⟨(some 4), .mv (.const (.int .u8 0)), none⟩,
      ⟨(some 5), .mv (.const (.bool true)), none⟩])
    (.ret))
    (.skip)))
  (.seq (.seq (.region [
    ⟨(some 14), .mv (.tmp 0), none⟩,
    ⟨(some 15), .loadN 5 (.tmp 3), none⟩,
    ⟨(some 16), .call 71 [(.tmp 14), (.tmp 15)], none⟩,
    ⟨(some 17), .un .not (.tmp 16), none⟩])
  (.cond (.tmp 17)
    (.seq (.region [
      ⟨(some 4), .mv (.const (.int .u8 1)), none⟩,
      ⟨(some 5), .mv (.const (.bool true)), none⟩])
    (.ret))
    (.skip)))
  (.seq (.draw [
    (⟨(some 19), .mv (.tmp 0), none⟩, .still),
    (⟨(some 20), .nilCheck (.tmp 19), none⟩, .still),
    (⟨(some 21), .fieldAddr 3 (.tmp 20), none⟩, .still),
    (⟨(some 22), .load1 (.tmp 21), none⟩, .reads 0 1),
    (⟨(some 23), .fieldAddr 2 (.tmp 3), none⟩, .still),
    (⟨(some 24), .load1 (.tmp 23), none⟩, .reads 0 1),
    (⟨(some 25), .lookup (.agg [(.int .i64 0), (.int .i64 0)]) true (.tmp 22) (.tmp 24), none⟩, .reads 0 1),
    (⟨(some 18), .mv (.tmp 25), none⟩, .still),
    (⟨(some 26), .extract 0 (.tmp 18), none⟩, .still),
    (⟨(some 27), .extract 1 (.tmp 18), none⟩, .still),
    (⟨(some 6), .alloc [(.int .i64 0), (.int .i64 0)], none⟩, .loud),
    (⟨none, .store 2 (.tmp 6) (.tmp 26), none⟩, .loud),
    (⟨(some 7), .mv (.tmp 27), none⟩, .still)])
  (.seq (.draw [
    (⟨(some 29), .mv (.tmp 0), none⟩, .still),
    (⟨(some 30), .nilCheck (.tmp 29), none⟩, .still),
    (⟨(some 31), .fieldAddr 4 (.tmp 30), none⟩, .still),
    (⟨(some 32), .load1 (.tmp 31), none⟩, .reads 0 0),
    (⟨(some 33), .fieldAddr 3 (.tmp 3), none⟩, .still),
    (⟨(some 34), .load1 (.tmp 33), none⟩, .reads 0 0),
    (⟨(some 35), .lookup (.int .i64 0) true (.tmp 32) (.tmp 34), none⟩, .reads 0 0),
    (⟨(some 28), .mv (.tmp 35), none⟩, .still),
    (⟨(some 36), .extract 0 (.tmp 28), none⟩, .still),
    (⟨(some 37), .extract 1 (.tmp 28), none⟩, .still),
    (⟨(some 8), .mv (.tmp 36), none⟩, .still),
    (⟨(some 9), .mv (.tmp 37), none⟩, .still)])
  (.seq (.block 0 (.seq (.region [
    ⟨(some 39), .loadN 5 (.tmp 3), none⟩,
    ⟨(some 40), .call 65 [(.tmp 39)], none⟩,
    ⟨(some 38), .mv (.tmp 40), none⟩])
  (.cond (.tmp 38)
    (.seq (.region [
      ⟨(some 4), .mv (.const (.int .u8 0)), none⟩,
      ⟨(some 5), .mv (.const (.bool false)), none⟩])
    (.ret))
    (.seq (.region [
      ⟨(some 42), .fieldAddr 0 (.tmp 3), none⟩,
      ⟨(some 43), .load1 (.tmp 42), none⟩,
      ⟨(some 44), .bin .eql (.tmp 43) (.const (.int .i64 2)), none⟩,
      ⟨(some 41), .mv (.tmp 44), none⟩])
    (.cond (.tmp 41)
      (.seq (.region [
        ⟨(some 45), .mv (.tmp 7), none⟩,
        ⟨(some 46), .mv (.tmp 45), none⟩,
        ⟨(some 47), .mv (.tmp 9), (some (46, false))⟩,
        ⟨(some 48), .pick (.tmp 46) (.const (.bool true)) (.tmp 47), none⟩,
        ⟨(some 4), .mv (.const (.int .u8 2)), none⟩,
        ⟨(some 5), .mv (.tmp 48), none⟩])
      (.ret))
      (.skip))))))
  (.seq (.draw [
    (⟨(some 49), .mv (.tmp 7), none⟩, .still),
    (⟨(some 50), .un .not (.tmp 49), none⟩, .still),
    (⟨(some 51), .mv (.tmp 50), none⟩, .still),
    (⟨(some 52), .loadN 2 (.tmp 6), (some (51, false))⟩, .reads 0 0),
    (⟨(some 53), .fieldAddr 1 (.tmp 3), (some (51, false))⟩, .still),
    (⟨(some 54), .load1 (.tmp 53), (some (51, false))⟩, .reads 0 0),
    (⟨(some 55), .fieldAddr 3 (.tmp 3), (some (51, false))⟩, .still),
    (⟨(some 56), .load1 (.tmp 55), (some (51, false))⟩, .reads 0 0),
    (⟨(some 57), .build [(.int .i64 0), (.int .i64 0)] [((0, 1), (.tmp 54)), ((1, 1), (.tmp 56))], (some (51, false))⟩, .still),
    (⟨(some 58), .eqStruct true [(0, 0), (1, 0)] (.tmp 52) (.tmp 57), (some (51, false))⟩, .still),
    (⟨(some 59), .pick (.tmp 51) (.const (.bool true)) (.tmp 58), none⟩, .still),
    (⟨(some 4), .mv (.const (.int .u8 3)), none⟩, .still),
    (⟨(some 5), .mv (.tmp 59), none⟩, .still)])
  (.ret))))))), none⟩

/-- 'hostler/model.outside' -/
def F65 : AFunc := ⟨11, [.tmp 2],
  .seq (.region [
    ⟨(some 1), .box (.tmp 0), none⟩,
    ⟨(some 2), .mv (.const (.bool false)), none⟩])
  (.seq (.region [
    ⟨(some 3), .fieldAddr 0 (.tmp 1), none⟩,
    ⟨(some 4), .load1 (.tmp 3), none⟩,
    ⟨(some 5), .bin .eql (.tmp 4) (.const (.int .i64 0)), none⟩,
    ⟨(some 6), .mv (.tmp 5), none⟩,
    ⟨(some 7), .fieldAddr 0 (.tmp 1), (some (6, false))⟩,
    ⟨(some 8), .load1 (.tmp 7), (some (6, false))⟩,
    ⟨(some 9), .bin .eql (.tmp 8) (.const (.int .i64 1)), (some (6, false))⟩,
    ⟨(some 10), .pick (.tmp 6) (.const (.bool true)) (.tmp 9), none⟩,
    ⟨(some 2), .mv (.tmp 10), none⟩])
  (.ret)), none⟩

/-- 'hostler/hostlerref17.Used' -/
def F66 : AFunc := ⟨29, [.tmp 6],
  .seq (.region [
    ⟨(some 6), .mv (.const (.bool false)), none⟩])
  (.seq (.seq (.region [
    ⟨(some 11), .mv (.tmp 1), none⟩,
    ⟨(some 12), .mv (.const (.int .i64 0)), none⟩])
  (.block 0 (.loop (.seq (.region [
      ⟨(some 13), .bin .lss (.tmp 12) (.tmp 11), none⟩])
    (.seq (.cond (.tmp 13)
      (.skip)
      (.exit 0))
    (.seq (.block 1 (.seq (.region [
      ⟨(some 14), .mv (.tmp 12), none⟩,
      ⟨(some 7), .mv (.tmp 14), none⟩])
    (.seq (.region [
      ⟨(some 16), .mv (.tmp 0), none⟩,
      ⟨(some 17), .mv (.tmp 7), none⟩,
      ⟨(some 18), .call 50 [(.tmp 16), (.tmp 17)], none⟩,
      ⟨(some 15), .mv (.tmp 18), none⟩,
      ⟨(some 19), .extract 0 (.tmp 15), none⟩,
      ⟨(some 20), .extract 1 (.tmp 15), none⟩,
      ⟨(some 21), .extract 2 (.tmp 15), none⟩,
      ⟨(some 8), .mv (.tmp 19), none⟩,
      ⟨(some 9), .mv (.tmp 20), none⟩,
      ⟨(some 10), .mv (.tmp 21), none⟩])
    (.seq (.region [
      ⟨(some 22), .mv (.tmp 10), none⟩,
      ⟨(some 23), .mv (.tmp 22), none⟩,
      ⟨(some 24), .mv (.tmp 9), (some (23, true))⟩,
      ⟨(some 25), .mv (.tmp 2), (some (23, true))⟩,
      ⟨(some 26), .bin .eql (.tmp 24) (.tmp 25), (some (23, true))⟩,
      ⟨(some 27), .pick (.tmp 23) (.tmp 26) (.const (.bool false)), none⟩])
    (.cond (.tmp 27)
      (.seq (.region [
        ⟨(some 6), .mv (.const (.bool true)), none⟩])
      (.ret))
      (.skip))))))
    (.region [
      ⟨(some 28), .bin .add (.tmp 12) (.const (.int .i64 1)), none⟩,
      ⟨(some 12), .mv (.tmp 28), none⟩])))))))
  (.seq (.region [
    ⟨(some 6), .mv (.const (.bool false)), none⟩])
  (.ret))), none⟩

/-- 'slices.Index[[]hostler/status.Status,hostler/status.Status]' -/
def F67 : AFunc := ⟨19, [.tmp 4],
  .seq (.region [
    ⟨(some 4), .mv (.const (.int .i64 0)), none⟩])
  (.seq (.seq (.region [
    ⟨(some 6), .mv (.tmp 0), none⟩,
    ⟨(some 7), .lenS (.tmp 6), none⟩,
    ⟨(some 8), .mv (.const (.int .i64 0)), none⟩])
  (.block 0 (.loop (.seq (.region [
      ⟨(some 9), .bin .lss (.tmp 8) (.tmp 7), none⟩])
    (.seq (.cond (.tmp 9)
      (.skip)
      (.exit 0))
    (.seq (.block 1 (.seq (.region [
      ⟨(some 10), .mv (.tmp 8), none⟩,
      ⟨(some 5), .mv (.tmp 10), none⟩])
    (.seq (.region [
      ⟨(some 11), .mv (.tmp 1), none⟩,
      ⟨(some 12), .mv (.tmp 0), none⟩,
      ⟨(some 13), .mv (.tmp 5), none⟩,
      ⟨(some 14), .idxAddr 1 none (.tmp 12) (.tmp 13), none⟩,
      ⟨(some 15), .load1 (.tmp 14), none⟩,
      ⟨(some 16), .bin .eql (.tmp 11) (.tmp 15), none⟩])
    (.cond (.tmp 16)
      (.seq (.region [
        ⟨(some 17), .mv (.tmp 5), none⟩,
        ⟨(some 4), .mv (.tmp 17), none⟩])
      (.ret))
      (.skip)))))
    (.region [
      ⟨(some 18), .bin .add (.tmp 8) (.const (.int .i64 1)), none⟩,
      ⟨(some 8), .mv (.tmp 18), none⟩])))))))
  (.seq (.region [
    ⟨(some 4), .mv (.const (.int .i64 (-1))), none⟩])
  (.ret))), none⟩

/-- 'slices.All[[]hostler/event.Event,hostler/event.Event]' -/
def F68 : AFunc := ⟨4, [.tmp 2],
  .seq (.region [
    ⟨(some 1), .box (.tmp 0), none⟩,
    ⟨(some 2), .mv (.const .nilfunc), none⟩])
  (.seq (.region [
    ⟨(some 3), .mkfunc 72 [] [(.tmp 1)], none⟩,
    ⟨(some 2), .mv (.tmp 3), none⟩])
  (.ret)), none⟩

/-- '(*hostler/cell.Memory).Len' -/
def F69 : AFunc := ⟨10, [.tmp 2],
  .seq (.region [
    ⟨(some 2), .mv (.const (.int .i64 0)), none⟩])
  (.seq (.seq (.region [
    ⟨(some 3), .mv (.tmp 0), none⟩,
    ⟨(some 4), .cmpNil false 0 (.tmp 3) (.const .nilptr), none⟩])
  (.cond (.tmp 4)
    (.seq (.region [
      ⟨(some 2), .mv (.const (.int .i64 0)), none⟩])
    (.ret))
    (.skip)))
  (.seq (.region [
    ⟨(some 5), .mv (.tmp 0), none⟩,
    ⟨(some 6), .nilCheck (.tmp 5), none⟩,
    ⟨(some 7), .fieldAddr 0 (.tmp 6), none⟩,
    ⟨(some 8), .load1 (.tmp 7), none⟩,
    ⟨(some 9), .lenS (.tmp 8), none⟩,
    ⟨(some 2), .mv (.tmp 9), none⟩])
  (.ret))), none⟩

/-- '(*hostler/model.Model).shape' -/
def F70 : AFunc := ⟨51, [.tmp 4],
  .seq (.region [
    ⟨(some 3), .box (.tmp 1), none⟩,
    ⟨(some 4), .mv (.const (.bool false)), none⟩])
  (.seq (.draw [
    (⟨(some 6), .loadN 5 (.tmp 3), none⟩, .reads 0 0),
    (⟨(some 7), .call 23 [(.tmp 6)], none⟩, .loud),
    (⟨(some 8), .mv (.tmp 7), none⟩, .still),
    (⟨(some 9), .fieldAddr 1 (.tmp 3), (some (8, true))⟩, .still),
    (⟨(some 10), .load1 (.tmp 9), (some (8, true))⟩, .reads 1 1),
    (⟨(some 11), .mv (.tmp 0), (some (8, true))⟩, .still),
    (⟨(some 12), .nilCheck (.tmp 11), (some (8, true))⟩, .still),
    (⟨(some 13), .fieldAddr 2 (.tmp 12), (some (8, true))⟩, .still),
    (⟨(some 14), .load1 (.tmp 13), (some (8, true))⟩, .reads 1 1),
    (⟨(some 15), .lenS (.tmp 14), (some (8, true))⟩, .still),
    (⟨(some 16), .bin .lss (.tmp 10) (.tmp 15), (some (8, true))⟩, .still),
    (⟨(some 17), .pick (.tmp 8) (.tmp 16) (.const (.bool false)), none⟩, .still),
    (⟨(some 18), .mv (.tmp 17), none⟩, .still),
    (⟨(some 19), .fieldAddr 2 (.tmp 3), (some (18, true))⟩, .still),
    (⟨(some 20), .load1 (.tmp 19), (some (18, true))⟩, .reads 1 1),
    (⟨(some 21), .mv (.tmp 0), (some (18, true))⟩, .still),
    (⟨(some 22), .nilCheck (.tmp 21), (some (18, true))⟩, .still),
    (⟨(some 23), .fieldAddr 1 (.tmp 22), (some (18, true))⟩, .still),
    (⟨(some 24), .load1 (.tmp 23), (some (18, true))⟩, .reads 1 1),
    (⟨(some 25), .bin .lss (.tmp 20) (.tmp 24), (some (18, true))⟩, .still),
    (⟨(some 26), .pick (.tmp 18) (.tmp 25) (.const (.bool false)), none⟩, .still),
    (⟨(some 27), .mv (.tmp 26), none⟩, .still),
    (⟨(some 28), .fieldAddr 3 (.tmp 3), (some (27, true))⟩, .still),
    (⟨(some 29), .load1 (.tmp 28), (some (27, true))⟩, .reads 1 1),
    (⟨(some 30), .mv (.tmp 0), (some (27, true))⟩, .still),
    (⟨(some 31), .nilCheck (.tmp 30), (some (27, true))⟩, .still),
    (⟨(some 32), .fieldAddr 0 (.tmp 31), (some (27, true))⟩, .still),
    (⟨(some 33), .load1 (.tmp 32), (some (27, true))⟩, .reads 1 1),
    (⟨(some 34), .bin .lss (.tmp 29) (.tmp 33), (some (27, true))⟩, .still),
    (⟨(some 35), .pick (.tmp 27) (.tmp 34) (.const (.bool false)), none⟩, .still),
    (⟨(some 5), .mv (.tmp 35), none⟩, .still)])
  (.seq (.region [
    ⟨(some 36), .mv (.tmp 5), none⟩,
    ⟨(some 37), .mv (.tmp 36), none⟩,
    ⟨(some 38), .loadN 5 (.tmp 3), (some (37, true))⟩,
    ⟨(some 39), .call 65 [(.tmp 38)], (some (37, true))⟩,
    ⟨(some 40), .mv (.tmp 39), (some (37, true))⟩,
    ⟨(some 41), .fieldAddr 2 (.tmp 3), (some (40, false))⟩,
    ⟨(some 42), .load1 (.tmp 41), (some (40, false))⟩,
    ⟨(some 43), .bin .geq (.tmp 42) (.const (.int .i64 0)), (some (40, false))⟩,
    ⟨(some 44), .mv (.tmp 43), (some (40, false))⟩,
    ⟨(some 45), .fieldAddr 3 (.tmp 3), (some (44, true))⟩,
    ⟨(some 46), .load1 (.tmp 45), (some (44, true))⟩,
    ⟨(some 47), .bin .geq (.tmp 46) (.const (.int .i64 0)), (some (44, true))⟩,
    ⟨(some 48), .pick (.tmp 44) (.tmp 47) (.const (.bool false)), (some (40, false))⟩,
    ⟨(some 49), .pick (.tmp 40) (.const (.bool true)) (.tmp 48), (some (37, true))⟩,
    ⟨(some 50), .pick (.tmp 37) (.tmp 49) (.const (.bool false)), none⟩,
    ⟨(some 4), .mv (.tmp 50), none⟩])
  (.ret))), none⟩

/-- '(*hostler/model.Model).from' -/
def F71 : AFunc := ⟨39, [.tmp 4],
  .seq (.region [
    ⟨(some 3), .box (.tmp 1), none⟩,
    ⟨(some 4), .mv (.const (.bool false)), none⟩])
  (.seq (.draw [
    (⟨(some 9), .mv (.tmp 0), none⟩, .still),
    (⟨(some 10), .nilCheck (.tmp 9), none⟩, .still),
    (⟨(some 11), .fieldAddr 2 (.tmp 10), none⟩, .still),
    (⟨(some 12), .load1 (.tmp 11), none⟩, .reads 0 0),
    (⟨(some 13), .fieldAddr 1 (.tmp 3), none⟩, .still),
    (⟨(some 14), .load1 (.tmp 13), none⟩, .reads 0 0),
    (⟨(some 15), .idxAddr 1 none (.tmp 12) (.tmp 14), none⟩, .still),
    (⟨(some 16), .load1 (.tmp 15), none⟩, .reads 0 0),
    (⟨(some 5), .mv (.tmp 16), none⟩, .still)])
  (.seq (.seq (.region [
    ⟨(some 17), .fieldAddr 0 (.tmp 3), none⟩,
    ⟨(some 18), .load1 (.tmp 17), none⟩,
    ⟨(some 19), .bin .eql (.tmp 18) (.const (.int .i64 1)), none⟩])
  (.cond (.tmp 19)
    (.seq (.region [
      ⟨(some 20), .mv (.tmp 5), none⟩,
      ⟨(some 21), .bin .eql (.tmp 20) (.const (.int .u64 3)), none⟩,
      ⟨(some 22), .mv (.tmp 21), none⟩,
      ⟨(some 23), .mv (.tmp 5), (some (22, false))⟩,
      ⟨(some 24), .bin .eql (.tmp 23) (.const (.int .u64 4)), (some (22, false))⟩,
      ⟨(some 25), .pick (.tmp 22) (.const (.bool true)) (.tmp 24), none⟩,
      ⟨(some 26), .mv (.tmp 25), none⟩,
      ⟨(some 27), .mv (.tmp 5), (some (26, false))⟩,
      ⟨(some 28), .bin .eql (.tmp 27) (.const (.int .u64 5)), (some (26, false))⟩,
      ⟨(some 29), .pick (.tmp 26) (.const (.bool true)) (.tmp 28), none⟩,
      ⟨(some 4), .mv (.tmp 29), none⟩])
    (.ret))
    (.skip)))
  (.seq (.region [
    ⟨(some 31), .loadN 5 (.tmp 3), none⟩,
    ⟨(some 32), .call 21 [(.tmp 31)], none⟩,
    ⟨(some 30), .mv (.tmp 32), none⟩,
    ⟨(some 33), .extract 0 (.tmp 30), none⟩,
    ⟨(some 34), .extract 1 (.tmp 30), none⟩,
    ⟨(some 35), .extract 2 (.tmp 30), none⟩,
    ⟨(some 6), .mv (.tmp 33), none⟩,
    ⟨(some 7), .mv (.tmp 34), none⟩,
    ⟨(some 8), .mv (.tmp 35), none⟩])
  (.seq (.region [
    ⟨(some 36), .mv (.tmp 5), none⟩,
    ⟨(some 37), .mv (.tmp 6), none⟩,
    ⟨(some 38), .bin .eql (.tmp 36) (.tmp 37), none⟩,
    ⟨(some 4), .mv (.tmp 38), none⟩])
  (.ret))))), none⟩

/-- 'slices.All[[]hostler/event.Event,hostler/event.Event]$1' -/
def F72 : AFunc := ⟨18, [],
  .seq (.region [
    ⟨(some 5), .load1 (.tmp 1), none⟩,
    ⟨(some 6), .lenS (.tmp 5), none⟩,
    ⟨(some 7), .mv (.const (.int .i64 0)), none⟩])
  (.block 0 (.loop (.seq (.region [
      ⟨(some 8), .bin .lss (.tmp 7) (.tmp 6), none⟩])
    (.seq (.cond (.tmp 8)
      (.skip)
      (.exit 0))
    (.seq (.block 1 (.seq (.region [
      ⟨(some 9), .mv (.tmp 7), none⟩,
      ⟨(some 10), .idxAddr 5 none (.tmp 5) (.tmp 7), none⟩,
      ⟨(some 11), .loadN 5 (.tmp 10), none⟩,
      ⟨(some 4), .alloc [(.int .i64 0), (.int .i64 0), (.int .i64 0), (.int .i64 0), (.int .i64 0)], none⟩,
      ⟨(some 3), .mv (.tmp 9), none⟩,
      ⟨none, .store 5 (.tmp 4) (.tmp 11), none⟩])
    (.seq (.region [
      ⟨(some 12), .mv (.tmp 0), none⟩,
      ⟨(some 13), .mv (.tmp 3), none⟩,
      ⟨(some 14), .loadN 5 (.tmp 4), none⟩,
      ⟨(some 15), .callv (.tmp 12) [(.tmp 13), (.tmp 14)], none⟩,
      ⟨(some 16), .un .not (.tmp 15), none⟩])
    (.cond (.tmp 16)
      (.ret)
      (.skip)))))
    (.region [
      ⟨(some 17), .bin .add (.tmp 7) (.const (.int .i64 1)), none⟩,
      ⟨(some 7), .mv (.tmp 17), none⟩])))))), none⟩

/-- 'gosem.cut.vars' -/
def F96 : AFunc := ⟨18, [],
  .seq (.region [
    ⟨(some 0), .build [(.str ⟨#[]⟩), (.str ⟨#[]⟩), (.str ⟨#[]⟩), (.str ⟨#[]⟩), (.str ⟨#[]⟩), (.str ⟨#[]⟩), (.str ⟨#[]⟩)] [((0, 1), (.const (.str ⟨#[110, 111, 110, 101]⟩))), ((1, 1), (.const (.str ⟨#[114, 117, 110, 110, 97, 98, 108, 101]⟩))), ((2, 1), (.const (.str ⟨#[114, 117, 110, 110, 105, 110, 103]⟩))), ((3, 1), (.const (.str ⟨#[98, 108, 111, 99, 107, 101, 100]⟩))), ((4, 1), (.const (.str ⟨#[115, 108, 101, 101, 112, 105, 110, 103]⟩))), ((5, 1), (.const (.str ⟨#[119, 97, 105, 116, 105, 110, 103]⟩))), ((6, 1), (.const (.str ⟨#[100, 101, 97, 100]⟩)))], none⟩,
    ⟨none, .store 7 (.glob 1) (.tmp 0), none⟩])
  (.seq (.region [
    ⟨(some 1), .buildSlice [(.int .u64 0)] 1 [((0, 1), (.const (.int .u64 1)))], none⟩,
    ⟨(some 2), .buildSlice [(.int .u64 0)] 1 [((0, 1), (.const (.int .u64 2)))], none⟩,
    ⟨(some 3), .buildSlice [(.int .u64 0), (.int .u64 0), (.int .u64 0), (.int .u64 0), (.int .u64 0)] 5 [((0, 1), (.const (.int .u64 1))), ((1, 1), (.const (.int .u64 3))), ((2, 1), (.const (.int .u64 4))), ((3, 1), (.const (.int .u64 5))), ((4, 1), (.const (.int .u64 6)))], none⟩,
    ⟨(some 4), .buildSlice [(.int .u64 0)] 1 [((0, 1), (.const (.int .u64 1)))], none⟩,
    ⟨(some 5), .buildSlice [(.int .u64 0)] 1 [((0, 1), (.const (.int .u64 1)))], none⟩,
    ⟨(some 6), .buildSlice [(.int .u64 0)] 1 [((0, 1), (.const (.int .u64 1)))], none⟩,
    ⟨(some 7), .buildSlice [] 0 [], none⟩,
    ⟨(some 8), .build [.nilslice, .nilslice, .nilslice, .nilslice, .nilslice, .nilslice, .nilslice] [((0, 1), (.tmp 1)), ((1, 1), (.tmp 2)), ((2, 1), (.tmp 3)), ((3, 1), (.tmp 4)), ((4, 1), (.tmp 5)), ((5, 1), (.tmp 6)), ((6, 1), (.tmp 7))], none⟩,
    ⟨none, .store 7 (.glob 0) (.tmp 8), none⟩])
  (.region [
    ⟨(some 9), .build [(.str ⟨#[]⟩), (.int .u64 0), (.int .u64 0)] [((0, 1), (.const (.str ⟨#[115, 112, 97, 119, 110]⟩))), ((1, 1), (.const (.int .u64 0))), ((2, 1), (.const (.int .u64 1)))], none⟩,
    ⟨(some 10), .build [(.str ⟨#[]⟩), (.int .u64 0), (.int .u64 0)] [((0, 1), (.const (.str ⟨#[114, 101, 97, 100, 121]⟩))), ((1, 1), (.const (.int .u64 0))), ((2, 1), (.const (.int .u64 1)))], none⟩,
    ⟨(some 11), .build [(.str ⟨#[]⟩), (.int .u64 0), (.int .u64 0)] [((0, 1), (.const (.str ⟨#[100, 105, 115, 112, 97, 116, 99, 104]⟩))), ((1, 1), (.const (.int .u64 1))), ((2, 1), (.const (.int .u64 2)))], none⟩,
    ⟨(some 12), .build [(.str ⟨#[]⟩), (.int .u64 0), (.int .u64 0)] [((0, 1), (.const (.str ⟨#[121, 105, 101, 108, 100]⟩))), ((1, 1), (.const (.int .u64 2))), ((2, 1), (.const (.int .u64 1)))], none⟩,
    ⟨(some 13), .build [(.str ⟨#[]⟩), (.int .u64 0), (.int .u64 0)] [((0, 1), (.const (.str ⟨#[98, 108, 111, 99, 107]⟩))), ((1, 1), (.const (.int .u64 2))), ((2, 1), (.const (.int .u64 3)))], none⟩,
    ⟨(some 14), .build [(.str ⟨#[]⟩), (.int .u64 0), (.int .u64 0)] [((0, 1), (.const (.str ⟨#[115, 108, 101, 101, 112]⟩))), ((1, 1), (.const (.int .u64 2))), ((2, 1), (.const (.int .u64 4)))], none⟩,
    ⟨(some 15), .build [(.str ⟨#[]⟩), (.int .u64 0), (.int .u64 0)] [((0, 1), (.const (.str ⟨#[119, 97, 105, 116]⟩))), ((1, 1), (.const (.int .u64 2))), ((2, 1), (.const (.int .u64 5)))], none⟩,
    ⟨(some 16), .build [(.str ⟨#[]⟩), (.int .u64 0), (.int .u64 0)] [((0, 1), (.const (.str ⟨#[101, 120, 105, 116]⟩))), ((1, 1), (.const (.int .u64 2))), ((2, 1), (.const (.int .u64 6)))], none⟩,
    ⟨(some 17), .build [(.str ⟨#[]⟩), (.int .u64 0), (.int .u64 0), (.str ⟨#[]⟩), (.int .u64 0), (.int .u64 0), (.str ⟨#[]⟩), (.int .u64 0), (.int .u64 0), (.str ⟨#[]⟩), (.int .u64 0), (.int .u64 0), (.str ⟨#[]⟩), (.int .u64 0), (.int .u64 0), (.str ⟨#[]⟩), (.int .u64 0), (.int .u64 0), (.str ⟨#[]⟩), (.int .u64 0), (.int .u64 0), (.str ⟨#[]⟩), (.int .u64 0), (.int .u64 0)] [((0, 3), (.tmp 9)), ((3, 3), (.tmp 10)), ((6, 3), (.tmp 11)), ((9, 3), (.tmp 12)), ((12, 3), (.tmp 13)), ((15, 3), (.tmp 14)), ((18, 3), (.tmp 15)), ((21, 3), (.tmp 16))], none⟩,
    ⟨none, .store 24 (.glob 2) (.tmp 17), none⟩])), none⟩

def T : ATable := fun f => match f with
  | 3 => some F3
  | 4 => some F4
  | 5 => some F5
  | 6 => some F6
  | 7 => some F7
  | 8 => some F8
  | 9 => some F9
  | 10 => some F10
  | 11 => some F11
  | 12 => some F12
  | 13 => some F13
  | 14 => some F14
  | 15 => some F15
  | 16 => some F16
  | 17 => some F17
  | 18 => some F18
  | 19 => some F19
  | 20 => some F20
  | 21 => some F21
  | 22 => some F22
  | 23 => some F23
  | 24 => some F24
  | 25 => some F25
  | 26 => some F26
  | 27 => some F27
  | 28 => some F28
  | 29 => some F29
  | 30 => some F30
  | 31 => some F31
  | 32 => some F32
  | 33 => some F33
  | 34 => some F34
  | 35 => some F35
  | 36 => some F36
  | 37 => some F37
  | 38 => some F38
  | 39 => some F39
  | 40 => some F40
  | 41 => some F41
  | 42 => some F42
  | 43 => some F43
  | 44 => some F44
  | 45 => some F45
  | 46 => some F46
  | 47 => some F47
  | 48 => some F48
  | 49 => some F49
  | 50 => some F50
  | 51 => some F51
  | 52 => some F52
  | 53 => some F53
  | 54 => some F54
  | 55 => some F55
  | 56 => some F56
  | 57 => some F57
  | 58 => some F58
  | 59 => some F59
  | 60 => some F60
  | 61 => some F61
  | 62 => some F62
  | 63 => some F63
  | 64 => some F64
  | 65 => some F65
  | 66 => some F66
  | 67 => some F67
  | 68 => some F68
  | 69 => some F69
  | 70 => some F70
  | 71 => some F71
  | 72 => some F72
  | 96 => some F96
  | _ => none

theorem T_3 : T 3 = some F3 := rfl
theorem T_4 : T 4 = some F4 := rfl
theorem T_5 : T 5 = some F5 := rfl
theorem T_6 : T 6 = some F6 := rfl
theorem T_7 : T 7 = some F7 := rfl
theorem T_8 : T 8 = some F8 := rfl
theorem T_9 : T 9 = some F9 := rfl
theorem T_10 : T 10 = some F10 := rfl
theorem T_11 : T 11 = some F11 := rfl
theorem T_12 : T 12 = some F12 := rfl
theorem T_13 : T 13 = some F13 := rfl
theorem T_14 : T 14 = some F14 := rfl
theorem T_15 : T 15 = some F15 := rfl
theorem T_16 : T 16 = some F16 := rfl
theorem T_17 : T 17 = some F17 := rfl
theorem T_18 : T 18 = some F18 := rfl
theorem T_19 : T 19 = some F19 := rfl
theorem T_20 : T 20 = some F20 := rfl
theorem T_21 : T 21 = some F21 := rfl
theorem T_22 : T 22 = some F22 := rfl
theorem T_23 : T 23 = some F23 := rfl
theorem T_24 : T 24 = some F24 := rfl
theorem T_25 : T 25 = some F25 := rfl
theorem T_26 : T 26 = some F26 := rfl
theorem T_27 : T 27 = some F27 := rfl
theorem T_28 : T 28 = some F28 := rfl
theorem T_29 : T 29 = some F29 := rfl
theorem T_30 : T 30 = some F30 := rfl
theorem T_31 : T 31 = some F31 := rfl
theorem T_32 : T 32 = some F32 := rfl
theorem T_33 : T 33 = some F33 := rfl
theorem T_34 : T 34 = some F34 := rfl
theorem T_35 : T 35 = some F35 := rfl
theorem T_36 : T 36 = some F36 := rfl
theorem T_37 : T 37 = some F37 := rfl
theorem T_38 : T 38 = some F38 := rfl
theorem T_39 : T 39 = some F39 := rfl
theorem T_40 : T 40 = some F40 := rfl
theorem T_41 : T 41 = some F41 := rfl
theorem T_42 : T 42 = some F42 := rfl
theorem T_43 : T 43 = some F43 := rfl
theorem T_44 : T 44 = some F44 := rfl
theorem T_45 : T 45 = some F45 := rfl
theorem T_46 : T 46 = some F46 := rfl
theorem T_47 : T 47 = some F47 := rfl
theorem T_48 : T 48 = some F48 := rfl
theorem T_49 : T 49 = some F49 := rfl
theorem T_50 : T 50 = some F50 := rfl
theorem T_51 : T 51 = some F51 := rfl
theorem T_52 : T 52 = some F52 := rfl
theorem T_53 : T 53 = some F53 := rfl
theorem T_54 : T 54 = some F54 := rfl
theorem T_55 : T 55 = some F55 := rfl
theorem T_56 : T 56 = some F56 := rfl
theorem T_57 : T 57 = some F57 := rfl
theorem T_58 : T 58 = some F58 := rfl
theorem T_59 : T 59 = some F59 := rfl
theorem T_60 : T 60 = some F60 := rfl
theorem T_61 : T 61 = some F61 := rfl
theorem T_62 : T 62 = some F62 := rfl
theorem T_63 : T 63 = some F63 := rfl
theorem T_64 : T 64 = some F64 := rfl
theorem T_65 : T 65 = some F65 := rfl
theorem T_66 : T 66 = some F66 := rfl
theorem T_67 : T 67 = some F67 := rfl
theorem T_68 : T 68 = some F68 := rfl
theorem T_69 : T 69 = some F69 := rfl
theorem T_70 : T 70 = some F70 := rfl
theorem T_71 : T 71 = some F71 := rfl
theorem T_72 : T 72 = some F72 := rfl
theorem T_96 : T 96 = some F96 := rfl

set_option maxRecDepth 100000 in
theorem comp_3 : compFunc Tryd.prog 3 Tryd.f3 = some F3 := by kernel_rfl
set_option maxRecDepth 100000 in
theorem comp_4 : compFunc Tryd.prog 3 Tryd.f4 = some F4 := by kernel_rfl
set_option maxRecDepth 100000 in
theorem comp_5 : compFunc Tryd.prog 3 Tryd.f5 = some F5 := by kernel_rfl
set_option maxRecDepth 100000 in
theorem comp_6 : compFunc Tryd.prog 3 Tryd.f6 = some F6 := by kernel_rfl
set_option maxRecDepth 100000 in
theorem comp_7 : compFunc Tryd.prog 3 Tryd.f7 = some F7 := by kernel_rfl
set_option maxRecDepth 100000 in
theorem comp_8 : compFunc Tryd.prog 3 Tryd.f8 = some F8 := by kernel_rfl
set_option maxRecDepth 100000 in
theorem comp_9 : compFunc Tryd.prog 3 Tryd.f9 = some F9 := by kernel_rfl
set_option maxRecDepth 100000 in
theorem comp_10 : compFunc Tryd.prog 3 Tryd.f10 = some F10 := by kernel_rfl
set_option maxRecDepth 100000 in
theorem comp_11 : compFunc Tryd.prog 3 Tryd.f11 = some F11 := by kernel_rfl
set_option maxRecDepth 100000 in
theorem comp_12 : compFunc Tryd.prog 3 Tryd.f12 = some F12 := by kernel_rfl
set_option maxRecDepth 100000 in
theorem comp_13 : compFunc Tryd.prog 3 Tryd.f13 = some F13 := by kernel_rfl
set_option maxRecDepth 100000 in
theorem comp_14 : compFunc Tryd.prog 3 Tryd.f14 = some F14 := by kernel_rfl
set_option maxRecDepth 100000 in
theorem comp_15 : compFunc Tryd.prog 3 Tryd.f15 = some F15 := by kernel_rfl
set_option maxRecDepth 100000 in
theorem comp_16 : compFunc Tryd.prog 3 Tryd.f16 = some F16 := by kernel_rfl
set_option maxRecDepth 100000 in
theorem comp_17 : compFunc Tryd.prog 3 Tryd.f17 = some F17 := by kernel_rfl
set_option maxRecDepth 100000 in
theorem comp_18 : compFunc Tryd.prog 3 Tryd.f18 = some F18 := by kernel_rfl
set_option maxRecDepth 100000 in
theorem comp_19 : compFunc Tryd.prog 3 Tryd.f19 = some F19 := by kernel_rfl
set_option maxRecDepth 100000 in
theorem comp_20 : compFunc Tryd.prog 3 Tryd.f20 = some F20 := by kernel_rfl
set_option maxRecDepth 100000 in
theorem comp_21 : compFunc Tryd.prog 3 Tryd.f21 = some F21 := by kernel_rfl
set_option maxRecDepth 100000 in
theorem comp_22 : compFunc Tryd.prog 3 Tryd.f22 = some F22 := by kernel_rfl
set_option maxRecDepth 100000 in
theorem comp_23 : compFunc Tryd.prog 3 Tryd.f23 = some F23 := by kernel_rfl
set_option maxRecDepth 100000 in
theorem comp_24 : compFunc Tryd.prog 3 Tryd.f24 = some F24 := by kernel_rfl
set_option maxRecDepth 100000 in
theorem comp_25 : compFunc Tryd.prog 3 Tryd.f25 = some F25 := by kernel_rfl
set_option maxRecDepth 100000 in
theorem comp_26 : compFunc Tryd.prog 3 Tryd.f26 = some F26 := by kernel_rfl
set_option maxRecDepth 100000 in
theorem comp_27 : compFunc Tryd.prog 3 Tryd.f27 = some F27 := by kernel_rfl
set_option maxRecDepth 100000 in
theorem comp_28 : compFunc Tryd.prog 3 Tryd.f28 = some F28 := by kernel_rfl
set_option maxRecDepth 100000 in
theorem comp_29 : compFunc Tryd.prog 3 Tryd.f29 = some F29 := by kernel_rfl
set_option maxRecDepth 100000 in
theorem comp_30 : compFunc Tryd.prog 3 Tryd.f30 = some F30 := by kernel_rfl
set_option maxRecDepth 100000 in
theorem comp_31 : compFunc Tryd.prog 3 Tryd.f31 = some F31 := by kernel_rfl
set_option maxRecDepth 100000 in
theorem comp_32 : compFunc Tryd.prog 3 Tryd.f32 = some F32 := by kernel_rfl
set_option maxRecDepth 100000 in
theorem comp_33 : compFunc Tryd.prog 3 Tryd.f33 = some F33 := by kernel_rfl
set_option maxRecDepth 100000 in
theorem comp_34 : compFunc Tryd.prog 3 Tryd.f34 = some F34 := by kernel_rfl
set_option maxRecDepth 100000 in
theorem comp_35 : compFunc Tryd.prog 3 Tryd.f35 = some F35 := by kernel_rfl
set_option maxRecDepth 100000 in
theorem comp_37 : compFunc Tryd.prog 3 Tryd.f37 = some F37 := by kernel_rfl
set_option maxRecDepth 100000 in
theorem comp_38 : compFunc Tryd.prog 3 Tryd.f38 = some F38 := by kernel_rfl
set_option maxRecDepth 100000 in
theorem comp_39 : compFunc Tryd.prog 3 Tryd.f39 = some F39 := by kernel_rfl
set_option maxRecDepth 100000 in
theorem comp_40 : compFunc Tryd.prog 3 Tryd.f40 = some F40 := by kernel_rfl
set_option maxRecDepth 100000 in
theorem comp_41 : compFunc Tryd.prog 3 Tryd.f41 = some F41 := by kernel_rfl
set_option maxRecDepth 100000 in
theorem comp_42 : compFunc Tryd.prog 3 Tryd.f42 = some F42 := by kernel_rfl
set_option maxRecDepth 100000 in
theorem comp_43 : compFunc Tryd.prog 3 Tryd.f43 = some F43 := by kernel_rfl
set_option maxRecDepth 100000 in
theorem comp_44 : compFunc Tryd.prog 3 Tryd.f44 = some F44 := by kernel_rfl
set_option maxRecDepth 100000 in
theorem comp_45 : compFunc Tryd.prog 3 Tryd.f45 = some F45 := by kernel_rfl
set_option maxRecDepth 100000 in
theorem comp_46 : compFunc Tryd.prog 3 Tryd.f46 = some F46 := by kernel_rfl
set_option maxRecDepth 100000 in
theorem comp_47 : compFunc Tryd.prog 3 Tryd.f47 = some F47 := by kernel_rfl
set_option maxRecDepth 100000 in
theorem comp_48 : compFunc Tryd.prog 3 Tryd.f48 = some F48 := by kernel_rfl
set_option maxRecDepth 100000 in
theorem comp_49 : compFunc Tryd.prog 3 Tryd.f49 = some F49 := by kernel_rfl
set_option maxRecDepth 100000 in
theorem comp_50 : compFunc Tryd.prog 3 Tryd.f50 = some F50 := by kernel_rfl
set_option maxRecDepth 100000 in
theorem comp_51 : compFunc Tryd.prog 3 Tryd.f51 = some F51 := by kernel_rfl
set_option maxRecDepth 100000 in
theorem comp_52 : compFunc Tryd.prog 3 Tryd.f52 = some F52 := by kernel_rfl
set_option maxRecDepth 100000 in
theorem comp_53 : compFunc Tryd.prog 3 Tryd.f53 = some F53 := by kernel_rfl
set_option maxRecDepth 100000 in
theorem comp_54 : compFunc Tryd.prog 3 Tryd.f54 = some F54 := by kernel_rfl
set_option maxRecDepth 100000 in
theorem comp_55 : compFunc Tryd.prog 3 Tryd.f55 = some F55 := by kernel_rfl
set_option maxRecDepth 100000 in
theorem comp_56 : compFunc Tryd.prog 3 Tryd.f56 = some F56 := by kernel_rfl
set_option maxRecDepth 100000 in
theorem comp_57 : compFunc Tryd.prog 3 Tryd.f57 = some F57 := by kernel_rfl
set_option maxRecDepth 100000 in
theorem comp_58 : compFunc Tryd.prog 3 Tryd.f58 = some F58 := by kernel_rfl
set_option maxRecDepth 100000 in
theorem comp_59 : compFunc Tryd.prog 3 Tryd.f59 = some F59 := by kernel_rfl
set_option maxRecDepth 100000 in
theorem comp_60 : compFunc Tryd.prog 3 Tryd.f60 = some F60 := by kernel_rfl
set_option maxRecDepth 100000 in
theorem comp_61 : compFunc Tryd.prog 3 Tryd.f61 = some F61 := by kernel_rfl
set_option maxRecDepth 100000 in
theorem comp_62 : compFunc Tryd.prog 3 Tryd.f62 = some F62 := by kernel_rfl
set_option maxRecDepth 100000 in
theorem comp_63 : compFunc Tryd.prog 3 Tryd.f63 = some F63 := by kernel_rfl
set_option maxRecDepth 100000 in
theorem comp_64 : compFunc Tryd.prog 3 Tryd.f64 = some F64 := by kernel_rfl
set_option maxRecDepth 100000 in
theorem comp_65 : compFunc Tryd.prog 3 Tryd.f65 = some F65 := by kernel_rfl
set_option maxRecDepth 100000 in
theorem comp_66 : compFunc Tryd.prog 3 Tryd.f66 = some F66 := by kernel_rfl
set_option maxRecDepth 100000 in
theorem comp_67 : compFunc Tryd.prog 3 Tryd.f67 = some F67 := by kernel_rfl
set_option maxRecDepth 100000 in
theorem comp_68 : compFunc Tryd.prog 3 Tryd.f68 = some F68 := by kernel_rfl
set_option maxRecDepth 100000 in
theorem comp_69 : compFunc Tryd.prog 3 Tryd.f69 = some F69 := by kernel_rfl
set_option maxRecDepth 100000 in
theorem comp_70 : compFunc Tryd.prog 3 Tryd.f70 = some F70 := by kernel_rfl
set_option maxRecDepth 100000 in
theorem comp_71 : compFunc Tryd.prog 3 Tryd.f71 = some F71 := by kernel_rfl
set_option maxRecDepth 100000 in
theorem comp_72 : compFunc Tryd.prog 3 Tryd.f72 = some F72 := by kernel_rfl
set_option maxRecDepth 100000 in
theorem comp_96 : compFunc Tryd.prog 3 Tryd.f96 = some F96 := by kernel_rfl
theorem in_3 : F3.body.within F3.ntmps = true := by kernel_rfl
theorem in_4 : F4.body.within F4.ntmps = true := by kernel_rfl
theorem in_5 : F5.body.within F5.ntmps = true := by kernel_rfl
theorem in_6 : F6.body.within F6.ntmps = true := by kernel_rfl
theorem in_7 : F7.body.within F7.ntmps = true := by kernel_rfl
theorem in_8 : F8.body.within F8.ntmps = true := by kernel_rfl
theorem in_9 : F9.body.within F9.ntmps = true := by kernel_rfl
theorem in_10 : F10.body.within F10.ntmps = true := by kernel_rfl
theorem in_11 : F11.body.within F11.ntmps = true := by kernel_rfl
theorem in_12 : F12.body.within F12.ntmps = true := by kernel_rfl
theorem in_13 : F13.body.within F13.ntmps = true := by kernel_rfl
theorem in_14 : F14.body.within F14.ntmps = true := by kernel_rfl
theorem in_15 : F15.body.within F15.ntmps = true := by kernel_rfl
theorem in_16 : F16.body.within F16.ntmps = true := by kernel_rfl
theorem in_17 : F17.body.within F17.ntmps = true := by kernel_rfl
theorem in_18 : F18.body.within F18.ntmps = true := by kernel_rfl
theorem in_19 : F19.body.within F19.ntmps = true := by kernel_rfl
theorem in_20 : F20.body.within F20.ntmps = true := by kernel_rfl
theorem in_21 : F21.body.within F21.ntmps = true := by kernel_rfl
theorem in_22 : F22.body.within F22.ntmps = true := by kernel_rfl
theorem in_23 : F23.body.within F23.ntmps = true := by kernel_rfl
theorem in_24 : F24.body.within F24.ntmps = true := by kernel_rfl
theorem in_25 : F25.body.within F25.ntmps = true := by kernel_rfl
theorem in_26 : F26.body.within F26.ntmps = true := by kernel_rfl
theorem in_27 : F27.body.within F27.ntmps = true := by kernel_rfl
theorem in_28 : F28.body.within F28.ntmps = true := by kernel_rfl
theorem in_29 : F29.body.within F29.ntmps = true := by kernel_rfl
theorem in_30 : F30.body.within F30.ntmps = true := by kernel_rfl
theorem in_31 : F31.body.within F31.ntmps = true := by kernel_rfl
theorem in_32 : F32.body.within F32.ntmps = true := by kernel_rfl
theorem in_33 : F33.body.within F33.ntmps = true := by kernel_rfl
theorem in_34 : F34.body.within F34.ntmps = true := by kernel_rfl
theorem in_35 : F35.body.within F35.ntmps = true := by kernel_rfl
theorem in_36 : F36.body.within F36.ntmps = true := by kernel_rfl
theorem in_37 : F37.body.within F37.ntmps = true := by kernel_rfl
theorem in_38 : F38.body.within F38.ntmps = true := by kernel_rfl
theorem in_39 : F39.body.within F39.ntmps = true := by kernel_rfl
theorem in_40 : F40.body.within F40.ntmps = true := by kernel_rfl
theorem in_41 : F41.body.within F41.ntmps = true := by kernel_rfl
theorem in_42 : F42.body.within F42.ntmps = true := by kernel_rfl
theorem in_43 : F43.body.within F43.ntmps = true := by kernel_rfl
theorem in_44 : F44.body.within F44.ntmps = true := by kernel_rfl
theorem in_45 : F45.body.within F45.ntmps = true := by kernel_rfl
theorem in_46 : F46.body.within F46.ntmps = true := by kernel_rfl
theorem in_47 : F47.body.within F47.ntmps = true := by kernel_rfl
theorem in_48 : F48.body.within F48.ntmps = true := by kernel_rfl
theorem in_49 : F49.body.within F49.ntmps = true := by kernel_rfl
theorem in_50 : F50.body.within F50.ntmps = true := by kernel_rfl
theorem in_51 : F51.body.within F51.ntmps = true := by kernel_rfl
theorem in_52 : F52.body.within F52.ntmps = true := by kernel_rfl
theorem in_53 : F53.body.within F53.ntmps = true := by kernel_rfl
theorem in_54 : F54.body.within F54.ntmps = true := by kernel_rfl
theorem in_55 : F55.body.within F55.ntmps = true := by kernel_rfl
theorem in_56 : F56.body.within F56.ntmps = true := by kernel_rfl
theorem in_57 : F57.body.within F57.ntmps = true := by kernel_rfl
theorem in_58 : F58.body.within F58.ntmps = true := by kernel_rfl
theorem in_59 : F59.body.within F59.ntmps = true := by kernel_rfl
theorem in_60 : F60.body.within F60.ntmps = true := by kernel_rfl
theorem in_61 : F61.body.within F61.ntmps = true := by kernel_rfl
theorem in_62 : F62.body.within F62.ntmps = true := by kernel_rfl
theorem in_63 : F63.body.within F63.ntmps = true := by kernel_rfl
theorem in_64 : F64.body.within F64.ntmps = true := by kernel_rfl
theorem in_65 : F65.body.within F65.ntmps = true := by kernel_rfl
theorem in_66 : F66.body.within F66.ntmps = true := by kernel_rfl
theorem in_67 : F67.body.within F67.ntmps = true := by kernel_rfl
theorem in_68 : F68.body.within F68.ntmps = true := by kernel_rfl
theorem in_69 : F69.body.within F69.ntmps = true := by kernel_rfl
theorem in_70 : F70.body.within F70.ntmps = true := by kernel_rfl
theorem in_71 : F71.body.within F71.ntmps = true := by kernel_rfl
theorem in_72 : F72.body.within F72.ntmps = true := by kernel_rfl
theorem in_96 : F96.body.within F96.ntmps = true := by kernel_rfl

theorem table_in : TableIn T := by
  intro f F h
  unfold T at h
  split at h
  · cases h; exact in_3
  · cases h; exact in_4
  · cases h; exact in_5
  · cases h; exact in_6
  · cases h; exact in_7
  · cases h; exact in_8
  · cases h; exact in_9
  · cases h; exact in_10
  · cases h; exact in_11
  · cases h; exact in_12
  · cases h; exact in_13
  · cases h; exact in_14
  · cases h; exact in_15
  · cases h; exact in_16
  · cases h; exact in_17
  · cases h; exact in_18
  · cases h; exact in_19
  · cases h; exact in_20
  · cases h; exact in_21
  · cases h; exact in_22
  · cases h; exact in_23
  · cases h; exact in_24
  · cases h; exact in_25
  · cases h; exact in_26
  · cases h; exact in_27
  · cases h; exact in_28
  · cases h; exact in_29
  · cases h; exact in_30
  · cases h; exact in_31
  · cases h; exact in_32
  · cases h; exact in_33
  · cases h; exact in_34
  · cases h; exact in_35
  · cases h; exact in_36
  · cases h; exact in_37
  · cases h; exact in_38
  · cases h; exact in_39
  · cases h; exact in_40
  · cases h; exact in_41
  · cases h; exact in_42
  · cases h; exact in_43
  · cases h; exact in_44
  · cases h; exact in_45
  · cases h; exact in_46
  · cases h; exact in_47
  · cases h; exact in_48
  · cases h; exact in_49
  · cases h; exact in_50
  · cases h; exact in_51
  · cases h; exact in_52
  · cases h; exact in_53
  · cases h; exact in_54
  · cases h; exact in_55
  · cases h; exact in_56
  · cases h; exact in_57
  · cases h; exact in_58
  · cases h; exact in_59
  · cases h; exact in_60
  · cases h; exact in_61
  · cases h; exact in_62
  · cases h; exact in_63
  · cases h; exact in_64
  · cases h; exact in_65
  · cases h; exact in_66
  · cases h; exact in_67
  · cases h; exact in_68
  · cases h; exact in_69
  · cases h; exact in_70
  · cases h; exact in_71
  · cases h; exact in_72
  · cases h; exact in_96
  · cases h

/-- The program's functions, but for those that are shown by hand. -/
theorem table_but : ∀ f F, T f = some F → (∃ fn, Tryd.prog.funcs[f]? = some fn ∧ compFunc Tryd.prog 3 fn = some F) ∨ (f = 36 ∧ F = F36) := by
  intro f F h
  unfold T at h
  split at h
  · cases h; exact .inl ⟨Tryd.f3, Tryd.func3, comp_3⟩
  · cases h; exact .inl ⟨Tryd.f4, Tryd.func4, comp_4⟩
  · cases h; exact .inl ⟨Tryd.f5, Tryd.func5, comp_5⟩
  · cases h; exact .inl ⟨Tryd.f6, Tryd.func6, comp_6⟩
  · cases h; exact .inl ⟨Tryd.f7, Tryd.func7, comp_7⟩
  · cases h; exact .inl ⟨Tryd.f8, Tryd.func8, comp_8⟩
  · cases h; exact .inl ⟨Tryd.f9, Tryd.func9, comp_9⟩
  · cases h; exact .inl ⟨Tryd.f10, Tryd.func10, comp_10⟩
  · cases h; exact .inl ⟨Tryd.f11, Tryd.func11, comp_11⟩
  · cases h; exact .inl ⟨Tryd.f12, Tryd.func12, comp_12⟩
  · cases h; exact .inl ⟨Tryd.f13, Tryd.func13, comp_13⟩
  · cases h; exact .inl ⟨Tryd.f14, Tryd.func14, comp_14⟩
  · cases h; exact .inl ⟨Tryd.f15, Tryd.func15, comp_15⟩
  · cases h; exact .inl ⟨Tryd.f16, Tryd.func16, comp_16⟩
  · cases h; exact .inl ⟨Tryd.f17, Tryd.func17, comp_17⟩
  · cases h; exact .inl ⟨Tryd.f18, Tryd.func18, comp_18⟩
  · cases h; exact .inl ⟨Tryd.f19, Tryd.func19, comp_19⟩
  · cases h; exact .inl ⟨Tryd.f20, Tryd.func20, comp_20⟩
  · cases h; exact .inl ⟨Tryd.f21, Tryd.func21, comp_21⟩
  · cases h; exact .inl ⟨Tryd.f22, Tryd.func22, comp_22⟩
  · cases h; exact .inl ⟨Tryd.f23, Tryd.func23, comp_23⟩
  · cases h; exact .inl ⟨Tryd.f24, Tryd.func24, comp_24⟩
  · cases h; exact .inl ⟨Tryd.f25, Tryd.func25, comp_25⟩
  · cases h; exact .inl ⟨Tryd.f26, Tryd.func26, comp_26⟩
  · cases h; exact .inl ⟨Tryd.f27, Tryd.func27, comp_27⟩
  · cases h; exact .inl ⟨Tryd.f28, Tryd.func28, comp_28⟩
  · cases h; exact .inl ⟨Tryd.f29, Tryd.func29, comp_29⟩
  · cases h; exact .inl ⟨Tryd.f30, Tryd.func30, comp_30⟩
  · cases h; exact .inl ⟨Tryd.f31, Tryd.func31, comp_31⟩
  · cases h; exact .inl ⟨Tryd.f32, Tryd.func32, comp_32⟩
  · cases h; exact .inl ⟨Tryd.f33, Tryd.func33, comp_33⟩
  · cases h; exact .inl ⟨Tryd.f34, Tryd.func34, comp_34⟩
  · cases h; exact .inl ⟨Tryd.f35, Tryd.func35, comp_35⟩
  · cases h; exact .inr (by simp)
  · cases h; exact .inl ⟨Tryd.f37, Tryd.func37, comp_37⟩
  · cases h; exact .inl ⟨Tryd.f38, Tryd.func38, comp_38⟩
  · cases h; exact .inl ⟨Tryd.f39, Tryd.func39, comp_39⟩
  · cases h; exact .inl ⟨Tryd.f40, Tryd.func40, comp_40⟩
  · cases h; exact .inl ⟨Tryd.f41, Tryd.func41, comp_41⟩
  · cases h; exact .inl ⟨Tryd.f42, Tryd.func42, comp_42⟩
  · cases h; exact .inl ⟨Tryd.f43, Tryd.func43, comp_43⟩
  · cases h; exact .inl ⟨Tryd.f44, Tryd.func44, comp_44⟩
  · cases h; exact .inl ⟨Tryd.f45, Tryd.func45, comp_45⟩
  · cases h; exact .inl ⟨Tryd.f46, Tryd.func46, comp_46⟩
  · cases h; exact .inl ⟨Tryd.f47, Tryd.func47, comp_47⟩
  · cases h; exact .inl ⟨Tryd.f48, Tryd.func48, comp_48⟩
  · cases h; exact .inl ⟨Tryd.f49, Tryd.func49, comp_49⟩
  · cases h; exact .inl ⟨Tryd.f50, Tryd.func50, comp_50⟩
  · cases h; exact .inl ⟨Tryd.f51, Tryd.func51, comp_51⟩
  · cases h; exact .inl ⟨Tryd.f52, Tryd.func52, comp_52⟩
  · cases h; exact .inl ⟨Tryd.f53, Tryd.func53, comp_53⟩
  · cases h; exact .inl ⟨Tryd.f54, Tryd.func54, comp_54⟩
  · cases h; exact .inl ⟨Tryd.f55, Tryd.func55, comp_55⟩
  · cases h; exact .inl ⟨Tryd.f56, Tryd.func56, comp_56⟩
  · cases h; exact .inl ⟨Tryd.f57, Tryd.func57, comp_57⟩
  · cases h; exact .inl ⟨Tryd.f58, Tryd.func58, comp_58⟩
  · cases h; exact .inl ⟨Tryd.f59, Tryd.func59, comp_59⟩
  · cases h; exact .inl ⟨Tryd.f60, Tryd.func60, comp_60⟩
  · cases h; exact .inl ⟨Tryd.f61, Tryd.func61, comp_61⟩
  · cases h; exact .inl ⟨Tryd.f62, Tryd.func62, comp_62⟩
  · cases h; exact .inl ⟨Tryd.f63, Tryd.func63, comp_63⟩
  · cases h; exact .inl ⟨Tryd.f64, Tryd.func64, comp_64⟩
  · cases h; exact .inl ⟨Tryd.f65, Tryd.func65, comp_65⟩
  · cases h; exact .inl ⟨Tryd.f66, Tryd.func66, comp_66⟩
  · cases h; exact .inl ⟨Tryd.f67, Tryd.func67, comp_67⟩
  · cases h; exact .inl ⟨Tryd.f68, Tryd.func68, comp_68⟩
  · cases h; exact .inl ⟨Tryd.f69, Tryd.func69, comp_69⟩
  · cases h; exact .inl ⟨Tryd.f70, Tryd.func70, comp_70⟩
  · cases h; exact .inl ⟨Tryd.f71, Tryd.func71, comp_71⟩
  · cases h; exact .inl ⟨Tryd.f72, Tryd.func72, comp_72⟩
  · cases h; exact .inl ⟨Tryd.f96, Tryd.func96, comp_96⟩
  · cases h

end Go.Proofs.YtmcnmcpbdmjbfaaDoor.Ev
