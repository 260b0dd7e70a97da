/- The program's functions as the evaluator takes them, printed by a program of this repository (PrintTab.lean, mktab.py); that they are the program's is proved at the end. -/
import Derived.Test.YtjieccliblmgcaaEvComp
import Derived.Test.YtjieccliblmgcaaEvRun
import Derived.Test.YtjieccliblmgcaaChecked
import Derived.KernelRfl
namespace Go.Proofs.Ytjieccliblmgcaa.Ev
open Go

/-- 'hostler/hostlerlaw03.TicketAhead' -/
def F3 : AFunc := ⟨94, [.tmp 4],
  .seq (.region [
    ⟨(some 4), .mv (.const (.bool false)), none⟩])
  (.seq (.seq (.region [
    ⟨(some 12), .call 7 [], none⟩,
    ⟨(some 13), .un .not (.tmp 12), none⟩])
  (.cond (.tmp 13)
    (.seq (.region [
      ⟨(some 4), .mv (.const (.bool false)), none⟩])
    (.ret))
    (.skip)))
  (.seq (.region [
    ⟨(some 15), .mv (.tmp 0), none⟩,
    ⟨(some 16), .call 8 [(.tmp 15)], none⟩,
    ⟨(some 14), .mv (.tmp 16), none⟩,
    ⟨(some 17), .extract 0 (.tmp 14), none⟩,
    ⟨(some 18), .extract 1 (.tmp 14), none⟩,
    ⟨(some 6), .alloc [(.int .i64 0), (.int .i64 0)], none⟩,
    ⟨(some 5), .mv (.tmp 17), none⟩,
    ⟨none, .store 2 (.tmp 6) (.tmp 18), none⟩])
  (.seq (.region [
    ⟨(some 19), .mv (.tmp 1), none⟩,
    ⟨(some 20), .bin .rem (.tmp 19) (.const (.int .u8 30)), none⟩,
    ⟨(some 21), .toInt .i64 (.tmp 20), none⟩,
    ⟨(some 7), .mv (.tmp 21), none⟩])
  (.seq (.region [
    ⟨(some 8), .mv (.const .nilslice), none⟩])
  (.seq (.seq (.region [
    ⟨(some 22), .mv (.tmp 7), none⟩,
    ⟨(some 23), .mv (.const (.int .i64 0)), none⟩])
  (.block 0 (.loop (.seq (.region [
      ⟨(some 24), .bin .lss (.tmp 23) (.tmp 22), none⟩])
    (.seq (.cond (.tmp 24)
      (.skip)
      (.exit 0))
    (.seq (.block 1 (.region [
      ⟨(some 25), .mv (.tmp 8), none⟩,
      ⟨(some 26), .loadN 2 (.tmp 6), none⟩,
      ⟨(some 27), .mv (.tmp 5), none⟩,
      ⟨(some 28), .call 9 [(.tmp 26), (.tmp 27)], none⟩,
      ⟨(some 29), .buildSlice [(.int .u64 0)] 1 [((0, 1), (.tmp 28))], none⟩,
      ⟨(some 30), .append 1 8 [(.int .u64 0)] (.tmp 25) (.tmp 29), none⟩,
      ⟨(some 8), .mv (.tmp 30), none⟩]))
    (.region [
      ⟨(some 31), .bin .add (.tmp 23) (.const (.int .i64 1)), none⟩,
      ⟨(some 23), .mv (.tmp 31), none⟩])))))))
  (.seq (.region [
    ⟨(some 32), .loadN 2 (.tmp 6), none⟩,
    ⟨(some 33), .mv (.tmp 5), none⟩,
    ⟨(some 34), .call 9 [(.tmp 32), (.tmp 33)], none⟩,
    ⟨(some 9), .mv (.tmp 34), none⟩])
  (.seq (.seq (.region [
    ⟨(some 35), .mv (.tmp 8), none⟩,
    ⟨(some 36), .lenS (.tmp 35), none⟩,
    ⟨(some 37), .mv (.const (.int .i64 0)), none⟩])
  (.block 2 (.loop (.seq (.region [
      ⟨(some 38), .bin .lss (.tmp 37) (.tmp 36), none⟩])
    (.seq (.cond (.tmp 38)
      (.skip)
      (.exit 2))
    (.seq (.block 3 (.seq (.region [
      ⟨(some 39), .mv (.tmp 37), none⟩,
      ⟨(some 40), .idxAddr 1 none (.tmp 35) (.tmp 37), none⟩,
      ⟨(some 41), .load1 (.tmp 40), none⟩,
      ⟨(some 10), .mv (.tmp 39), none⟩,
      ⟨(some 11), .mv (.tmp 41), none⟩])
    (.seq (.region [
      ⟨(some 42), .loadN 2 (.tmp 6), none⟩,
      ⟨(some 43), .mv (.tmp 5), none⟩,
      ⟨(some 44), .mv (.tmp 9), none⟩,
      ⟨(some 45), .call 10 [(.tmp 42), (.tmp 43), (.tmp 44)], none⟩,
      ⟨(some 46), .mv (.tmp 7), none⟩,
      ⟨(some 47), .mv (.tmp 10), none⟩,
      ⟨(some 48), .bin .sub (.tmp 46) (.tmp 47), none⟩,
      ⟨(some 49), .toInt .u64 (.tmp 48), none⟩,
      ⟨(some 50), .bin .neq (.tmp 45) (.tmp 49), none⟩,
      ⟨(some 51), .mv (.tmp 50), none⟩,
      ⟨(some 52), .loadN 2 (.tmp 6), (some (51, false))⟩,
      ⟨(some 53), .mv (.tmp 5), (some (51, false))⟩,
      ⟨(some 54), .mv (.tmp 9), (some (51, false))⟩,
      ⟨(some 55), .call 11 [(.tmp 52), (.tmp 53), (.tmp 54)], (some (51, false))⟩,
      ⟨(some 56), .pick (.tmp 51) (.const (.bool true)) (.tmp 55), none⟩,
      ⟨(some 57), .mv (.tmp 56), none⟩,
      ⟨(some 58), .loadN 2 (.tmp 6), (some (57, false))⟩,
      ⟨(some 59), .mv (.tmp 5), (some (57, false))⟩,
      ⟨(some 60), .mv (.tmp 9), (some (57, false))⟩,
      ⟨(some 61), .call 12 [(.tmp 58), (.tmp 59), (.tmp 60)], (some (57, false))⟩,
      ⟨(some 62), .pick (.tmp 57) (.const (.bool true)) (.tmp 61), none⟩,
      ⟨(some 63), .mv (.tmp 62), none⟩,
      ⟨(some 64), .loadN 2 (.tmp 6), (some (63, false))⟩,
      ⟨(some 65), .mv (.tmp 5), (some (63, false))⟩,
      ⟨(some 66), .mv (.tmp 11), (some (63, false))⟩,
      ⟨(some 67), .call 12 [(.tmp 64), (.tmp 65), (.tmp 66)], (some (63, false))⟩,
      ⟨(some 68), .un .not (.tmp 67), (some (63, false))⟩,
      ⟨(some 69), .pick (.tmp 63) (.const (.bool true)) (.tmp 68), none⟩])
    (.cond (.tmp 69)
      (.seq (.region [
        ⟨(some 4), .mv (.const (.bool false)), none⟩])
      (.ret))
      (.skip)))))
    (.region [
      ⟨(some 70), .bin .add (.tmp 37) (.const (.int .i64 1)), none⟩,
      ⟨(some 37), .mv (.tmp 70), none⟩])))))))
  (.seq (.region [
    ⟨(some 71), .loadN 2 (.tmp 6), none⟩,
    ⟨(some 72), .mv (.tmp 5), none⟩,
    ⟨(some 73), .mv (.tmp 9), none⟩,
    ⟨(some 74), .call 10 [(.tmp 71), (.tmp 72), (.tmp 73)], none⟩,
    ⟨(some 75), .bin .eql (.tmp 74) (.const (.int .u64 0)), none⟩,
    ⟨(some 76), .mv (.tmp 75), none⟩,
    ⟨(some 77), .loadN 2 (.tmp 6), (some (76, true))⟩,
    ⟨(some 78), .mv (.tmp 5), (some (76, true))⟩,
    ⟨(some 79), .mv (.tmp 9), (some (76, true))⟩,
    ⟨(some 80), .call 11 [(.tmp 77), (.tmp 78), (.tmp 79)], (some (76, true))⟩,
    ⟨(some 81), .pick (.tmp 76) (.tmp 80) (.const (.bool false)), none⟩,
    ⟨(some 82), .mv (.tmp 81), none⟩,
    ⟨(some 83), .loadN 2 (.tmp 6), (some (82, true))⟩,
    ⟨(some 84), .mv (.tmp 5), (some (82, true))⟩,
    ⟨(some 85), .mv (.tmp 9), (some (82, true))⟩,
    ⟨(some 86), .call 12 [(.tmp 83), (.tmp 84), (.tmp 85)], (some (82, true))⟩,
    ⟨(some 87), .pick (.tmp 82) (.tmp 86) (.const (.bool false)), none⟩,
    ⟨(some 88), .mv (.tmp 87), none⟩,
    ⟨(some 89), .loadN 2 (.tmp 6), (some (88, true))⟩,
    ⟨(some 90), .mv (.tmp 5), (some (88, true))⟩,
    ⟨(some 91), .call 13 [(.tmp 89), (.tmp 90)], (some (88, true))⟩,
    ⟨(some 92), .un .not (.tmp 91), (some (88, true))⟩,
    ⟨(some 93), .pick (.tmp 88) (.tmp 92) (.const (.bool false)), none⟩,
    ⟨(some 4), .mv (.tmp 93), none⟩])
  (.ret)))))))))⟩

/-- 'hostler/hostlerlaw03.TicketOrder' -/
def F4 : AFunc := ⟨110, [.tmp 6],
  .seq (.region [
    ⟨(some 6), .mv (.const (.bool false)), none⟩])
  (.seq (.seq (.region [
    ⟨(some 14), .call 7 [], none⟩,
    ⟨(some 15), .un .not (.tmp 14), none⟩,
    ⟨(some 16), .mv (.tmp 15), none⟩,
    ⟨(some 17), .mv (.tmp 2), (some (16, false))⟩,
    ⟨(some 18), .lenS (.tmp 17), (some (16, false))⟩,
    ⟨(some 19), .bin .gtr (.tmp 18) (.const (.int .i64 200)), (some (16, false))⟩,
    ⟨(some 20), .pick (.tmp 16) (.const (.bool true)) (.tmp 19), none⟩])
  (.cond (.tmp 20)
    (.seq (.region [
      ⟨(some 21), .call 7 [], none⟩,
      ⟨(some 6), .mv (.tmp 21), none⟩])
    (.ret))
    (.skip)))
  (.seq (.region [
    ⟨(some 23), .mv (.tmp 0), none⟩,
    ⟨(some 24), .call 8 [(.tmp 23)], none⟩,
    ⟨(some 22), .mv (.tmp 24), none⟩,
    ⟨(some 25), .extract 0 (.tmp 22), none⟩,
    ⟨(some 26), .extract 1 (.tmp 22), none⟩,
    ⟨(some 8), .alloc [(.int .i64 0), (.int .i64 0)], none⟩,
    ⟨(some 7), .mv (.tmp 25), none⟩,
    ⟨none, .store 2 (.tmp 8) (.tmp 26), none⟩])
  (.seq (.region [
    ⟨(some 9), .mv (.const .nilslice), none⟩])
  (.seq (.seq (.region [
    ⟨(some 27), .mv (.tmp 1), none⟩,
    ⟨(some 28), .bin .rem (.tmp 27) (.const (.int .u8 20)), none⟩,
    ⟨(some 29), .toInt .i64 (.tmp 28), none⟩,
    ⟨(some 30), .mv (.const (.int .i64 0)), none⟩])
  (.block 0 (.loop (.seq (.region [
      ⟨(some 31), .bin .lss (.tmp 30) (.tmp 29), none⟩])
    (.seq (.cond (.tmp 31)
      (.skip)
      (.exit 0))
    (.seq (.block 1 (.region [
      ⟨(some 32), .mv (.tmp 9), none⟩,
      ⟨(some 33), .loadN 2 (.tmp 8), none⟩,
      ⟨(some 34), .mv (.tmp 7), none⟩,
      ⟨(some 35), .call 9 [(.tmp 33), (.tmp 34)], none⟩,
      ⟨(some 36), .buildSlice [(.int .u64 0)] 1 [((0, 1), (.tmp 35))], none⟩,
      ⟨(some 37), .append 1 8 [(.int .u64 0)] (.tmp 32) (.tmp 36), none⟩,
      ⟨(some 9), .mv (.tmp 37), none⟩]))
    (.region [
      ⟨(some 38), .bin .add (.tmp 30) (.const (.int .i64 1)), none⟩,
      ⟨(some 30), .mv (.tmp 38), none⟩])))))))
  (.seq (.region [
    ⟨(some 10), .mv (.const (.int .i64 0)), none⟩])
  (.seq (.seq (.region [
    ⟨(some 39), .mv (.tmp 2), none⟩,
    ⟨(some 40), .lenS (.tmp 39), none⟩,
    ⟨(some 41), .mv (.const (.int .i64 0)), none⟩])
  (.block 2 (.loop (.seq (.region [
      ⟨(some 42), .bin .lss (.tmp 41) (.tmp 40), none⟩])
    (.seq (.cond (.tmp 42)
      (.skip)
      (.exit 2))
    (.seq (.block 3 (.seq (.region [
      ⟨(some 43), .idxAddr 1 none (.tmp 39) (.tmp 41), none⟩,
      ⟨(some 44), .load1 (.tmp 43), none⟩,
      ⟨(some 12), .mv (.tmp 44), none⟩])
    (.seq (.seq (.region [
      ⟨(some 45), .mv (.tmp 10), none⟩,
      ⟨(some 46), .mv (.tmp 9), none⟩,
      ⟨(some 47), .lenS (.tmp 46), none⟩,
      ⟨(some 48), .bin .eql (.tmp 45) (.tmp 47), none⟩])
    (.cond (.tmp 48)
      (.exit 2)
      (.skip)))
    (.seq (.region [
      ⟨(some 49), .mv (.tmp 12), none⟩,
      ⟨(some 50), .toInt .i64 (.tmp 49), none⟩,
      ⟨(some 51), .mv (.tmp 9), none⟩,
      ⟨(some 52), .lenS (.tmp 51), none⟩,
      ⟨(some 53), .bin .rem (.tmp 50) (.tmp 52), none⟩,
      ⟨(some 13), .mv (.tmp 53), none⟩])
    (.seq (.seq (.draw [
      (⟨(some 54), .loadN 2 (.tmp 8), none⟩, .reads 0 0),
      (⟨(some 55), .mv (.tmp 7), none⟩, .still),
      (⟨(some 56), .mv (.tmp 9), none⟩, .still),
      (⟨(some 57), .mv (.tmp 13), none⟩, .still),
      (⟨(some 58), .idxAddr 1 none (.tmp 56) (.tmp 57), none⟩, .still),
      (⟨(some 59), .load1 (.tmp 58), none⟩, .reads 0 0),
      (⟨(some 60), .call 11 [(.tmp 54), (.tmp 55), (.tmp 59)], none⟩, .loud),
      (⟨(some 61), .mv (.tmp 13), none⟩, .still),
      (⟨(some 62), .mv (.tmp 10), none⟩, .still),
      (⟨(some 63), .bin .eql (.tmp 61) (.tmp 62), none⟩, .still),
      (⟨(some 64), .eqBool true (.tmp 60) (.tmp 63), none⟩, .still)])
    (.cond (.tmp 64)
      (.seq (.region [
        ⟨(some 6), .mv (.const (.bool false)), none⟩])
      (.ret))
      (.skip)))
    (.seq (.seq (.draw [
      (⟨(some 65), .loadN 2 (.tmp 8), none⟩, .reads 0 0),
      (⟨(some 66), .mv (.tmp 7), none⟩, .still),
      (⟨(some 67), .mv (.tmp 9), none⟩, .still),
      (⟨(some 68), .mv (.tmp 13), none⟩, .still),
      (⟨(some 69), .idxAddr 1 none (.tmp 67) (.tmp 68), none⟩, .still),
      (⟨(some 70), .load1 (.tmp 69), none⟩, .reads 0 0),
      (⟨(some 71), .call 12 [(.tmp 65), (.tmp 66), (.tmp 70)], none⟩, .loud),
      (⟨(some 72), .mv (.tmp 13), none⟩, .still),
      (⟨(some 73), .mv (.tmp 10), none⟩, .still),
      (⟨(some 74), .bin .eql (.tmp 72) (.tmp 73), none⟩, .still),
      (⟨(some 75), .eqBool true (.tmp 71) (.tmp 74), none⟩, .still)])
    (.cond (.tmp 75)
      (.seq (.region [
        ⟨(some 6), .mv (.const (.bool false)), none⟩])
      (.ret))
      (.skip)))
    (.seq (.region [
      ⟨(some 76), .mv (.tmp 13), none⟩,
      ⟨(some 77), .mv (.tmp 10), none⟩,
      ⟨(some 78), .bin .eql (.tmp 76) (.tmp 77), none⟩])
    (.cond (.tmp 78)
      (.region [
        ⟨(some 79), .mv (.tmp 10), none⟩,
        ⟨(some 80), .bin .add (.tmp 79) (.const (.int .i64 1)), none⟩,
        ⟨(some 10), .mv (.tmp 80), none⟩])
      (.skip)))))))))
    (.region [
      ⟨(some 81), .bin .add (.tmp 41) (.const (.int .i64 1)), none⟩,
      ⟨(some 41), .mv (.tmp 81), none⟩])))))))
  (.seq (.block 4 (.loop (.seq (.seq (.region [
      ⟨(some 82), .mv (.tmp 10), none⟩,
      ⟨(some 83), .mv (.tmp 9), none⟩,
      ⟨(some 84), .lenS (.tmp 83), none⟩,
      ⟨(some 85), .bin .lss (.tmp 82) (.tmp 84), none⟩])
    (.cond (.tmp 85)
      (.skip)
      (.exit 4)))
    (.block 5 (.seq (.seq (.draw [
      (⟨(some 86), .loadN 2 (.tmp 8), none⟩, .reads 0 0),
      (⟨(some 87), .mv (.tmp 7), none⟩, .still),
      (⟨(some 88), .mv (.tmp 9), none⟩, .still),
      (⟨(some 89), .mv (.tmp 10), none⟩, .still),
      (⟨(some 90), .idxAddr 1 none (.tmp 88) (.tmp 89), none⟩, .still),
      (⟨(some 91), .load1 (.tmp 90), none⟩, .reads 0 0),
      (⟨(some 92), .call 11 [(.tmp 86), (.tmp 87), (.tmp 91)], none⟩, .loud),
      (⟨(some 93), .un .not (.tmp 92), none⟩, .still),
      (⟨(some 94), .mv (.tmp 93), none⟩, .still),
      (⟨(some 95), .loadN 2 (.tmp 8), (some (94, false))⟩, .reads 1 1),
      (⟨(some 96), .mv (.tmp 7), (some (94, false))⟩, .still),
      (⟨(some 97), .mv (.tmp 9), (some (94, false))⟩, .still),
      (⟨(some 98), .mv (.tmp 10), (some (94, false))⟩, .still),
      (⟨(some 99), .idxAddr 1 none (.tmp 97) (.tmp 98), (some (94, false))⟩, .still),
      (⟨(some 100), .load1 (.tmp 99), (some (94, false))⟩, .reads 1 1),
      (⟨(some 101), .call 12 [(.tmp 95), (.tmp 96), (.tmp 100)], (some (94, false))⟩, .loud),
      (⟨(some 102), .un .not (.tmp 101), (some (94, false))⟩, .still),
      (⟨(some 103), .pick (.tmp 94) (.const (.bool true)) (.tmp 102), none⟩, .still)])
    (.cond (.tmp 103)
      (.seq (.region [
        ⟨(some 6), .mv (.const (.bool false)), none⟩])
      (.ret))
      (.skip)))
    (.region [
      ⟨(some 104), .mv (.tmp 10), none⟩,
      ⟨(some 105), .bin .add (.tmp 104) (.const (.int .i64 1)), none⟩,
      ⟨(some 10), .mv (.tmp 105), none⟩]))))))
  (.seq (.region [
    ⟨(some 106), .loadN 2 (.tmp 8), none⟩,
    ⟨(some 107), .mv (.tmp 7), none⟩,
    ⟨(some 108), .call 13 [(.tmp 106), (.tmp 107)], none⟩,
    ⟨(some 109), .un .not (.tmp 108), none⟩,
    ⟨(some 6), .mv (.tmp 109), none⟩])
  (.ret)))))))))⟩

/-- 'hostler/hostlerlaw03.TicketApart' -/
def F5 : AFunc := ⟨116, [.tmp 2],
  .seq (.region [
    ⟨(some 2), .mv (.const (.bool false)), none⟩])
  (.seq (.seq (.region [
    ⟨(some 10), .call 7 [], none⟩,
    ⟨(some 11), .un .not (.tmp 10), none⟩,
    ⟨(some 12), .mv (.tmp 11), none⟩,
    ⟨(some 13), .mv (.tmp 0), (some (12, false))⟩,
    ⟨(some 14), .lenS (.tmp 13), (some (12, false))⟩,
    ⟨(some 15), .bin .gtr (.tmp 14) (.const (.int .i64 40)), (some (12, false))⟩,
    ⟨(some 16), .pick (.tmp 12) (.const (.bool true)) (.tmp 15), none⟩])
  (.cond (.tmp 16)
    (.seq (.region [
      ⟨(some 17), .call 7 [], none⟩,
      ⟨(some 2), .mv (.tmp 17), none⟩])
    (.ret))
    (.skip)))
  (.seq (.region [
    ⟨(some 18), .call 14 [(.const (.int .i64 4))], none⟩,
    ⟨(some 3), .mv (.tmp 18), none⟩])
  (.seq (.region [
    ⟨(some 19), .build [(.int .i64 0), (.int .i64 0)] [((0, 1), (.const (.int .i64 0))), ((1, 1), (.const (.int .i64 1)))], none⟩,
    ⟨(some 20), .build [(.int .i64 0), (.int .i64 0)] [((0, 1), (.const (.int .i64 3))), ((1, 1), (.const (.int .i64 2)))], none⟩,
    ⟨(some 4), .alloc [(.int .i64 0), (.int .i64 0)], none⟩,
    ⟨(some 5), .alloc [(.int .i64 0), (.int .i64 0)], none⟩,
    ⟨none, .store 2 (.tmp 4) (.tmp 19), none⟩,
    ⟨none, .store 2 (.tmp 5) (.tmp 20), none⟩])
  (.seq (.region [
    ⟨(some 6), .mv (.const .nilslice), none⟩,
    ⟨(some 7), .mv (.const .nilslice), none⟩])
  (.seq (.seq (.region [
    ⟨(some 21), .mv (.tmp 0), none⟩,
    ⟨(some 22), .lenS (.tmp 21), none⟩,
    ⟨(some 23), .mv (.const (.int .i64 0)), none⟩])
  (.block 0 (.loop (.seq (.region [
      ⟨(some 24), .bin .lss (.tmp 23) (.tmp 22), none⟩])
    (.seq (.cond (.tmp 24)
      (.skip)
      (.exit 0))
    (.seq (.block 1 (.seq (.region [
      ⟨(some 25), .idxAddr 1 none (.tmp 21) (.tmp 23), none⟩,
      ⟨(some 26), .load1 (.tmp 25), none⟩,
      ⟨(some 9), .mv (.tmp 26), none⟩])
    (.seq (.seq (.region [
      ⟨(some 27), .mv (.tmp 9), none⟩,
      ⟨(some 28), .bin .rem (.tmp 27) (.const (.int .u8 4)), none⟩])
    (.block 2 (.seq (.region [
      ⟨(some 42), .bin .eql (.tmp 28) (.const (.int .u8 0)), none⟩,
      ⟨(some 41), .mv (.tmp 42), none⟩])
    (.cond (.tmp 41)
      (.region [
        ⟨(some 43), .mv (.tmp 6), none⟩,
        ⟨(some 44), .loadN 2 (.tmp 4), none⟩,
        ⟨(some 45), .mv (.tmp 3), none⟩,
        ⟨(some 46), .call 9 [(.tmp 44), (.tmp 45)], none⟩,
        ⟨(some 47), .buildSlice [(.int .u64 0)] 1 [((0, 1), (.tmp 46))], none⟩,
        ⟨(some 48), .append 1 8 [(.int .u64 0)] (.tmp 43) (.tmp 47), none⟩,
        ⟨(some 6), .mv (.tmp 48), none⟩])
      (.seq (.region [
        ⟨(some 50), .bin .eql (.tmp 28) (.const (.int .u8 1)), none⟩,
        ⟨(some 49), .mv (.tmp 50), none⟩])
      (.cond (.tmp 49)
        (.region [
          ⟨(some 51), .mv (.tmp 7), none⟩,
          ⟨(some 52), .loadN 2 (.tmp 5), none⟩,
          ⟨(some 53), .mv (.tmp 3), none⟩,
          ⟨(some 54), .call 9 [(.tmp 52), (.tmp 53)], none⟩,
          ⟨(some 55), .buildSlice [(.int .u64 0)] 1 [((0, 1), (.tmp 54))], none⟩,
          ⟨(some 56), .append 1 8 [(.int .u64 0)] (.tmp 51) (.tmp 55), none⟩,
          ⟨(some 7), .mv (.tmp 56), none⟩])
        (.seq (.region [
          ⟨(some 58), .bin .eql (.tmp 28) (.const (.int .u8 2)), none⟩,
          ⟨(some 57), .mv (.tmp 58), none⟩])
        (.cond (.tmp 57)
          (.seq (.region [
            ⟨(some 59), .mv (.tmp 6), none⟩,
            ⟨(some 60), .lenS (.tmp 59), none⟩,
            ⟨(some 61), .bin .gtr (.tmp 60) (.const (.int .i64 0)), none⟩])
          (.cond (.tmp 61)
            (.seq (.seq (.draw [
              (⟨(some 62), .loadN 2 (.tmp 4), none⟩, .reads 0 0),
              (⟨(some 63), .mv (.tmp 3), none⟩, .still),
              (⟨(some 64), .mv (.tmp 6), none⟩, .still),
              (⟨(some 65), .idxAddr 1 none (.tmp 64) (.const (.int .i64 0)), none⟩, .still),
              (⟨(some 66), .load1 (.tmp 65), none⟩, .reads 0 0),
              (⟨(some 67), .call 12 [(.tmp 62), (.tmp 63), (.tmp 66)], none⟩, .loud),
              (⟨(some 68), .un .not (.tmp 67), none⟩, .still)])
            (.cond (.tmp 68)
              (.seq (.region [
                ⟨(some 2), .mv (.const (.bool false)), none⟩])
              (.ret))
              (.skip)))
            (.region [
              ⟨(some 69), .mv (.tmp 6), none⟩,
              ⟨(some 70), .slc 1 none (.tmp 69) (some (.const (.int .i64 1))) none none, none⟩,
              ⟨(some 6), .mv (.tmp 70), none⟩]))
            (.skip)))
          (.seq (.region [
            ⟨(some 29), .mv (.tmp 7), none⟩,
            ⟨(some 30), .lenS (.tmp 29), none⟩,
            ⟨(some 31), .bin .gtr (.tmp 30) (.const (.int .i64 0)), none⟩])
          (.cond (.tmp 31)
            (.seq (.seq (.draw [
              (⟨(some 32), .loadN 2 (.tmp 5), none⟩, .reads 0 0),
              (⟨(some 33), .mv (.tmp 3), none⟩, .still),
              (⟨(some 34), .mv (.tmp 7), none⟩, .still),
              (⟨(some 35), .idxAddr 1 none (.tmp 34) (.const (.int .i64 0)), none⟩, .still),
              (⟨(some 36), .load1 (.tmp 35), none⟩, .reads 0 0),
              (⟨(some 37), .call 12 [(.tmp 32), (.tmp 33), (.tmp 36)], none⟩, .loud),
              (⟨(some 38), .un .not (.tmp 37), none⟩, .still)])
            (.cond (.tmp 38)
              (.seq (.region [
                ⟨(some 2), .mv (.const (.bool false)), none⟩])
              (.ret))
              (.skip)))
            (.region [
              ⟨(some 39), .mv (.tmp 7), none⟩,
              ⟨(some 40), .slc 1 none (.tmp 39) (some (.const (.int .i64 1))) none none, none⟩,
              ⟨(some 7), .mv (.tmp 40), none⟩]))
            (.skip)))))))))))
    (.seq (.draw [
      (⟨(some 71), .loadN 2 (.tmp 4), none⟩, .reads 0 0),
      (⟨(some 72), .mv (.tmp 3), none⟩, .still),
      (⟨(some 73), .call 13 [(.tmp 71), (.tmp 72)], none⟩, .loud),
      (⟨(some 74), .mv (.tmp 6), none⟩, .still),
      (⟨(some 75), .lenS (.tmp 74), none⟩, .still),
      (⟨(some 76), .bin .gtr (.tmp 75) (.const (.int .i64 0)), none⟩, .still),
      (⟨(some 77), .eqBool true (.tmp 73) (.tmp 76), none⟩, .still),
      (⟨(some 78), .mv (.tmp 77), none⟩, .still),
      (⟨(some 79), .loadN 2 (.tmp 5), (some (78, false))⟩, .reads 1 1),
      (⟨(some 80), .mv (.tmp 3), (some (78, false))⟩, .still),
      (⟨(some 81), .call 13 [(.tmp 79), (.tmp 80)], (some (78, false))⟩, .loud),
      (⟨(some 82), .mv (.tmp 7), (some (78, false))⟩, .still),
      (⟨(some 83), .lenS (.tmp 82), (some (78, false))⟩, .still),
      (⟨(some 84), .bin .gtr (.tmp 83) (.const (.int .i64 0)), (some (78, false))⟩, .still),
      (⟨(some 85), .eqBool true (.tmp 81) (.tmp 84), (some (78, false))⟩, .still),
      (⟨(some 86), .pick (.tmp 78) (.const (.bool true)) (.tmp 85), none⟩, .still),
      (⟨(some 87), .mv (.tmp 86), none⟩, .still),
      (⟨(some 88), .mv (.tmp 6), (some (87, false))⟩, .still),
      (⟨(some 89), .lenS (.tmp 88), (some (87, false))⟩, .still),
      (⟨(some 90), .bin .gtr (.tmp 89) (.const (.int .i64 0)), (some (87, false))⟩, .still),
      (⟨(some 91), .mv (.tmp 90), (some (87, false))⟩, .still),
      (⟨(some 92), .loadN 2 (.tmp 4), (some (91, true))⟩, .reads 2 2),
      (⟨(some 93), .mv (.tmp 3), (some (91, true))⟩, .still),
      (⟨(some 94), .mv (.tmp 6), (some (91, true))⟩, .still),
      (⟨(some 95), .idxAddr 1 none (.tmp 94) (.const (.int .i64 0)), (some (91, true))⟩, .still),
      (⟨(some 96), .load1 (.tmp 95), (some (91, true))⟩, .reads 2 2),
      (⟨(some 97), .call 11 [(.tmp 92), (.tmp 93), (.tmp 96)], (some (91, true))⟩, .loud),
      (⟨(some 98), .un .not (.tmp 97), (some (91, true))⟩, .still),
      (⟨(some 99), .pick (.tmp 91) (.tmp 98) (.const (.bool false)), (some (87, false))⟩, .still),
      (⟨(some 100), .pick (.tmp 87) (.const (.bool true)) (.tmp 99), none⟩, .still),
      (⟨(some 101), .mv (.tmp 100), none⟩, .still),
      (⟨(some 102), .mv (.tmp 7), (some (101, false))⟩, .still),
      (⟨(some 103), .lenS (.tmp 102), (some (101, false))⟩, .still),
      (⟨(some 104), .bin .gtr (.tmp 103) (.const (.int .i64 0)), (some (101, false))⟩, .still),
      (⟨(some 105), .mv (.tmp 104), (some (101, false))⟩, .still),
      (⟨(some 106), .loadN 2 (.tmp 5), (some (105, true))⟩, .reads 3 3),
      (⟨(some 107), .mv (.tmp 3), (some (105, true))⟩, .still),
      (⟨(some 108), .mv (.tmp 7), (some (105, true))⟩, .still),
      (⟨(some 109), .idxAddr 1 none (.tmp 108) (.const (.int .i64 0)), (some (105, true))⟩, .still),
      (⟨(some 110), .load1 (.tmp 109), (some (105, true))⟩, .reads 3 3),
      (⟨(some 111), .call 11 [(.tmp 106), (.tmp 107), (.tmp 110)], (some (105, true))⟩, .loud),
      (⟨(some 112), .un .not (.tmp 111), (some (105, true))⟩, .still),
      (⟨(some 113), .pick (.tmp 105) (.tmp 112) (.const (.bool false)), (some (101, false))⟩, .still),
      (⟨(some 114), .pick (.tmp 101) (.const (.bool true)) (.tmp 113), none⟩, .still)])
    (.cond (.tmp 114)
      (.seq (.region [
        ⟨(some 2), .mv (.const (.bool false)), none⟩])
      (.ret))
      (.skip))))))
    (.region [
      ⟨(some 115), .bin .add (.tmp 23) (.const (.int .i64 1)), none⟩,
      ⟨(some 23), .mv (.tmp 115), none⟩])))))))
  (.seq (.region [
    ⟨(some 2), .mv (.const (.bool true)), none⟩])
  (.ret)))))))⟩

/-- 'hostler/hostlerlaw03.TicketPlays' -/
def F6 : AFunc := ⟨182, [.tmp 4],
  .seq (.region [
    ⟨(some 4), .mv (.const (.bool false)), none⟩])
  (.seq (.seq (.region [
    ⟨(some 20), .call 7 [], none⟩,
    ⟨(some 21), .un .not (.tmp 20), none⟩,
    ⟨(some 22), .mv (.tmp 21), none⟩,
    ⟨(some 23), .mv (.tmp 1), (some (22, false))⟩,
    ⟨(some 24), .lenS (.tmp 23), (some (22, false))⟩,
    ⟨(some 25), .bin .gtr (.tmp 24) (.const (.int .i64 60)), (some (22, false))⟩,
    ⟨(some 26), .pick (.tmp 22) (.const (.bool true)) (.tmp 25), none⟩])
  (.cond (.tmp 26)
    (.seq (.region [
      ⟨(some 27), .call 7 [], none⟩,
      ⟨(some 4), .mv (.tmp 27), none⟩])
    (.ret))
    (.skip)))
  (.seq (.region [
    ⟨(some 29), .mv (.tmp 0), none⟩,
    ⟨(some 30), .call 8 [(.tmp 29)], none⟩,
    ⟨(some 28), .mv (.tmp 30), none⟩,
    ⟨(some 31), .extract 0 (.tmp 28), none⟩,
    ⟨(some 32), .extract 1 (.tmp 28), none⟩,
    ⟨(some 6), .alloc [(.int .i64 0), (.int .i64 0)], none⟩,
    ⟨(some 5), .mv (.tmp 31), none⟩,
    ⟨none, .store 2 (.tmp 6) (.tmp 32), none⟩])
  (.seq (.region [
    ⟨(some 33), .mv (.tmp 0), none⟩,
    ⟨(some 34), .build [(.int .u64 0), .nilslice] [((0, 1), (.tmp 33))], none⟩,
    ⟨(some 7), .alloc [(.int .u64 0), .nilslice], none⟩,
    ⟨none, .store 2 (.tmp 7) (.tmp 34), none⟩])
  (.seq (.region [
    ⟨(some 8), .mv (.const .nilslice), none⟩])
  (.seq (.seq (.region [
    ⟨(some 35), .mv (.tmp 1), none⟩,
    ⟨(some 36), .lenS (.tmp 35), none⟩,
    ⟨(some 37), .mv (.const (.int .i64 0)), none⟩])
  (.block 0 (.loop (.seq (.region [
      ⟨(some 38), .bin .lss (.tmp 37) (.tmp 36), none⟩])
    (.seq (.cond (.tmp 38)
      (.skip)
      (.exit 0))
    (.seq (.block 1 (.seq (.region [
      ⟨(some 39), .idxAddr 1 none (.tmp 35) (.tmp 37), none⟩,
      ⟨(some 40), .load1 (.tmp 39), none⟩,
      ⟨(some 10), .mv (.tmp 40), none⟩])
    (.seq (.seq (.region [
      ⟨(some 41), .mv (.tmp 10), none⟩,
      ⟨(some 42), .bin .rem (.tmp 41) (.const (.int .u8 3)), none⟩,
      ⟨(some 43), .bin .eql (.tmp 42) (.const (.int .u8 0)), none⟩,
      ⟨(some 44), .mv (.tmp 43), none⟩,
      ⟨(some 45), .mv (.tmp 8), (some (44, false))⟩,
      ⟨(some 46), .lenS (.tmp 45), (some (44, false))⟩,
      ⟨(some 47), .bin .eql (.tmp 46) (.const (.int .i64 0)), (some (44, false))⟩,
      ⟨(some 48), .pick (.tmp 44) (.const (.bool true)) (.tmp 47), none⟩])
    (.cond (.tmp 48)
      (.seq (.region [
        ⟨(some 50), .loadN 2 (.tmp 7), none⟩,
        ⟨(some 51), .call 15 [(.tmp 50)], none⟩,
        ⟨(some 49), .mv (.tmp 51), none⟩,
        ⟨(some 52), .extract 0 (.tmp 49), none⟩,
        ⟨(some 53), .extract 1 (.tmp 49), none⟩,
        ⟨(some 11), .alloc [(.int .u64 0), .nilslice], none⟩,
        ⟨none, .store 2 (.tmp 11) (.tmp 52), none⟩,
        ⟨(some 12), .mv (.tmp 53), none⟩])
      (.seq (.region [
        ⟨(some 54), .loadN 2 (.tmp 11), none⟩,
        ⟨none, .store 2 (.tmp 7) (.tmp 54), none⟩])
      (.seq (.region [
        ⟨(some 55), .mv (.tmp 5), none⟩,
        ⟨(some 56), .call 16 [(.tmp 55)], none⟩,
        ⟨(some 13), .mv (.tmp 56), none⟩])
      (.seq (.seq (.region [
        ⟨(some 57), .loadN 2 (.tmp 6), none⟩,
        ⟨(some 58), .mv (.tmp 5), none⟩,
        ⟨(some 59), .call 9 [(.tmp 57), (.tmp 58)], none⟩,
        ⟨(some 60), .mv (.tmp 12), none⟩,
        ⟨(some 61), .bin .neq (.tmp 59) (.tmp 60), none⟩,
        ⟨(some 62), .mv (.tmp 61), none⟩,
        ⟨(some 63), .mv (.tmp 5), (some (62, false))⟩,
        ⟨(some 64), .call 16 [(.tmp 63)], (some (62, false))⟩,
        ⟨(some 65), .mv (.tmp 13), (some (62, false))⟩,
        ⟨(some 66), .bin .add (.tmp 65) (.const (.int .i64 1)), (some (62, false))⟩,
        ⟨(some 67), .bin .neq (.tmp 64) (.tmp 66), (some (62, false))⟩,
        ⟨(some 68), .pick (.tmp 62) (.const (.bool true)) (.tmp 67), none⟩])
      (.cond (.tmp 68)
        (.seq (.region [
          ⟨(some 4), .mv (.const (.bool false)), none⟩])
        (.ret))
        (.skip)))
      (.seq (.region [
        ⟨(some 69), .mv (.tmp 8), none⟩,
        ⟨(some 70), .mv (.tmp 12), none⟩,
        ⟨(some 71), .buildSlice [(.int .u64 0)] 1 [((0, 1), (.tmp 70))], none⟩,
        ⟨(some 72), .append 1 8 [(.int .u64 0)] (.tmp 69) (.tmp 71), none⟩,
        ⟨(some 8), .mv (.tmp 72), none⟩])
      (.exit 1))))))
      (.skip)))
    (.seq (.region [
      ⟨(some 73), .mv (.tmp 8), none⟩,
      ⟨(some 74), .mv (.tmp 10), none⟩,
      ⟨(some 75), .bin .quo (.tmp 74) (.const (.int .u8 3)), none⟩,
      ⟨(some 76), .toInt .i64 (.tmp 75), none⟩,
      ⟨(some 77), .mv (.tmp 8), none⟩,
      ⟨(some 78), .lenS (.tmp 77), none⟩,
      ⟨(some 79), .bin .rem (.tmp 76) (.tmp 78), none⟩,
      ⟨(some 80), .idxAddr 1 none (.tmp 73) (.tmp 79), none⟩,
      ⟨(some 81), .load1 (.tmp 80), none⟩,
      ⟨(some 14), .mv (.tmp 81), none⟩])
    (.seq (.seq (.region [
      ⟨(some 82), .loadN 2 (.tmp 7), none⟩,
      ⟨(some 83), .mv (.tmp 14), none⟩,
      ⟨(some 84), .call 17 [(.tmp 82), (.tmp 83)], none⟩,
      ⟨(some 85), .mv (.tmp 84), none⟩,
      ⟨(some 86), .fieldAddr 1 (.tmp 7), (some (85, true))⟩,
      ⟨(some 87), .load1 (.tmp 86), (some (85, true))⟩,
      ⟨(some 88), .lenS (.tmp 87), (some (85, true))⟩,
      ⟨(some 89), .bin .gtr (.tmp 88) (.const (.int .i64 0)), (some (85, true))⟩,
      ⟨(some 90), .pick (.tmp 85) (.tmp 89) (.const (.bool false)), none⟩,
      ⟨(some 15), .mv (.tmp 90), none⟩])
    (.seq (.region [
      ⟨(some 91), .mv (.tmp 10), none⟩,
      ⟨(some 92), .bin .rem (.tmp 91) (.const (.int .u8 3)), none⟩,
      ⟨(some 93), .bin .eql (.tmp 92) (.const (.int .u8 1)), none⟩,
      ⟨(some 94), .mv (.tmp 93), none⟩,
      ⟨(some 95), .fieldAddr 1 (.tmp 7), (some (94, true))⟩,
      ⟨(some 96), .load1 (.tmp 95), (some (94, true))⟩,
      ⟨(some 97), .lenS (.tmp 96), (some (94, true))⟩,
      ⟨(some 98), .bin .gtr (.tmp 97) (.const (.int .i64 0)), (some (94, true))⟩,
      ⟨(some 99), .pick (.tmp 94) (.tmp 98) (.const (.bool false)), none⟩,
      ⟨(some 100), .mv (.tmp 99), none⟩,
      ⟨(some 101), .loadN 2 (.tmp 6), (some (100, true))⟩,
      ⟨(some 102), .mv (.tmp 5), (some (100, true))⟩,
      ⟨(some 103), .mv (.tmp 14), (some (100, true))⟩,
      ⟨(some 104), .call 11 [(.tmp 101), (.tmp 102), (.tmp 103)], (some (100, true))⟩,
      ⟨(some 105), .mv (.tmp 15), (some (100, true))⟩,
      ⟨(some 106), .eqBool true (.tmp 104) (.tmp 105), (some (100, true))⟩,
      ⟨(some 107), .pick (.tmp 100) (.tmp 106) (.const (.bool false)), none⟩])
    (.cond (.tmp 107)
      (.seq (.region [
        ⟨(some 4), .mv (.const (.bool false)), none⟩])
      (.ret))
      (.skip))))
    (.seq (.seq (.region [
      ⟨(some 108), .mv (.tmp 10), none⟩,
      ⟨(some 109), .bin .rem (.tmp 108) (.const (.int .u8 3)), none⟩,
      ⟨(some 110), .bin .eql (.tmp 109) (.const (.int .u8 2)), none⟩,
      ⟨(some 111), .mv (.tmp 110), none⟩,
      ⟨(some 112), .fieldAddr 1 (.tmp 7), (some (111, true))⟩,
      ⟨(some 113), .load1 (.tmp 112), (some (111, true))⟩,
      ⟨(some 114), .lenS (.tmp 113), (some (111, true))⟩,
      ⟨(some 115), .bin .gtr (.tmp 114) (.const (.int .i64 0)), (some (111, true))⟩,
      ⟨(some 116), .pick (.tmp 111) (.tmp 115) (.const (.bool false)), none⟩])
    (.cond (.tmp 116)
      (.seq (.region [
        ⟨(some 118), .loadN 2 (.tmp 7), none⟩,
        ⟨(some 119), .mv (.tmp 14), none⟩,
        ⟨(some 120), .call 18 [(.tmp 118), (.tmp 119)], none⟩,
        ⟨(some 117), .mv (.tmp 120), none⟩,
        ⟨(some 121), .extract 0 (.tmp 117), none⟩,
        ⟨(some 122), .extract 1 (.tmp 117), none⟩,
        ⟨(some 16), .alloc [(.int .u64 0), .nilslice], none⟩,
        ⟨none, .store 2 (.tmp 16) (.tmp 121), none⟩,
        ⟨(some 17), .mv (.tmp 122), none⟩])
      (.seq (.region [
        ⟨(some 123), .loadN 2 (.tmp 16), none⟩,
        ⟨none, .store 2 (.tmp 7) (.tmp 123), none⟩])
      (.seq (.region [
        ⟨(some 124), .loadN 2 (.tmp 6), none⟩,
        ⟨(some 125), .mv (.tmp 5), none⟩,
        ⟨(some 126), .mv (.tmp 14), none⟩,
        ⟨(some 127), .call 12 [(.tmp 124), (.tmp 125), (.tmp 126)], none⟩,
        ⟨(some 128), .mv (.tmp 17), none⟩,
        ⟨(some 129), .eqBool true (.tmp 127) (.tmp 128), none⟩])
      (.cond (.tmp 129)
        (.seq (.region [
          ⟨(some 4), .mv (.const (.bool false)), none⟩])
        (.ret))
        (.skip)))))
      (.skip)))
    (.seq (.seq (.region [
      ⟨(some 130), .fieldAddr 1 (.tmp 7), none⟩,
      ⟨(some 131), .load1 (.tmp 130), none⟩,
      ⟨(some 132), .lenS (.tmp 131), none⟩,
      ⟨(some 133), .mv (.const (.int .i64 0)), none⟩])
    (.block 2 (.loop (.seq (.region [
        ⟨(some 134), .bin .lss (.tmp 133) (.tmp 132), none⟩])
      (.seq (.cond (.tmp 134)
        (.skip)
        (.exit 2))
      (.seq (.block 3 (.seq (.region [
        ⟨(some 135), .mv (.tmp 133), none⟩,
        ⟨(some 136), .idxAddr 1 none (.tmp 131) (.tmp 133), none⟩,
        ⟨(some 137), .load1 (.tmp 136), none⟩,
        ⟨(some 18), .mv (.tmp 135), none⟩,
        ⟨(some 19), .mv (.tmp 137), none⟩])
      (.seq (.region [
        ⟨(some 138), .loadN 2 (.tmp 6), none⟩,
        ⟨(some 139), .mv (.tmp 5), none⟩,
        ⟨(some 140), .mv (.tmp 19), none⟩,
        ⟨(some 141), .call 10 [(.tmp 138), (.tmp 139), (.tmp 140)], none⟩,
        ⟨(some 142), .mv (.tmp 18), none⟩,
        ⟨(some 143), .toInt .u64 (.tmp 142), none⟩,
        ⟨(some 144), .bin .neq (.tmp 141) (.tmp 143), none⟩,
        ⟨(some 145), .mv (.tmp 144), none⟩,
        ⟨(some 146), .loadN 2 (.tmp 6), (some (145, false))⟩,
        ⟨(some 147), .mv (.tmp 5), (some (145, false))⟩,
        ⟨(some 148), .mv (.tmp 19), (some (145, false))⟩,
        ⟨(some 149), .call 11 [(.tmp 146), (.tmp 147), (.tmp 148)], (some (145, false))⟩,
        ⟨(some 150), .mv (.tmp 18), (some (145, false))⟩,
        ⟨(some 151), .bin .eql (.tmp 150) (.const (.int .i64 0)), (some (145, false))⟩,
        ⟨(some 152), .eqBool true (.tmp 149) (.tmp 151), (some (145, false))⟩,
        ⟨(some 153), .pick (.tmp 145) (.const (.bool true)) (.tmp 152), none⟩])
      (.cond (.tmp 153)
        (.seq (.region [
          ⟨(some 4), .mv (.const (.bool false)), none⟩])
        (.ret))
        (.skip)))))
      (.region [
        ⟨(some 154), .bin .add (.tmp 133) (.const (.int .i64 1)), none⟩,
        ⟨(some 133), .mv (.tmp 154), none⟩])))))))
    (.seq (.draw [
      (⟨(some 155), .loadN 2 (.tmp 6), none⟩, .reads 0 0),
      (⟨(some 156), .mv (.tmp 5), none⟩, .still),
      (⟨(some 157), .call 13 [(.tmp 155), (.tmp 156)], none⟩, .loud),
      (⟨(some 158), .fieldAddr 1 (.tmp 7), none⟩, .still),
      (⟨(some 159), .load1 (.tmp 158), none⟩, .reads 0 1),
      (⟨(some 160), .lenS (.tmp 159), none⟩, .still),
      (⟨(some 161), .bin .gtr (.tmp 160) (.const (.int .i64 0)), none⟩, .still),
      (⟨(some 162), .eqBool true (.tmp 157) (.tmp 161), none⟩, .still)])
    (.cond (.tmp 162)
      (.seq (.region [
        ⟨(some 4), .mv (.const (.bool false)), none⟩])
      (.ret))
      (.skip))))))))))
    (.region [
      ⟨(some 163), .bin .add (.tmp 37) (.const (.int .i64 1)), none⟩,
      ⟨(some 37), .mv (.tmp 163), none⟩])))))))
  (.seq (.region [
    ⟨(some 164), .mv (.tmp 5), none⟩,
    ⟨(some 165), .call 19 [(.tmp 164), (.const (.int .i64 0))], none⟩,
    ⟨(some 166), .bin .eql (.tmp 165) (.const (.int .u64 0)), none⟩,
    ⟨(some 167), .mv (.tmp 166), none⟩,
    ⟨(some 168), .mv (.tmp 5), (some (167, true))⟩,
    ⟨(some 169), .call 19 [(.tmp 168), (.const (.int .i64 1))], (some (167, true))⟩,
    ⟨(some 170), .bin .eql (.tmp 169) (.const (.int .u64 0)), (some (167, true))⟩,
    ⟨(some 171), .pick (.tmp 167) (.tmp 170) (.const (.bool false)), none⟩,
    ⟨(some 172), .mv (.tmp 171), none⟩,
    ⟨(some 173), .mv (.tmp 5), (some (172, true))⟩,
    ⟨(some 174), .call 19 [(.tmp 173), (.const (.int .i64 3))], (some (172, true))⟩,
    ⟨(some 175), .bin .eql (.tmp 174) (.const (.int .u64 0)), (some (172, true))⟩,
    ⟨(some 176), .pick (.tmp 172) (.tmp 175) (.const (.bool false)), none⟩,
    ⟨(some 177), .mv (.tmp 176), none⟩,
    ⟨(some 178), .mv (.tmp 5), (some (177, true))⟩,
    ⟨(some 179), .call 19 [(.tmp 178), (.const (.int .i64 5))], (some (177, true))⟩,
    ⟨(some 180), .bin .eql (.tmp 179) (.const (.int .u64 0)), (some (177, true))⟩,
    ⟨(some 181), .pick (.tmp 177) (.tmp 180) (.const (.bool false)), none⟩,
    ⟨(some 4), .mv (.tmp 181), none⟩])
  (.ret)))))))⟩

/-- 'hostler/hostlerlaw03.lives' -/
def F7 : AFunc := ⟨35, [.tmp 0],
  .seq (.region [
    ⟨(some 0), .mv (.const (.bool false)), none⟩])
  (.seq (.region [
    ⟨(some 5), .call 14 [(.const (.int .i64 2))], none⟩,
    ⟨(some 1), .mv (.tmp 5), none⟩])
  (.seq (.region [
    ⟨(some 6), .build [(.int .i64 0), (.int .i64 0)] [((0, 1), (.const (.int .i64 0))), ((1, 1), (.const (.int .i64 1)))], none⟩,
    ⟨(some 2), .alloc [(.int .i64 0), (.int .i64 0)], none⟩,
    ⟨none, .store 2 (.tmp 2) (.tmp 6), none⟩])
  (.seq (.draw [
    (⟨(some 7), .loadN 2 (.tmp 2), none⟩, .reads 0 0),
    (⟨(some 8), .mv (.tmp 1), none⟩, .still),
    (⟨(some 9), .call 9 [(.tmp 7), (.tmp 8)], none⟩, .loud),
    (⟨(some 10), .loadN 2 (.tmp 2), none⟩, .reads 0 1),
    (⟨(some 11), .mv (.tmp 1), none⟩, .still),
    (⟨(some 12), .call 9 [(.tmp 10), (.tmp 11)], none⟩, .loud),
    (⟨(some 3), .mv (.tmp 9), none⟩, .still),
    (⟨(some 4), .mv (.tmp 12), none⟩, .still)])
  (.seq (.region [
    ⟨(some 13), .mv (.tmp 3), none⟩,
    ⟨(some 14), .bin .eql (.tmp 13) (.const (.int .u64 0)), none⟩,
    ⟨(some 15), .mv (.tmp 14), none⟩,
    ⟨(some 16), .mv (.tmp 4), (some (15, true))⟩,
    ⟨(some 17), .bin .eql (.tmp 16) (.const (.int .u64 1)), (some (15, true))⟩,
    ⟨(some 18), .pick (.tmp 15) (.tmp 17) (.const (.bool false)), none⟩,
    ⟨(some 19), .mv (.tmp 18), none⟩,
    ⟨(some 20), .loadN 2 (.tmp 2), (some (19, true))⟩,
    ⟨(some 21), .mv (.tmp 1), (some (19, true))⟩,
    ⟨(some 22), .call 11 [(.tmp 20), (.tmp 21), (.const (.int .u64 1))], (some (19, true))⟩,
    ⟨(some 23), .un .not (.tmp 22), (some (19, true))⟩,
    ⟨(some 24), .pick (.tmp 19) (.tmp 23) (.const (.bool false)), none⟩,
    ⟨(some 25), .mv (.tmp 24), none⟩,
    ⟨(some 26), .loadN 2 (.tmp 2), (some (25, true))⟩,
    ⟨(some 27), .mv (.tmp 1), (some (25, true))⟩,
    ⟨(some 28), .call 12 [(.tmp 26), (.tmp 27), (.const (.int .u64 0))], (some (25, true))⟩,
    ⟨(some 29), .pick (.tmp 25) (.tmp 28) (.const (.bool false)), none⟩,
    ⟨(some 30), .mv (.tmp 29), none⟩,
    ⟨(some 31), .loadN 2 (.tmp 2), (some (30, true))⟩,
    ⟨(some 32), .mv (.tmp 1), (some (30, true))⟩,
    ⟨(some 33), .call 11 [(.tmp 31), (.tmp 32), (.const (.int .u64 1))], (some (30, true))⟩,
    ⟨(some 34), .pick (.tmp 30) (.tmp 33) (.const (.bool false)), none⟩,
    ⟨(some 0), .mv (.tmp 34), none⟩])
  (.ret)))))⟩

/-- 'hostler/hostlerlaw03.lock' -/
def F8 : AFunc := ⟨16, [.tmp 2, .cellN 3 2],
  .seq (.region [
    ⟨(some 2), .mv (.const .nilptr), none⟩,
    ⟨(some 3), .alloc [(.int .i64 0), (.int .i64 0)], none⟩])
  (.seq (.region [
    ⟨(some 6), .call 14 [(.const (.int .i64 6))], none⟩,
    ⟨(some 4), .mv (.tmp 6), none⟩])
  (.seq (.region [
    ⟨(some 7), .build [(.int .i64 0), (.int .i64 0)] [((0, 1), (.const (.int .i64 4))), ((1, 1), (.const (.int .i64 2)))], none⟩,
    ⟨(some 5), .alloc [(.int .i64 0), (.int .i64 0)], none⟩,
    ⟨none, .store 2 (.tmp 5) (.tmp 7), none⟩])
  (.seq (.region [
    ⟨(some 8), .mv (.tmp 4), none⟩,
    ⟨(some 9), .mv (.tmp 0), none⟩,
    ⟨(some 10), .call 20 [(.tmp 8), (.const (.int .i64 4)), (.tmp 9)], none⟩])
  (.seq (.region [
    ⟨(some 11), .mv (.tmp 4), none⟩,
    ⟨(some 12), .mv (.tmp 0), none⟩,
    ⟨(some 13), .call 20 [(.tmp 11), (.const (.int .i64 2)), (.tmp 12)], none⟩])
  (.seq (.draw [
    (⟨(some 14), .mv (.tmp 4), none⟩, .still),
    (⟨(some 15), .loadN 2 (.tmp 5), none⟩, .reads 0 0),
    (⟨(some 2), .mv (.tmp 14), none⟩, .still),
    (⟨none, .store 2 (.tmp 3) (.tmp 15), none⟩, .loud)])
  (.ret))))))⟩

/-- '(hostler/ticket.Lock).Take' -/
def F9 : AFunc := ⟨10, [.tmp 4],
  .seq (.region [
    ⟨(some 2), .box (.tmp 0), none⟩,
    ⟨(some 4), .mv (.const (.int .u64 0)), none⟩])
  (.seq (.region [
    ⟨(some 5), .mv (.tmp 1), none⟩,
    ⟨(some 6), .fieldAddr 0 (.tmp 2), none⟩,
    ⟨(some 7), .load1 (.tmp 6), none⟩,
    ⟨(some 8), .call 21 [(.tmp 5), (.tmp 7), (.const (.int .i64 1))], none⟩,
    ⟨(some 9), .bin .sub (.tmp 8) (.const (.int .u64 1)), none⟩,
    ⟨(some 4), .mv (.tmp 9), none⟩])
  (.ret))⟩

/-- '(hostler/ticket.Lock).Ahead' -/
def F10 : AFunc := ⟨13, [.tmp 6],
  .seq (.region [
    ⟨(some 3), .box (.tmp 0), none⟩,
    ⟨(some 6), .mv (.const (.int .u64 0)), none⟩])
  (.seq (.region [
    ⟨(some 7), .mv (.tmp 2), none⟩,
    ⟨(some 8), .mv (.tmp 1), none⟩,
    ⟨(some 9), .fieldAddr 1 (.tmp 3), none⟩,
    ⟨(some 10), .load1 (.tmp 9), none⟩,
    ⟨(some 11), .call 19 [(.tmp 8), (.tmp 10)], none⟩,
    ⟨(some 12), .bin .sub (.tmp 7) (.tmp 11), none⟩,
    ⟨(some 6), .mv (.tmp 12), none⟩])
  (.ret))⟩

/-- '(hostler/ticket.Lock).Held' -/
def F11 : AFunc := ⟨12, [.tmp 6],
  .seq (.region [
    ⟨(some 3), .box (.tmp 0), none⟩,
    ⟨(some 6), .mv (.const (.bool false)), none⟩])
  (.seq (.region [
    ⟨(some 7), .loadN 2 (.tmp 3), none⟩,
    ⟨(some 8), .mv (.tmp 1), none⟩,
    ⟨(some 9), .mv (.tmp 2), none⟩,
    ⟨(some 10), .call 10 [(.tmp 7), (.tmp 8), (.tmp 9)], none⟩,
    ⟨(some 11), .bin .eql (.tmp 10) (.const (.int .u64 0)), none⟩,
    ⟨(some 6), .mv (.tmp 11), none⟩])
  (.ret))⟩

/-- '(hostler/ticket.Lock).Free' -/
def F12 : AFunc := ⟨19, [.tmp 6],
  .seq (.region [
    ⟨(some 3), .box (.tmp 0), none⟩,
    ⟨(some 6), .mv (.const (.bool false)), none⟩])
  (.seq (.region [
    ⟨(some 7), .loadN 2 (.tmp 3), none⟩,
    ⟨(some 8), .mv (.tmp 1), none⟩,
    ⟨(some 9), .mv (.tmp 2), none⟩,
    ⟨(some 10), .call 11 [(.tmp 7), (.tmp 8), (.tmp 9)], none⟩,
    ⟨(some 11), .mv (.tmp 10), none⟩,
    ⟨(some 12), .mv (.tmp 1), (some (11, true))⟩,
    ⟨(some 13), .fieldAddr 1 (.tmp 3), (some (11, true))⟩,
    ⟨(some 14), .load1 (.tmp 13), (some (11, true))⟩,
    ⟨(some 15), .mv (.tmp 2), (some (11, true))⟩,
    ⟨(some 16), .bin .add (.tmp 15) (.const (.int .u64 1)), (some (11, true))⟩,
    ⟨(some 17), .call 20 [(.tmp 12), (.tmp 14), (.tmp 16)], (some (11, true))⟩,
    ⟨(some 18), .pick (.tmp 11) (.tmp 17) (.const (.bool false)), none⟩,
    ⟨(some 6), .mv (.tmp 18), none⟩])
  (.ret))⟩

/-- '(hostler/ticket.Lock).Busy' -/
def F13 : AFunc := ⟨14, [.tmp 4],
  .seq (.region [
    ⟨(some 2), .box (.tmp 0), none⟩,
    ⟨(some 4), .mv (.const (.bool false)), none⟩])
  (.seq (.draw [
    (⟨(some 5), .mv (.tmp 1), none⟩, .still),
    (⟨(some 6), .fieldAddr 0 (.tmp 2), none⟩, .still),
    (⟨(some 7), .load1 (.tmp 6), none⟩, .reads 0 0),
    (⟨(some 8), .call 19 [(.tmp 5), (.tmp 7)], none⟩, .loud),
    (⟨(some 9), .mv (.tmp 1), none⟩, .still),
    (⟨(some 10), .fieldAddr 1 (.tmp 2), none⟩, .still),
    (⟨(some 11), .load1 (.tmp 10), none⟩, .reads 0 1),
    (⟨(some 12), .call 19 [(.tmp 9), (.tmp 11)], none⟩, .loud),
    (⟨(some 13), .bin .neq (.tmp 8) (.tmp 12), none⟩, .still),
    (⟨(some 4), .mv (.tmp 13), none⟩, .still)])
  (.ret))⟩

/-- 'hostler/cell.New' -/
def F14 : AFunc := ⟨9, [.tmp 2],
  .seq (.region [
    ⟨(some 2), .mv (.const .nilptr), none⟩])
  (.seq (.region [
    ⟨(some 3), .mv (.tmp 0), none⟩,
    ⟨(some 4), .max2 (.const (.int .i64 0)) (.tmp 3), none⟩,
    ⟨(some 5), .min2 (.tmp 4) (.const (.int .i64 65536)), none⟩,
    ⟨(some 6), .mkslice 1 8 [(.int .u64 0)] (.tmp 5) (.tmp 5), none⟩,
    ⟨(some 7), .build [.nilslice, (.int .i64 0)] [((0, 1), (.tmp 6))], none⟩,
    ⟨(some 8), .box (.tmp 7), none⟩,
    ⟨(some 2), .mv (.tmp 8), none⟩])
  (.ret))⟩

/-- 'hostler/hostlerref03.Take' -/
def F15 : AFunc := ⟨18, [.cellN 2 2, .tmp 3],
  .seq (.region [
    ⟨(some 1), .box (.tmp 0), none⟩,
    ⟨(some 2), .alloc [(.int .u64 0), .nilslice], none⟩,
    ⟨(some 3), .mv (.const (.int .u64 0)), none⟩])
  (.seq (.draw [
    (⟨(some 4), .fieldAddr 0 (.tmp 1), none⟩, .still),
    (⟨(some 5), .load1 (.tmp 4), none⟩, .reads 0 2),
    (⟨(some 6), .bin .add (.tmp 5) (.const (.int .u64 1)), none⟩, .still),
    (⟨(some 7), .zeroSlice, none⟩, .reads 0 0),
    (⟨(some 8), .fieldAddr 1 (.tmp 1), none⟩, .still),
    (⟨(some 9), .load1 (.tmp 8), none⟩, .reads 0 0),
    (⟨(some 10), .append 1 8 [(.int .u64 0)] (.tmp 7) (.tmp 9), none⟩, .loud),
    (⟨(some 11), .fieldAddr 0 (.tmp 1), none⟩, .still),
    (⟨(some 12), .load1 (.tmp 11), none⟩, .reads 0 1),
    (⟨(some 13), .litSlice [(.int .u64 0)] [((0, 1), (.tmp 12))], none⟩, .still),
    (⟨(some 14), .append 1 8 [(.int .u64 0)] (.tmp 10) (.tmp 13), none⟩, .loud),
    (⟨(some 15), .build [(.int .u64 0), .nilslice] [((0, 1), (.tmp 6)), ((1, 1), (.tmp 14))], none⟩, .still),
    (⟨(some 16), .fieldAddr 0 (.tmp 1), none⟩, .still),
    (⟨(some 17), .load1 (.tmp 16), none⟩, .reads 0 3),
    (⟨none, .store 2 (.tmp 2) (.tmp 15), none⟩, .loud),
    (⟨(some 3), .mv (.tmp 17), none⟩, .still)])
  (.ret))⟩

/-- '(*hostler/cell.Memory).Count' -/
def F16 : AFunc := ⟨9, [.tmp 2],
  .seq (.region [
    ⟨(some 2), .mv (.const (.int .i64 0)), none⟩])
  (.seq (.seq (.region [
    ⟨(some 3), .mv (.tmp 0), none⟩,
    ⟨(some 4), .cmpNil false 0 (.tmp 3) (.const .nilptr), none⟩])
  (.cond (.tmp 4)
    (.seq (.region [
      ⟨(some 2), .mv (.const (.int .i64 0)), none⟩])
    (.ret))
    (.skip)))
  (.seq (.region [
    ⟨(some 5), .mv (.tmp 0), none⟩,
    ⟨(some 6), .nilCheck (.tmp 5), none⟩,
    ⟨(some 7), .fieldAddr 1 (.tmp 6), none⟩,
    ⟨(some 8), .load1 (.tmp 7), none⟩,
    ⟨(some 2), .mv (.tmp 8), none⟩])
  (.ret)))⟩

/-- 'hostler/hostlerref03.Held' -/
def F17 : AFunc := ⟨19, [.tmp 4],
  .seq (.region [
    ⟨(some 2), .box (.tmp 0), none⟩,
    ⟨(some 4), .mv (.const (.bool false)), none⟩])
  (.seq (.seq (.region [
    ⟨(some 5), .fieldAddr 1 (.tmp 2), none⟩,
    ⟨(some 6), .load1 (.tmp 5), none⟩,
    ⟨(some 7), .lenS (.tmp 6), none⟩,
    ⟨(some 8), .bin .eql (.tmp 7) (.const (.int .i64 0)), none⟩])
  (.cond (.tmp 8)
    (.seq (.region [
      ⟨(some 9), .mv (.tmp 1), none⟩,
      ⟨(some 10), .fieldAddr 0 (.tmp 2), none⟩,
      ⟨(some 11), .load1 (.tmp 10), none⟩,
      ⟨(some 12), .bin .eql (.tmp 9) (.tmp 11), none⟩,
      ⟨(some 4), .mv (.tmp 12), none⟩])
    (.ret))
    (.skip)))
  (.seq (.region [
    ⟨(some 13), .fieldAddr 1 (.tmp 2), none⟩,
    ⟨(some 14), .load1 (.tmp 13), none⟩,
    ⟨(some 15), .idxAddr 1 none (.tmp 14) (.const (.int .i64 0)), none⟩,
    ⟨(some 16), .load1 (.tmp 15), none⟩,
    ⟨(some 17), .mv (.tmp 1), none⟩,
    ⟨(some 18), .bin .eql (.tmp 16) (.tmp 17), none⟩,
    ⟨(some 4), .mv (.tmp 18), none⟩])
  (.ret)))⟩

/-- 'hostler/hostlerref03.Free' -/
def F18 : AFunc := ⟨25, [.cellN 4 2, .tmp 5],
  .seq (.region [
    ⟨(some 2), .box (.tmp 0), none⟩,
    ⟨(some 4), .alloc [(.int .u64 0), .nilslice], none⟩,
    ⟨(some 5), .mv (.const (.bool false)), none⟩])
  (.seq (.seq (.region [
    ⟨(some 6), .fieldAddr 1 (.tmp 2), none⟩,
    ⟨(some 7), .load1 (.tmp 6), none⟩,
    ⟨(some 8), .lenS (.tmp 7), none⟩,
    ⟨(some 9), .bin .eql (.tmp 8) (.const (.int .i64 0)), none⟩,
    ⟨(some 10), .mv (.tmp 9), none⟩,
    ⟨(some 11), .fieldAddr 1 (.tmp 2), (some (10, false))⟩,
    ⟨(some 12), .load1 (.tmp 11), (some (10, false))⟩,
    ⟨(some 13), .idxAddr 1 none (.tmp 12) (.const (.int .i64 0)), (some (10, false))⟩,
    ⟨(some 14), .load1 (.tmp 13), (some (10, false))⟩,
    ⟨(some 15), .mv (.tmp 1), (some (10, false))⟩,
    ⟨(some 16), .bin .neq (.tmp 14) (.tmp 15), (some (10, false))⟩,
    ⟨(some 17), .pick (.tmp 10) (.const (.bool true)) (.tmp 16), none⟩])
  (.cond (.tmp 17)
    (.seq (.region [
      ⟨(some 18), .loadN 2 (.tmp 2), none⟩,
      ⟨none, .store 2 (.tmp 4) (.tmp 18), none⟩,
      ⟨(some 5), .mv (.const (.bool false)), none⟩])
    (.ret))
    (.skip)))
  (.seq (.draw [
    (⟨(some 19), .fieldAddr 0 (.tmp 2), none⟩, .still),
    (⟨(some 20), .load1 (.tmp 19), none⟩, .reads 0 0),
    (⟨(some 21), .fieldAddr 1 (.tmp 2), none⟩, .still),
    (⟨(some 22), .load1 (.tmp 21), none⟩, .reads 0 0),
    (⟨(some 23), .slc 1 none (.tmp 22) (some (.const (.int .i64 1))) none none, none⟩, .reads 0 0),
    (⟨(some 24), .build [(.int .u64 0), .nilslice] [((0, 1), (.tmp 20)), ((1, 1), (.tmp 23))], none⟩, .still),
    (⟨none, .store 2 (.tmp 4) (.tmp 24), none⟩, .loud),
    (⟨(some 5), .mv (.const (.bool true)), none⟩, .still)])
  (.ret)))⟩

/-- '(*hostler/cell.Memory).Load' -/
def F19 : AFunc := ⟨14, [.tmp 4],
  .seq (.region [
    ⟨(some 4), .mv (.const (.int .u64 0)), none⟩])
  (.seq (.seq (.region [
    ⟨(some 6), .mv (.tmp 0), none⟩,
    ⟨(some 7), .mv (.tmp 1), none⟩,
    ⟨(some 8), .call 22 [(.tmp 6), (.tmp 7)], none⟩,
    ⟨(some 5), .mv (.tmp 8), none⟩])
  (.seq (.region [
    ⟨(some 9), .mv (.tmp 5), none⟩,
    ⟨(some 10), .cmpNil true 0 (.tmp 9) (.const .nilptr), none⟩])
  (.cond (.tmp 10)
    (.seq (.region [
      ⟨(some 11), .mv (.tmp 5), none⟩,
      ⟨(some 12), .nilCheck (.tmp 11), none⟩,
      ⟨(some 13), .load1 (.tmp 12), none⟩,
      ⟨(some 4), .mv (.tmp 13), none⟩])
    (.ret))
    (.skip))))
  (.seq (.region [
    ⟨(some 4), .mv (.const (.int .u64 0)), none⟩])
  (.ret)))⟩

/-- '(*hostler/cell.Memory).Store' -/
def F20 : AFunc := ⟨18, [.tmp 6],
  .seq (.region [
    ⟨(some 6), .mv (.const (.bool false)), none⟩])
  (.seq (.region [
    ⟨(some 8), .mv (.tmp 0), none⟩,
    ⟨(some 9), .mv (.tmp 1), none⟩,
    ⟨(some 10), .call 22 [(.tmp 8), (.tmp 9)], none⟩,
    ⟨(some 7), .mv (.tmp 10), none⟩])
  (.seq (.seq (.region [
    ⟨(some 11), .mv (.tmp 7), none⟩,
    ⟨(some 12), .cmpNil true 0 (.tmp 11) (.const .nilptr), none⟩])
  (.cond (.tmp 12)
    (.region [
      ⟨(some 13), .mv (.tmp 7), none⟩,
      ⟨(some 14), .mv (.tmp 2), none⟩,
      ⟨(some 15), .nilCheck (.tmp 13), none⟩,
      ⟨none, .store 1 (.tmp 15) (.tmp 14), none⟩])
    (.skip)))
  (.seq (.region [
    ⟨(some 16), .mv (.tmp 7), none⟩,
    ⟨(some 17), .cmpNil true 0 (.tmp 16) (.const .nilptr), none⟩,
    ⟨(some 6), .mv (.tmp 17), none⟩])
  (.ret))))⟩

/-- '(*hostler/cell.Memory).Add' -/
def F21 : AFunc := ⟨23, [.tmp 6],
  .seq (.region [
    ⟨(some 6), .mv (.const (.int .u64 0)), none⟩])
  (.seq (.region [
    ⟨(some 8), .mv (.tmp 0), none⟩,
    ⟨(some 9), .mv (.tmp 1), none⟩,
    ⟨(some 10), .call 22 [(.tmp 8), (.tmp 9)], none⟩,
    ⟨(some 7), .mv (.tmp 10), none⟩])
  (.seq (.seq (.region [
    ⟨(some 11), .mv (.tmp 7), none⟩,
    ⟨(some 12), .cmpNil false 0 (.tmp 11) (.const .nilptr), none⟩])
  (.cond (.tmp 12)
    (.seq (.region [
      ⟨(some 6), .mv (.const (.int .u64 0)), none⟩])
    (.ret))
    (.skip)))
  (.seq (.region [
    ⟨(some 13), .mv (.tmp 7), none⟩,
    ⟨(some 14), .nilCheck (.tmp 13), none⟩,
    ⟨(some 15), .load1 (.tmp 14), none⟩,
    ⟨(some 16), .mv (.tmp 2), none⟩,
    ⟨(some 17), .toInt .u64 (.tmp 16), none⟩,
    ⟨(some 18), .bin .add (.tmp 15) (.tmp 17), none⟩,
    ⟨(some 19), .nilCheck (.tmp 13), none⟩,
    ⟨none, .store 1 (.tmp 19) (.tmp 18), none⟩])
  (.seq (.region [
    ⟨(some 20), .mv (.tmp 7), none⟩,
    ⟨(some 21), .nilCheck (.tmp 20), none⟩,
    ⟨(some 22), .load1 (.tmp 21), none⟩,
    ⟨(some 6), .mv (.tmp 22), none⟩])
  (.ret)))))⟩

/-- '(*hostler/cell.Memory).at' -/
def F22 : AFunc := ⟨26, [.tmp 4],
  .seq (.region [
    ⟨(some 4), .mv (.const .nilptr), none⟩])
  (.seq (.seq (.region [
    ⟨(some 5), .mv (.tmp 1), none⟩,
    ⟨(some 6), .bin .lss (.tmp 5) (.const (.int .i64 0)), none⟩,
    ⟨(some 7), .mv (.tmp 6), none⟩,
    ⟨(some 8), .mv (.tmp 1), (some (7, false))⟩,
    ⟨(some 9), .mv (.tmp 0), (some (7, false))⟩,
    ⟨(some 10), .call 23 [(.tmp 9)], (some (7, false))⟩,
    ⟨(some 11), .bin .geq (.tmp 8) (.tmp 10), (some (7, false))⟩,
    ⟨(some 12), .pick (.tmp 7) (.const (.bool true)) (.tmp 11), none⟩])
  (.cond (.tmp 12)
    (.seq (.region [
      ⟨(some 4), .mv (.const .nilptr), none⟩])
    (.ret))
    (.skip)))
  (.seq (.region [
    ⟨(some 13), .mv (.tmp 0), none⟩,
    ⟨(some 14), .nilCheck (.tmp 13), none⟩,
    ⟨(some 15), .fieldAddr 1 (.tmp 14), none⟩,
    ⟨(some 16), .load1 (.tmp 15), none⟩,
    ⟨(some 17), .bin .add (.tmp 16) (.const (.int .i64 1)), none⟩,
    ⟨(some 18), .nilCheck (.tmp 13), none⟩,
    ⟨(some 19), .fieldAddr 1 (.tmp 18), none⟩,
    ⟨none, .store 1 (.tmp 19) (.tmp 17), none⟩])
  (.seq (.region [
    ⟨(some 20), .mv (.tmp 0), none⟩,
    ⟨(some 21), .nilCheck (.tmp 20), none⟩,
    ⟨(some 22), .fieldAddr 0 (.tmp 21), none⟩,
    ⟨(some 23), .load1 (.tmp 22), none⟩,
    ⟨(some 24), .mv (.tmp 1), none⟩,
    ⟨(some 25), .idxAddr 1 none (.tmp 23) (.tmp 24), none⟩,
    ⟨(some 4), .mv (.tmp 25), none⟩])
  (.ret))))⟩

/-- '(*hostler/cell.Memory).Len' -/
def F23 : AFunc := ⟨10, [.tmp 2],
  .seq (.region [
    ⟨(some 2), .mv (.const (.int .i64 0)), none⟩])
  (.seq (.seq (.region [
    ⟨(some 3), .mv (.tmp 0), none⟩,
    ⟨(some 4), .cmpNil false 0 (.tmp 3) (.const .nilptr), none⟩])
  (.cond (.tmp 4)
    (.seq (.region [
      ⟨(some 2), .mv (.const (.int .i64 0)), none⟩])
    (.ret))
    (.skip)))
  (.seq (.region [
    ⟨(some 5), .mv (.tmp 0), none⟩,
    ⟨(some 6), .nilCheck (.tmp 5), none⟩,
    ⟨(some 7), .fieldAddr 0 (.tmp 6), none⟩,
    ⟨(some 8), .load1 (.tmp 7), none⟩,
    ⟨(some 9), .lenS (.tmp 8), none⟩,
    ⟨(some 2), .mv (.tmp 9), none⟩])
  (.ret)))⟩

def T : ATable := fun f => match f with
  | 3 => some F3
  | 4 => some F4
  | 5 => some F5
  | 6 => some F6
  | 7 => some F7
  | 8 => some F8
  | 9 => some F9
  | 10 => some F10
  | 11 => some F11
  | 12 => some F12
  | 13 => some F13
  | 14 => some F14
  | 15 => some F15
  | 16 => some F16
  | 17 => some F17
  | 18 => some F18
  | 19 => some F19
  | 20 => some F20
  | 21 => some F21
  | 22 => some F22
  | 23 => some F23
  | _ => none

theorem T_3 : T 3 = some F3 := rfl
theorem T_4 : T 4 = some F4 := rfl
theorem T_5 : T 5 = some F5 := rfl
theorem T_6 : T 6 = some F6 := rfl
theorem T_7 : T 7 = some F7 := rfl
theorem T_8 : T 8 = some F8 := rfl
theorem T_9 : T 9 = some F9 := rfl
theorem T_10 : T 10 = some F10 := rfl
theorem T_11 : T 11 = some F11 := rfl
theorem T_12 : T 12 = some F12 := rfl
theorem T_13 : T 13 = some F13 := rfl
theorem T_14 : T 14 = some F14 := rfl
theorem T_15 : T 15 = some F15 := rfl
theorem T_16 : T 16 = some F16 := rfl
theorem T_17 : T 17 = some F17 := rfl
theorem T_18 : T 18 = some F18 := rfl
theorem T_19 : T 19 = some F19 := rfl
theorem T_20 : T 20 = some F20 := rfl
theorem T_21 : T 21 = some F21 := rfl
theorem T_22 : T 22 = some F22 := rfl
theorem T_23 : T 23 = some F23 := rfl

set_option maxRecDepth 100000 in
theorem comp_3 : compFunc Try.prog 0 Try.f3 = some F3 := by kernel_rfl
set_option maxRecDepth 100000 in
theorem comp_4 : compFunc Try.prog 0 Try.f4 = some F4 := by kernel_rfl
set_option maxRecDepth 100000 in
theorem comp_5 : compFunc Try.prog 0 Try.f5 = some F5 := by kernel_rfl
set_option maxRecDepth 100000 in
theorem comp_6 : compFunc Try.prog 0 Try.f6 = some F6 := by kernel_rfl
set_option maxRecDepth 100000 in
theorem comp_7 : compFunc Try.prog 0 Try.f7 = some F7 := by kernel_rfl
set_option maxRecDepth 100000 in
theorem comp_8 : compFunc Try.prog 0 Try.f8 = some F8 := by kernel_rfl
set_option maxRecDepth 100000 in
theorem comp_9 : compFunc Try.prog 0 Try.f9 = some F9 := by kernel_rfl
set_option maxRecDepth 100000 in
theorem comp_10 : compFunc Try.prog 0 Try.f10 = some F10 := by kernel_rfl
set_option maxRecDepth 100000 in
theorem comp_11 : compFunc Try.prog 0 Try.f11 = some F11 := by kernel_rfl
set_option maxRecDepth 100000 in
theorem comp_12 : compFunc Try.prog 0 Try.f12 = some F12 := by kernel_rfl
set_option maxRecDepth 100000 in
theorem comp_13 : compFunc Try.prog 0 Try.f13 = some F13 := by kernel_rfl
set_option maxRecDepth 100000 in
theorem comp_14 : compFunc Try.prog 0 Try.f14 = some F14 := by kernel_rfl
set_option maxRecDepth 100000 in
theorem comp_15 : compFunc Try.prog 0 Try.f15 = some F15 := by kernel_rfl
set_option maxRecDepth 100000 in
theorem comp_16 : compFunc Try.prog 0 Try.f16 = some F16 := by kernel_rfl
set_option maxRecDepth 100000 in
theorem comp_17 : compFunc Try.prog 0 Try.f17 = some F17 := by kernel_rfl
set_option maxRecDepth 100000 in
theorem comp_18 : compFunc Try.prog 0 Try.f18 = some F18 := by kernel_rfl
set_option maxRecDepth 100000 in
theorem comp_19 : compFunc Try.prog 0 Try.f19 = some F19 := by kernel_rfl
set_option maxRecDepth 100000 in
theorem comp_20 : compFunc Try.prog 0 Try.f20 = some F20 := by kernel_rfl
set_option maxRecDepth 100000 in
theorem comp_21 : compFunc Try.prog 0 Try.f21 = some F21 := by kernel_rfl
set_option maxRecDepth 100000 in
theorem comp_22 : compFunc Try.prog 0 Try.f22 = some F22 := by kernel_rfl
set_option maxRecDepth 100000 in
theorem comp_23 : compFunc Try.prog 0 Try.f23 = some F23 := by kernel_rfl
theorem in_3 : F3.body.within F3.ntmps = true := by kernel_rfl
theorem in_4 : F4.body.within F4.ntmps = true := by kernel_rfl
theorem in_5 : F5.body.within F5.ntmps = true := by kernel_rfl
theorem in_6 : F6.body.within F6.ntmps = true := by kernel_rfl
theorem in_7 : F7.body.within F7.ntmps = true := by kernel_rfl
theorem in_8 : F8.body.within F8.ntmps = true := by kernel_rfl
theorem in_9 : F9.body.within F9.ntmps = true := by kernel_rfl
theorem in_10 : F10.body.within F10.ntmps = true := by kernel_rfl
theorem in_11 : F11.body.within F11.ntmps = true := by kernel_rfl
theorem in_12 : F12.body.within F12.ntmps = true := by kernel_rfl
theorem in_13 : F13.body.within F13.ntmps = true := by kernel_rfl
theorem in_14 : F14.body.within F14.ntmps = true := by kernel_rfl
theorem in_15 : F15.body.within F15.ntmps = true := by kernel_rfl
theorem in_16 : F16.body.within F16.ntmps = true := by kernel_rfl
theorem in_17 : F17.body.within F17.ntmps = true := by kernel_rfl
theorem in_18 : F18.body.within F18.ntmps = true := by kernel_rfl
theorem in_19 : F19.body.within F19.ntmps = true := by kernel_rfl
theorem in_20 : F20.body.within F20.ntmps = true := by kernel_rfl
theorem in_21 : F21.body.within F21.ntmps = true := by kernel_rfl
theorem in_22 : F22.body.within F22.ntmps = true := by kernel_rfl
theorem in_23 : F23.body.within F23.ntmps = true := by kernel_rfl

theorem table_in : TableIn T := by
  intro f F h
  unfold T at h
  split at h
  · cases h; exact in_3
  · cases h; exact in_4
  · cases h; exact in_5
  · cases h; exact in_6
  · cases h; exact in_7
  · cases h; exact in_8
  · cases h; exact in_9
  · cases h; exact in_10
  · cases h; exact in_11
  · cases h; exact in_12
  · cases h; exact in_13
  · cases h; exact in_14
  · cases h; exact in_15
  · cases h; exact in_16
  · cases h; exact in_17
  · cases h; exact in_18
  · cases h; exact in_19
  · cases h; exact in_20
  · cases h; exact in_21
  · cases h; exact in_22
  · cases h; exact in_23
  · cases h

theorem table_ok : TableOk Try.prog 0 T := by
  intro f F h
  unfold T at h
  split at h
  · cases h; exact ⟨Try.f3, Try.func3, comp_3⟩
  · cases h; exact ⟨Try.f4, Try.func4, comp_4⟩
  · cases h; exact ⟨Try.f5, Try.func5, comp_5⟩
  · cases h; exact ⟨Try.f6, Try.func6, comp_6⟩
  · cases h; exact ⟨Try.f7, Try.func7, comp_7⟩
  · cases h; exact ⟨Try.f8, Try.func8, comp_8⟩
  · cases h; exact ⟨Try.f9, Try.func9, comp_9⟩
  · cases h; exact ⟨Try.f10, Try.func10, comp_10⟩
  · cases h; exact ⟨Try.f11, Try.func11, comp_11⟩
  · cases h; exact ⟨Try.f12, Try.func12, comp_12⟩
  · cases h; exact ⟨Try.f13, Try.func13, comp_13⟩
  · cases h; exact ⟨Try.f14, Try.func14, comp_14⟩
  · cases h; exact ⟨Try.f15, Try.func15, comp_15⟩
  · cases h; exact ⟨Try.f16, Try.func16, comp_16⟩
  · cases h; exact ⟨Try.f17, Try.func17, comp_17⟩
  · cases h; exact ⟨Try.f18, Try.func18, comp_18⟩
  · cases h; exact ⟨Try.f19, Try.func19, comp_19⟩
  · cases h; exact ⟨Try.f20, Try.func20, comp_20⟩
  · cases h; exact ⟨Try.f21, Try.func21, comp_21⟩
  · cases h; exact ⟨Try.f22, Try.func22, comp_22⟩
  · cases h; exact ⟨Try.f23, Try.func23, comp_23⟩
  · cases h

end Go.Proofs.Ytjieccliblmgcaa.Ev
