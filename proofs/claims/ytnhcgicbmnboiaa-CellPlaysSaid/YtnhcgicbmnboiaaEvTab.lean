/- The program's functions as the evaluator takes them, printed by a program of this repository (PrintTab.lean, mktab.py); that they are the program's is proved at the end. -/
import Derived.Test.YtnhcgicbmnboiaaEvComp
import Derived.Test.YtnhcgicbmnboiaaEvRun
import Derived.Test.YtnhcgicbmnboiaaChecked
import Derived.KernelRfl
namespace Go.Proofs.Ytnhcgicbmnboiaa.Ev
open Go

/-- 'hostler/hostlerlaw04.NoteOnce' -/
def F3 : AFunc := ⟨60, [.tmp 4],
  .seq (.region [
    ⟨(some 4), .mv (.const (.bool false)), none⟩])
  (.seq (.seq (.region [
    ⟨(some 10), .call 13 [], none⟩,
    ⟨(some 11), .un .not (.tmp 10), none⟩])
  (.cond (.tmp 11)
    (.seq (.region [
      ⟨(some 4), .mv (.const (.bool false)), none⟩])
    (.ret))
    (.skip)))
  (.seq (.region [
    ⟨(some 12), .call 14 [(.const (.int .i64 1))], none⟩,
    ⟨(some 5), .mv (.tmp 12), none⟩])
  (.seq (.region [
    ⟨(some 13), .build [(.int .i64 0), (.int .i64 0)] [((1, 1), (.const (.int .i64 9223372036854775807)))], none⟩,
    ⟨(some 6), .alloc [(.int .i64 0), (.int .i64 0)], none⟩,
    ⟨none, .store 2 (.tmp 6) (.tmp 13), none⟩])
  (.seq (.region [
    ⟨(some 7), .mv (.const (.int .i64 0)), none⟩,
    ⟨(some 8), .mv (.const (.int .i64 0)), none⟩])
  (.seq (.seq (.region [
    ⟨(some 14), .mv (.tmp 0), none⟩,
    ⟨(some 15), .bin .rem (.tmp 14) (.const (.int .u8 9)), none⟩,
    ⟨(some 16), .mv (.const (.int .u8 0)), none⟩])
  (.block 0 (.loop (.seq (.region [
      ⟨(some 17), .bin .lss (.tmp 16) (.tmp 15), none⟩])
    (.seq (.cond (.tmp 17)
      (.skip)
      (.exit 0))
    (.seq (.block 1 (.seq (.region [
      ⟨(some 18), .mv (.tmp 5), none⟩,
      ⟨(some 19), .call 15 [(.tmp 18), (.const (.int .i64 0))], none⟩])
    (.cond (.tmp 19)
      (.region [
        ⟨(some 20), .mv (.tmp 7), none⟩,
        ⟨(some 21), .bin .add (.tmp 20) (.const (.int .i64 1)), none⟩,
        ⟨(some 7), .mv (.tmp 21), none⟩])
      (.skip))))
    (.region [
      ⟨(some 22), .bin .add (.tmp 16) (.const (.int .u8 1)), none⟩,
      ⟨(some 16), .mv (.tmp 22), none⟩])))))))
  (.seq (.seq (.region [
    ⟨(some 23), .mv (.tmp 1), none⟩,
    ⟨(some 24), .bin .rem (.tmp 23) (.const (.int .u8 9)), none⟩,
    ⟨(some 25), .mv (.const (.int .u8 0)), none⟩])
  (.block 2 (.loop (.seq (.region [
      ⟨(some 26), .bin .lss (.tmp 25) (.tmp 24), none⟩])
    (.seq (.cond (.tmp 26)
      (.skip)
      (.exit 2))
    (.seq (.block 3 (.seq (.region [
      ⟨(some 27), .loadN 2 (.tmp 6), none⟩,
      ⟨(some 28), .mv (.tmp 5), none⟩,
      ⟨(some 29), .call 16 [(.tmp 27), (.tmp 28), (.const (.int .i64 5))], none⟩,
      ⟨(some 30), .bin .eql (.tmp 29) (.const (.int .i64 1)), none⟩])
    (.cond (.tmp 30)
      (.region [
        ⟨(some 31), .mv (.tmp 8), none⟩,
        ⟨(some 32), .bin .add (.tmp 31) (.const (.int .i64 1)), none⟩,
        ⟨(some 8), .mv (.tmp 32), none⟩])
      (.skip))))
    (.region [
      ⟨(some 33), .bin .add (.tmp 25) (.const (.int .u8 1)), none⟩,
      ⟨(some 25), .mv (.tmp 33), none⟩])))))))
  (.seq (.region [
    ⟨(some 9), .mv (.const (.int .i64 0)), none⟩])
  (.seq (.seq (.region [
    ⟨(some 34), .mv (.tmp 0), none⟩,
    ⟨(some 35), .bin .rem (.tmp 34) (.const (.int .u8 9)), none⟩,
    ⟨(some 36), .bin .gtr (.tmp 35) (.const (.int .u8 0)), none⟩])
  (.cond (.tmp 36)
    (.region [
      ⟨(some 9), .mv (.const (.int .i64 1)), none⟩])
    (.skip)))
  (.seq (.seq (.region [
    ⟨(some 37), .mv (.tmp 7), none⟩,
    ⟨(some 38), .mv (.tmp 9), none⟩,
    ⟨(some 39), .bin .neq (.tmp 37) (.tmp 38), none⟩,
    ⟨(some 40), .mv (.tmp 39), none⟩,
    ⟨(some 41), .mv (.tmp 1), (some (40, false))⟩,
    ⟨(some 42), .bin .rem (.tmp 41) (.const (.int .u8 9)), (some (40, false))⟩,
    ⟨(some 43), .bin .gtr (.tmp 42) (.const (.int .u8 0)), (some (40, false))⟩,
    ⟨(some 44), .mv (.tmp 43), (some (40, false))⟩,
    ⟨(some 45), .mv (.tmp 8), (some (44, true))⟩,
    ⟨(some 46), .mv (.tmp 9), (some (44, true))⟩,
    ⟨(some 47), .bin .neq (.tmp 45) (.tmp 46), (some (44, true))⟩,
    ⟨(some 48), .pick (.tmp 44) (.tmp 47) (.const (.bool false)), (some (40, false))⟩,
    ⟨(some 49), .pick (.tmp 40) (.const (.bool true)) (.tmp 48), none⟩])
  (.cond (.tmp 49)
    (.seq (.region [
      ⟨(some 4), .mv (.const (.bool false)), none⟩])
    (.ret))
    (.skip)))
  (.seq (.region [
    ⟨(some 50), .mv (.tmp 5), none⟩,
    ⟨(some 51), .call 15 [(.tmp 50), (.const (.int .i64 0))], none⟩,
    ⟨(some 52), .mv (.tmp 9), none⟩,
    ⟨(some 53), .bin .eql (.tmp 52) (.const (.int .i64 0)), none⟩,
    ⟨(some 54), .mv (.tmp 53), none⟩,
    ⟨(some 55), .mv (.tmp 1), (some (54, false))⟩,
    ⟨(some 56), .bin .rem (.tmp 55) (.const (.int .u8 9)), (some (54, false))⟩,
    ⟨(some 57), .bin .gtr (.tmp 56) (.const (.int .u8 0)), (some (54, false))⟩,
    ⟨(some 58), .pick (.tmp 54) (.const (.bool true)) (.tmp 57), none⟩,
    ⟨(some 59), .eqBool false (.tmp 51) (.tmp 58), none⟩,
    ⟨(some 4), .mv (.tmp 59), none⟩])
  (.ret)))))))))))⟩

/-- 'hostler/hostlerlaw04.NoteDue' -/
def F4 : AFunc := ⟨42, [.tmp 4],
  .seq (.region [
    ⟨(some 4), .mv (.const (.bool false)), none⟩])
  (.seq (.seq (.region [
    ⟨(some 9), .call 13 [], none⟩,
    ⟨(some 10), .un .not (.tmp 9), none⟩])
  (.cond (.tmp 10)
    (.seq (.region [
      ⟨(some 4), .mv (.const (.bool false)), none⟩])
    (.ret))
    (.skip)))
  (.seq (.region [
    ⟨(some 11), .call 14 [(.const (.int .i64 2))], none⟩,
    ⟨(some 5), .mv (.tmp 11), none⟩])
  (.seq (.region [
    ⟨(some 12), .mv (.tmp 0), none⟩,
    ⟨(some 13), .build [(.int .i64 0), (.int .i64 0)] [((0, 1), (.const (.int .i64 1))), ((1, 1), (.tmp 12))], none⟩,
    ⟨(some 6), .alloc [(.int .i64 0), (.int .i64 0)], none⟩,
    ⟨none, .store 2 (.tmp 6) (.tmp 13), none⟩])
  (.seq (.region [
    ⟨(some 14), .mv (.tmp 1), none⟩,
    ⟨(some 15), .mv (.tmp 0), none⟩,
    ⟨(some 16), .bin .geq (.tmp 14) (.tmp 15), none⟩,
    ⟨(some 17), .mv (.tmp 16), none⟩,
    ⟨(some 18), .mv (.tmp 0), (some (17, true))⟩,
    ⟨(some 19), .bin .neq (.tmp 18) (.const (.int .i64 9223372036854775807)), (some (17, true))⟩,
    ⟨(some 20), .pick (.tmp 17) (.tmp 19) (.const (.bool false)), none⟩,
    ⟨(some 7), .mv (.tmp 20), none⟩])
  (.seq (.region [
    ⟨(some 21), .loadN 2 (.tmp 6), none⟩,
    ⟨(some 22), .mv (.tmp 5), none⟩,
    ⟨(some 23), .mv (.tmp 1), none⟩,
    ⟨(some 24), .call 16 [(.tmp 21), (.tmp 22), (.tmp 23)], none⟩,
    ⟨(some 8), .mv (.tmp 24), none⟩])
  (.seq (.region [
    ⟨(some 25), .loadN 2 (.tmp 6), none⟩,
    ⟨(some 26), .mv (.tmp 1), none⟩,
    ⟨(some 27), .call 17 [(.tmp 25), (.tmp 26)], none⟩,
    ⟨(some 28), .mv (.tmp 7), none⟩,
    ⟨(some 29), .eqBool false (.tmp 27) (.tmp 28), none⟩,
    ⟨(some 30), .mv (.tmp 29), none⟩,
    ⟨(some 31), .mv (.tmp 8), (some (30, true))⟩,
    ⟨(some 32), .bin .eql (.tmp 31) (.const (.int .i64 2)), (some (30, true))⟩,
    ⟨(some 33), .mv (.tmp 7), (some (30, true))⟩,
    ⟨(some 34), .eqBool false (.tmp 32) (.tmp 33), (some (30, true))⟩,
    ⟨(some 35), .pick (.tmp 30) (.tmp 34) (.const (.bool false)), none⟩,
    ⟨(some 36), .mv (.tmp 35), none⟩,
    ⟨(some 37), .mv (.tmp 8), (some (36, true))⟩,
    ⟨(some 38), .bin .neq (.tmp 37) (.const (.int .i64 1)), (some (36, true))⟩,
    ⟨(some 39), .pick (.tmp 36) (.tmp 38) (.const (.bool false)), none⟩,
    ⟨(some 40), .mv (.tmp 39), none⟩,
    ⟨(some 41), .pick (.tmp 40) (.const (.bool true)) (.const (.bool false)), none⟩,
    ⟨(some 4), .mv (.tmp 41), none⟩])
  (.ret)))))))⟩

/-- 'hostler/hostlerlaw04.NoteCells' -/
def F5 : AFunc := ⟨68, [.tmp 2],
  .seq (.region [
    ⟨(some 2), .mv (.const (.bool false)), none⟩])
  (.seq (.seq (.region [
    ⟨(some 10), .call 13 [], none⟩,
    ⟨(some 11), .un .not (.tmp 10), none⟩,
    ⟨(some 12), .mv (.tmp 11), none⟩,
    ⟨(some 13), .mv (.tmp 0), (some (12, false))⟩,
    ⟨(some 14), .lenS (.tmp 13), (some (12, false))⟩,
    ⟨(some 15), .bin .gtr (.tmp 14) (.const (.int .i64 20)), (some (12, false))⟩,
    ⟨(some 16), .pick (.tmp 12) (.const (.bool true)) (.tmp 15), none⟩])
  (.cond (.tmp 16)
    (.seq (.region [
      ⟨(some 17), .call 13 [], none⟩,
      ⟨(some 2), .mv (.tmp 17), none⟩])
    (.ret))
    (.skip)))
  (.seq (.region [
    ⟨(some 18), .call 14 [(.const (.int .i64 4))], none⟩,
    ⟨(some 3), .mv (.tmp 18), none⟩])
  (.seq (.region [
    ⟨(some 4), .alloc [(.bool false), (.bool false), (.bool false), (.bool false)], none⟩])
  (.seq (.seq (.region [
    ⟨(some 19), .mv (.tmp 0), none⟩,
    ⟨(some 20), .lenS (.tmp 19), none⟩,
    ⟨(some 21), .mv (.const (.int .i64 0)), none⟩])
  (.block 0 (.loop (.seq (.region [
      ⟨(some 22), .bin .lss (.tmp 21) (.tmp 20), none⟩])
    (.seq (.cond (.tmp 22)
      (.skip)
      (.exit 0))
    (.seq (.block 1 (.seq (.region [
      ⟨(some 23), .idxAddr 1 none (.tmp 19) (.tmp 21), none⟩,
      ⟨(some 24), .load1 (.tmp 23), none⟩,
      ⟨(some 6), .mv (.tmp 24), none⟩])
    (.seq (.region [
      ⟨(some 25), .mv (.tmp 6), none⟩,
      ⟨(some 26), .toInt .i64 (.tmp 25), none⟩,
      ⟨(some 27), .bin .rem (.tmp 26) (.const (.int .i64 4)), none⟩,
      ⟨(some 7), .mv (.tmp 27), none⟩])
    (.seq (.seq (.region [
      ⟨(some 28), .mv (.tmp 6), none⟩,
      ⟨(some 29), .bin .rem (.tmp 28) (.const (.int .u8 2)), none⟩,
      ⟨(some 30), .bin .eql (.tmp 29) (.const (.int .u8 0)), none⟩,
      ⟨(some 31), .mv (.tmp 30), none⟩,
      ⟨(some 32), .mv (.tmp 6), (some (31, false))⟩,
      ⟨(some 33), .bin .gtr (.tmp 32) (.const (.int .u8 200)), (some (31, false))⟩,
      ⟨(some 34), .pick (.tmp 31) (.const (.bool true)) (.tmp 33), none⟩])
    (.cond (.tmp 34)
      (.seq (.seq (.draw [
        (⟨(some 35), .mv (.tmp 3), none⟩, .still),
        (⟨(some 36), .mv (.tmp 7), none⟩, .still),
        (⟨(some 37), .call 15 [(.tmp 35), (.tmp 36)], none⟩, .loud),
        (⟨(some 38), .mv (.tmp 7), none⟩, .still),
        (⟨(some 39), .idxAddr 1 (some 4) (.tmp 4) (.tmp 38), none⟩, .still),
        (⟨(some 40), .load1 (.tmp 39), none⟩, .reads 0 1),
        (⟨(some 41), .eqBool false (.tmp 37) (.tmp 40), none⟩, .still)])
      (.cond (.tmp 41)
        (.seq (.region [
          ⟨(some 2), .mv (.const (.bool false)), none⟩])
        (.ret))
        (.skip)))
      (.region [
        ⟨(some 42), .mv (.tmp 7), none⟩,
        ⟨(some 43), .idxAddr 1 (some 4) (.tmp 4) (.tmp 42), none⟩,
        ⟨none, .store 1 (.tmp 43) (.const (.bool true)), none⟩]))
      (.seq (.region [
        ⟨(some 44), .mv (.tmp 7), none⟩,
        ⟨(some 45), .build [(.int .i64 0), (.int .i64 0)] [((0, 1), (.tmp 44)), ((1, 1), (.const (.int .i64 9223372036854775807)))], none⟩,
        ⟨(some 46), .mv (.tmp 3), none⟩,
        ⟨(some 47), .call 16 [(.tmp 45), (.tmp 46), (.const (.int .i64 0))], none⟩,
        ⟨(some 8), .mv (.tmp 47), none⟩])
      (.seq (.seq (.region [
        ⟨(some 48), .mv (.tmp 8), none⟩,
        ⟨(some 49), .bin .eql (.tmp 48) (.const (.int .i64 1)), none⟩,
        ⟨(some 50), .mv (.tmp 7), none⟩,
        ⟨(some 51), .idxAddr 1 (some 4) (.tmp 4) (.tmp 50), none⟩,
        ⟨(some 52), .load1 (.tmp 51), none⟩,
        ⟨(some 53), .eqBool true (.tmp 49) (.tmp 52), none⟩])
      (.cond (.tmp 53)
        (.seq (.region [
          ⟨(some 2), .mv (.const (.bool false)), none⟩])
        (.ret))
        (.skip)))
      (.region [
        ⟨(some 54), .mv (.tmp 7), none⟩,
        ⟨(some 55), .idxAddr 1 (some 4) (.tmp 4) (.tmp 54), none⟩,
        ⟨none, .store 1 (.tmp 55) (.const (.bool false)), none⟩])))))
    (.seq (.region [
      ⟨(some 56), .mv (.const (.int .i64 0)), none⟩])
    (.block 2 (.loop (.seq (.region [
        ⟨(some 57), .bin .lss (.tmp 56) (.const (.int .i64 4)), none⟩])
      (.seq (.cond (.tmp 57)
        (.skip)
        (.exit 2))
      (.seq (.block 3 (.seq (.region [
        ⟨(some 58), .mv (.tmp 56), none⟩,
        ⟨(some 9), .mv (.tmp 58), none⟩])
      (.seq (.draw [
        (⟨(some 59), .mv (.tmp 3), none⟩, .still),
        (⟨(some 60), .mv (.tmp 9), none⟩, .still),
        (⟨(some 61), .call 18 [(.tmp 59), (.tmp 60)], none⟩, .loud),
        (⟨(some 62), .mv (.tmp 9), none⟩, .still),
        (⟨(some 63), .idxAddr 1 (some 4) (.tmp 4) (.tmp 62), none⟩, .still),
        (⟨(some 64), .load1 (.tmp 63), none⟩, .reads 0 1),
        (⟨(some 65), .eqBool true (.tmp 61) (.tmp 64), none⟩, .still)])
      (.cond (.tmp 65)
        (.seq (.region [
          ⟨(some 2), .mv (.const (.bool false)), none⟩])
        (.ret))
        (.skip)))))
      (.region [
        ⟨(some 66), .bin .add (.tmp 56) (.const (.int .i64 1)), none⟩,
        ⟨(some 56), .mv (.tmp 66), none⟩])))))))))))
    (.region [
      ⟨(some 67), .bin .add (.tmp 21) (.const (.int .i64 1)), none⟩,
      ⟨(some 21), .mv (.tmp 67), none⟩])))))))
  (.seq (.region [
    ⟨(some 2), .mv (.const (.bool true)), none⟩])
  (.ret))))))⟩

/-- 'hostler/hostlerlaw01.CellAdds' -/
def F6 : AFunc := ⟨57, [.tmp 2],
  .seq (.region [
    ⟨(some 2), .mv (.const (.bool false)), none⟩])
  (.seq (.seq (.region [
    ⟨(some 9), .call 19 [], none⟩,
    ⟨(some 10), .un .not (.tmp 9), none⟩,
    ⟨(some 11), .mv (.tmp 10), none⟩,
    ⟨(some 12), .mv (.tmp 0), (some (11, false))⟩,
    ⟨(some 13), .lenS (.tmp 12), (some (11, false))⟩,
    ⟨(some 14), .bin .gtr (.tmp 13) (.const (.int .i64 60)), (some (11, false))⟩,
    ⟨(some 15), .pick (.tmp 11) (.const (.bool true)) (.tmp 14), none⟩])
  (.cond (.tmp 15)
    (.seq (.region [
      ⟨(some 16), .call 19 [], none⟩,
      ⟨(some 2), .mv (.tmp 16), none⟩])
    (.ret))
    (.skip)))
  (.seq (.region [
    ⟨(some 17), .call 14 [(.const (.int .i64 1))], none⟩,
    ⟨(some 3), .mv (.tmp 17), none⟩])
  (.seq (.region [
    ⟨(some 4), .mv (.const (.int .u64 0)), none⟩])
  (.seq (.seq (.region [
    ⟨(some 18), .mv (.tmp 0), none⟩,
    ⟨(some 19), .lenS (.tmp 18), none⟩,
    ⟨(some 20), .mv (.const (.int .i64 0)), none⟩])
  (.block 0 (.loop (.seq (.region [
      ⟨(some 21), .bin .lss (.tmp 20) (.tmp 19), none⟩])
    (.seq (.cond (.tmp 21)
      (.skip)
      (.exit 0))
    (.seq (.block 1 (.seq (.region [
      ⟨(some 22), .idxAddr 1 none (.tmp 18) (.tmp 20), none⟩,
      ⟨(some 23), .load1 (.tmp 22), none⟩,
      ⟨(some 6), .mv (.tmp 23), none⟩])
    (.seq (.region [
      ⟨(some 24), .mv (.tmp 4), none⟩,
      ⟨(some 25), .mv (.tmp 6), none⟩,
      ⟨(some 26), .toInt .u64 (.tmp 25), none⟩,
      ⟨(some 27), .bin .add (.tmp 24) (.tmp 26), none⟩,
      ⟨(some 4), .mv (.tmp 27), none⟩])
    (.seq (.region [
      ⟨(some 28), .mv (.tmp 3), none⟩,
      ⟨(some 29), .mv (.tmp 6), none⟩,
      ⟨(some 30), .call 20 [(.tmp 28), (.const (.int .i64 0)), (.tmp 29)], none⟩,
      ⟨(some 31), .mv (.tmp 4), none⟩,
      ⟨(some 32), .bin .neq (.tmp 30) (.tmp 31), none⟩])
    (.cond (.tmp 32)
      (.seq (.region [
        ⟨(some 2), .mv (.const (.bool false)), none⟩])
      (.ret))
      (.skip))))))
    (.region [
      ⟨(some 33), .bin .add (.tmp 20) (.const (.int .i64 1)), none⟩,
      ⟨(some 20), .mv (.tmp 33), none⟩])))))))
  (.seq (.seq (.region [
    ⟨(some 34), .mv (.tmp 0), none⟩,
    ⟨(some 35), .lenS (.tmp 34), none⟩,
    ⟨(some 36), .mv (.const (.int .i64 0)), none⟩])
  (.block 2 (.loop (.seq (.region [
      ⟨(some 37), .bin .lss (.tmp 36) (.tmp 35), none⟩])
    (.seq (.cond (.tmp 37)
      (.skip)
      (.exit 2))
    (.seq (.block 3 (.seq (.region [
      ⟨(some 38), .idxAddr 1 none (.tmp 34) (.tmp 36), none⟩,
      ⟨(some 39), .load1 (.tmp 38), none⟩,
      ⟨(some 8), .mv (.tmp 39), none⟩])
    (.region [
      ⟨(some 40), .mv (.tmp 3), none⟩,
      ⟨(some 41), .mv (.tmp 8), none⟩,
      ⟨(some 42), .un .neg (.tmp 41), none⟩,
      ⟨(some 43), .call 20 [(.tmp 40), (.const (.int .i64 0)), (.tmp 42)], none⟩])))
    (.region [
      ⟨(some 44), .bin .add (.tmp 36) (.const (.int .i64 1)), none⟩,
      ⟨(some 36), .mv (.tmp 44), none⟩])))))))
  (.seq (.region [
    ⟨(some 45), .mv (.tmp 3), none⟩,
    ⟨(some 46), .call 21 [(.tmp 45), (.const (.int .i64 0))], none⟩,
    ⟨(some 47), .bin .eql (.tmp 46) (.const (.int .u64 0)), none⟩,
    ⟨(some 48), .mv (.tmp 47), none⟩,
    ⟨(some 49), .mv (.tmp 3), (some (48, true))⟩,
    ⟨(some 50), .call 22 [(.tmp 49)], (some (48, true))⟩,
    ⟨(some 51), .mv (.tmp 0), (some (48, true))⟩,
    ⟨(some 52), .lenS (.tmp 51), (some (48, true))⟩,
    ⟨(some 53), .bin .mul (.const (.int .i64 2)) (.tmp 52), (some (48, true))⟩,
    ⟨(some 54), .bin .add (.tmp 53) (.const (.int .i64 1)), (some (48, true))⟩,
    ⟨(some 55), .bin .eql (.tmp 50) (.tmp 54), (some (48, true))⟩,
    ⟨(some 56), .pick (.tmp 48) (.tmp 55) (.const (.bool false)), none⟩,
    ⟨(some 2), .mv (.tmp 56), none⟩])
  (.ret)))))))⟩

/-- 'hostler/hostlerlaw01.CellSwaps' -/
def F7 : AFunc := ⟨45, [.tmp 4],
  .seq (.region [
    ⟨(some 4), .mv (.const (.bool false)), none⟩])
  (.seq (.seq (.region [
    ⟨(some 9), .call 19 [], none⟩,
    ⟨(some 10), .un .not (.tmp 9), none⟩,
    ⟨(some 11), .mv (.tmp 10), none⟩,
    ⟨(some 12), .mv (.tmp 1), (some (11, false))⟩,
    ⟨(some 13), .lenS (.tmp 12), (some (11, false))⟩,
    ⟨(some 14), .bin .gtr (.tmp 13) (.const (.int .i64 40)), (some (11, false))⟩,
    ⟨(some 15), .pick (.tmp 11) (.const (.bool true)) (.tmp 14), none⟩])
  (.cond (.tmp 15)
    (.seq (.region [
      ⟨(some 16), .call 19 [], none⟩,
      ⟨(some 4), .mv (.tmp 16), none⟩])
    (.ret))
    (.skip)))
  (.seq (.region [
    ⟨(some 17), .call 14 [(.const (.int .i64 1))], none⟩,
    ⟨(some 5), .mv (.tmp 17), none⟩])
  (.seq (.region [
    ⟨(some 18), .mv (.tmp 5), none⟩,
    ⟨(some 19), .mv (.tmp 0), none⟩,
    ⟨(some 20), .call 23 [(.tmp 18), (.const (.int .i64 0)), (.tmp 19)], none⟩])
  (.seq (.region [
    ⟨(some 21), .mv (.tmp 0), none⟩,
    ⟨(some 6), .mv (.tmp 21), none⟩])
  (.seq (.seq (.region [
    ⟨(some 22), .mv (.tmp 1), none⟩,
    ⟨(some 23), .lenS (.tmp 22), none⟩,
    ⟨(some 24), .mv (.const (.int .i64 0)), none⟩])
  (.block 0 (.loop (.seq (.region [
      ⟨(some 25), .bin .lss (.tmp 24) (.tmp 23), none⟩])
    (.seq (.cond (.tmp 25)
      (.skip)
      (.exit 0))
    (.seq (.block 1 (.seq (.region [
      ⟨(some 26), .idxAddr 1 none (.tmp 22) (.tmp 24), none⟩,
      ⟨(some 27), .load1 (.tmp 26), none⟩,
      ⟨(some 8), .mv (.tmp 27), none⟩])
    (.seq (.seq (.region [
      ⟨(some 28), .mv (.tmp 5), none⟩,
      ⟨(some 29), .mv (.tmp 0), none⟩,
      ⟨(some 30), .mv (.tmp 8), none⟩,
      ⟨(some 31), .call 24 [(.tmp 28), (.const (.int .i64 0)), (.tmp 29), (.tmp 30)], none⟩,
      ⟨(some 32), .mv (.tmp 6), none⟩,
      ⟨(some 33), .mv (.tmp 0), none⟩,
      ⟨(some 34), .bin .eql (.tmp 32) (.tmp 33), none⟩,
      ⟨(some 35), .eqBool true (.tmp 31) (.tmp 34), none⟩])
    (.cond (.tmp 35)
      (.seq (.region [
        ⟨(some 4), .mv (.const (.bool false)), none⟩])
      (.ret))
      (.skip)))
    (.seq (.seq (.region [
      ⟨(some 36), .mv (.tmp 6), none⟩,
      ⟨(some 37), .mv (.tmp 0), none⟩,
      ⟨(some 38), .bin .eql (.tmp 36) (.tmp 37), none⟩])
    (.cond (.tmp 38)
      (.region [
        ⟨(some 39), .mv (.tmp 8), none⟩,
        ⟨(some 6), .mv (.tmp 39), none⟩])
      (.skip)))
    (.seq (.region [
      ⟨(some 40), .mv (.tmp 5), none⟩,
      ⟨(some 41), .call 21 [(.tmp 40), (.const (.int .i64 0))], none⟩,
      ⟨(some 42), .mv (.tmp 6), none⟩,
      ⟨(some 43), .bin .neq (.tmp 41) (.tmp 42), none⟩])
    (.cond (.tmp 43)
      (.seq (.region [
        ⟨(some 4), .mv (.const (.bool false)), none⟩])
      (.ret))
      (.skip)))))))
    (.region [
      ⟨(some 44), .bin .add (.tmp 24) (.const (.int .i64 1)), none⟩,
      ⟨(some 24), .mv (.tmp 44), none⟩])))))))
  (.seq (.region [
    ⟨(some 4), .mv (.const (.bool true)), none⟩])
  (.ret)))))))⟩

/-- 'hostler/hostlerlaw04.NoteCleared' -/
def F8 : AFunc := ⟨59, [.tmp 6],
  .seq (.region [
    ⟨(some 6), .mv (.const (.bool false)), none⟩])
  (.seq (.seq (.region [
    ⟨(some 10), .call 13 [], none⟩,
    ⟨(some 11), .un .not (.tmp 10), none⟩])
  (.cond (.tmp 11)
    (.seq (.region [
      ⟨(some 6), .mv (.const (.bool false)), none⟩])
    (.ret))
    (.skip)))
  (.seq (.region [
    ⟨(some 12), .call 14 [(.const (.int .i64 1))], none⟩,
    ⟨(some 7), .mv (.tmp 12), none⟩])
  (.seq (.region [
    ⟨(some 13), .mv (.tmp 2), none⟩,
    ⟨(some 14), .build [(.int .i64 0), (.int .i64 0)] [((1, 1), (.tmp 13))], none⟩,
    ⟨(some 8), .alloc [(.int .i64 0), (.int .i64 0)], none⟩,
    ⟨none, .store 2 (.tmp 8) (.tmp 14), none⟩])
  (.seq (.seq (.region [
    ⟨(some 15), .mv (.tmp 0), none⟩,
    ⟨(some 16), .bin .rem (.tmp 15) (.const (.int .u8 9)), none⟩,
    ⟨(some 17), .mv (.const (.int .u8 0)), none⟩])
  (.block 0 (.loop (.seq (.region [
      ⟨(some 18), .bin .lss (.tmp 17) (.tmp 16), none⟩])
    (.seq (.cond (.tmp 18)
      (.skip)
      (.exit 0))
    (.seq (.block 1 (.region [
      ⟨(some 19), .mv (.tmp 7), none⟩,
      ⟨(some 20), .call 15 [(.tmp 19), (.const (.int .i64 0))], none⟩]))
    (.region [
      ⟨(some 21), .bin .add (.tmp 17) (.const (.int .u8 1)), none⟩,
      ⟨(some 17), .mv (.tmp 21), none⟩])))))))
  (.seq (.region [
    ⟨(some 22), .mv (.tmp 7), none⟩,
    ⟨(some 23), .call 25 [(.tmp 22), (.const (.int .i64 0))], none⟩])
  (.seq (.seq (.region [
    ⟨(some 24), .loadN 2 (.tmp 8), none⟩,
    ⟨(some 25), .mv (.tmp 7), none⟩,
    ⟨(some 26), .mv (.tmp 2), none⟩,
    ⟨(some 27), .bin .sub (.tmp 26) (.const (.int .i64 1)), none⟩,
    ⟨(some 28), .call 16 [(.tmp 24), (.tmp 25), (.tmp 27)], none⟩,
    ⟨(some 9), .mv (.tmp 28), none⟩])
  (.seq (.region [
    ⟨(some 29), .mv (.tmp 9), none⟩,
    ⟨(some 30), .bin .eql (.tmp 29) (.const (.int .i64 1)), none⟩,
    ⟨(some 31), .mv (.tmp 30), none⟩,
    ⟨(some 32), .mv (.tmp 2), (some (31, false))⟩,
    ⟨(some 33), .bin .gtr (.tmp 32) (.const (.int .i64 (-9223372036854775808))), (some (31, false))⟩,
    ⟨(some 34), .mv (.tmp 33), (some (31, false))⟩,
    ⟨(some 35), .mv (.tmp 9), (some (34, true))⟩,
    ⟨(some 36), .bin .neq (.tmp 35) (.const (.int .i64 0)), (some (34, true))⟩,
    ⟨(some 37), .pick (.tmp 34) (.tmp 36) (.const (.bool false)), (some (31, false))⟩,
    ⟨(some 38), .pick (.tmp 31) (.const (.bool true)) (.tmp 37), none⟩])
  (.cond (.tmp 38)
    (.seq (.region [
      ⟨(some 6), .mv (.const (.bool false)), none⟩])
    (.ret))
    (.skip))))
  (.seq (.seq (.region [
    ⟨(some 39), .mv (.tmp 1), none⟩,
    ⟨(some 40), .bin .rem (.tmp 39) (.const (.int .u8 9)), none⟩,
    ⟨(some 41), .mv (.const (.int .u8 0)), none⟩])
  (.block 2 (.loop (.seq (.region [
      ⟨(some 42), .bin .lss (.tmp 41) (.tmp 40), none⟩])
    (.seq (.cond (.tmp 42)
      (.skip)
      (.exit 2))
    (.seq (.block 3 (.region [
      ⟨(some 43), .mv (.tmp 7), none⟩,
      ⟨(some 44), .call 15 [(.tmp 43), (.const (.int .i64 0))], none⟩]))
    (.region [
      ⟨(some 45), .bin .add (.tmp 41) (.const (.int .u8 1)), none⟩,
      ⟨(some 41), .mv (.tmp 45), none⟩])))))))
  (.seq (.region [
    ⟨(some 46), .loadN 2 (.tmp 8), none⟩,
    ⟨(some 47), .mv (.tmp 7), none⟩,
    ⟨(some 48), .call 16 [(.tmp 46), (.tmp 47), (.const (.int .i64 (-9223372036854775808)))], none⟩,
    ⟨(some 49), .bin .eql (.tmp 48) (.const (.int .i64 1)), none⟩,
    ⟨(some 50), .mv (.tmp 1), none⟩,
    ⟨(some 51), .bin .rem (.tmp 50) (.const (.int .u8 9)), none⟩,
    ⟨(some 52), .bin .gtr (.tmp 51) (.const (.int .u8 0)), none⟩,
    ⟨(some 53), .eqBool false (.tmp 49) (.tmp 52), none⟩,
    ⟨(some 54), .mv (.tmp 53), none⟩,
    ⟨(some 55), .mv (.tmp 7), (some (54, true))⟩,
    ⟨(some 56), .call 18 [(.tmp 55), (.const (.int .i64 0))], (some (54, true))⟩,
    ⟨(some 57), .un .not (.tmp 56), (some (54, true))⟩,
    ⟨(some 58), .pick (.tmp 54) (.tmp 57) (.const (.bool false)), none⟩,
    ⟨(some 6), .mv (.tmp 58), none⟩])
  (.ret)))))))))⟩

/-- 'hostler/hostlerlaw04.NotePlays' -/
def F9 : AFunc := ⟨89, [.tmp 4],
  .seq (.region [
    ⟨(some 4), .mv (.const (.bool false)), none⟩])
  (.seq (.seq (.region [
    ⟨(some 13), .call 13 [], none⟩,
    ⟨(some 14), .un .not (.tmp 13), none⟩,
    ⟨(some 15), .mv (.tmp 14), none⟩,
    ⟨(some 16), .mv (.tmp 1), (some (15, false))⟩,
    ⟨(some 17), .lenS (.tmp 16), (some (15, false))⟩,
    ⟨(some 18), .bin .gtr (.tmp 17) (.const (.int .i64 60)), (some (15, false))⟩,
    ⟨(some 19), .pick (.tmp 15) (.const (.bool true)) (.tmp 18), none⟩])
  (.cond (.tmp 19)
    (.seq (.region [
      ⟨(some 20), .call 13 [], none⟩,
      ⟨(some 4), .mv (.tmp 20), none⟩])
    (.ret))
    (.skip)))
  (.seq (.region [
    ⟨(some 21), .call 14 [(.const (.int .i64 3))], none⟩,
    ⟨(some 5), .mv (.tmp 21), none⟩])
  (.seq (.region [
    ⟨(some 22), .mv (.tmp 0), none⟩,
    ⟨(some 23), .build [(.int .i64 0), (.int .i64 0)] [((0, 1), (.const (.int .i64 1))), ((1, 1), (.tmp 22))], none⟩,
    ⟨(some 6), .alloc [(.int .i64 0), (.int .i64 0)], none⟩,
    ⟨none, .store 2 (.tmp 6) (.tmp 23), none⟩])
  (.seq (.region [
    ⟨(some 7), .mv (.const (.bool false)), none⟩])
  (.seq (.seq (.region [
    ⟨(some 24), .mv (.tmp 1), none⟩,
    ⟨(some 25), .lenS (.tmp 24), none⟩,
    ⟨(some 26), .mv (.const (.int .i64 0)), none⟩])
  (.block 0 (.loop (.seq (.region [
      ⟨(some 27), .bin .lss (.tmp 26) (.tmp 25), none⟩])
    (.seq (.cond (.tmp 27)
      (.skip)
      (.exit 0))
    (.seq (.block 1 (.seq (.region [
      ⟨(some 28), .idxAddr 2 none (.tmp 24) (.tmp 26), none⟩,
      ⟨(some 29), .loadN 2 (.tmp 28), none⟩,
      ⟨(some 9), .alloc [(.int .u8 0), (.int .i64 0)], none⟩,
      ⟨none, .store 2 (.tmp 9) (.tmp 29), none⟩])
    (.seq (.region [
      ⟨(some 30), .mv (.tmp 5), none⟩,
      ⟨(some 31), .call 22 [(.tmp 30)], none⟩,
      ⟨(some 10), .mv (.tmp 31), none⟩])
    (.seq (.seq (.region [
      ⟨(some 32), .fieldAddr 0 (.tmp 9), none⟩,
      ⟨(some 33), .load1 (.tmp 32), none⟩,
      ⟨(some 34), .bin .rem (.tmp 33) (.const (.int .u8 5)), none⟩])
    (.block 2 (.seq (.region [
      ⟨(some 52), .bin .eql (.tmp 34) (.const (.int .u8 2)), none⟩,
      ⟨(some 51), .mv (.tmp 52), none⟩])
    (.cond (.tmp 51)
      (.seq (.seq (.region [
        ⟨(some 53), .mv (.tmp 5), none⟩,
        ⟨(some 54), .call 15 [(.tmp 53), (.const (.int .i64 1))], none⟩,
        ⟨(some 55), .mv (.tmp 7), none⟩,
        ⟨(some 56), .eqBool false (.tmp 54) (.tmp 55), none⟩])
      (.cond (.tmp 56)
        (.seq (.region [
          ⟨(some 4), .mv (.const (.bool false)), none⟩])
        (.ret))
        (.skip)))
      (.region [
        ⟨(some 7), .mv (.const (.bool true)), none⟩]))
      (.seq (.region [
        ⟨(some 58), .bin .eql (.tmp 34) (.const (.int .u8 3)), none⟩,
        ⟨(some 57), .mv (.tmp 58), none⟩])
      (.cond (.tmp 57)
        (.seq (.seq (.region [
          ⟨(some 59), .mv (.tmp 5), none⟩,
          ⟨(some 60), .call 25 [(.tmp 59), (.const (.int .i64 1))], none⟩,
          ⟨(some 61), .un .not (.tmp 60), none⟩])
        (.cond (.tmp 61)
          (.seq (.region [
            ⟨(some 4), .mv (.const (.bool false)), none⟩])
          (.ret))
          (.skip)))
        (.region [
          ⟨(some 7), .mv (.const (.bool false)), none⟩]))
        (.seq (.region [
          ⟨(some 63), .bin .eql (.tmp 34) (.const (.int .u8 4)), none⟩,
          ⟨(some 62), .mv (.tmp 63), none⟩])
        (.cond (.tmp 62)
          (.seq (.region [
            ⟨(some 64), .mv (.tmp 5), none⟩,
            ⟨(some 65), .call 18 [(.tmp 64), (.const (.int .i64 1))], none⟩,
            ⟨(some 66), .mv (.tmp 7), none⟩,
            ⟨(some 67), .eqBool true (.tmp 65) (.tmp 66), none⟩])
          (.cond (.tmp 67)
            (.seq (.region [
              ⟨(some 4), .mv (.const (.bool false)), none⟩])
            (.ret))
            (.skip)))
          (.seq (.region [
            ⟨(some 36), .mv (.tmp 7), none⟩,
            ⟨(some 37), .mv (.tmp 0), none⟩,
            ⟨(some 38), .fieldAddr 1 (.tmp 9), none⟩,
            ⟨(some 39), .load1 (.tmp 38), none⟩,
            ⟨(some 40), .call 26 [(.tmp 36), (.tmp 37), (.tmp 39)], none⟩,
            ⟨(some 35), .mv (.tmp 40), none⟩,
            ⟨(some 41), .extract 0 (.tmp 35), none⟩,
            ⟨(some 42), .extract 1 (.tmp 35), none⟩,
            ⟨(some 11), .mv (.tmp 41), none⟩,
            ⟨(some 12), .mv (.tmp 42), none⟩])
          (.seq (.region [
            ⟨(some 43), .mv (.tmp 11), none⟩,
            ⟨(some 7), .mv (.tmp 43), none⟩])
          (.seq (.region [
            ⟨(some 44), .loadN 2 (.tmp 6), none⟩,
            ⟨(some 45), .mv (.tmp 5), none⟩,
            ⟨(some 46), .fieldAddr 1 (.tmp 9), none⟩,
            ⟨(some 47), .load1 (.tmp 46), none⟩,
            ⟨(some 48), .call 16 [(.tmp 44), (.tmp 45), (.tmp 47)], none⟩,
            ⟨(some 49), .mv (.tmp 12), none⟩,
            ⟨(some 50), .bin .neq (.tmp 48) (.tmp 49), none⟩])
          (.cond (.tmp 50)
            (.seq (.region [
              ⟨(some 4), .mv (.const (.bool false)), none⟩])
            (.ret))
            (.skip)))))))))))))
    (.seq (.region [
      ⟨(some 68), .mv (.tmp 5), none⟩,
      ⟨(some 69), .call 22 [(.tmp 68)], none⟩,
      ⟨(some 70), .mv (.tmp 10), none⟩,
      ⟨(some 71), .bin .add (.tmp 70) (.const (.int .i64 1)), none⟩,
      ⟨(some 72), .bin .neq (.tmp 69) (.tmp 71), none⟩])
    (.cond (.tmp 72)
      (.seq (.region [
        ⟨(some 4), .mv (.const (.bool false)), none⟩])
      (.ret))
      (.skip)))))))
    (.region [
      ⟨(some 73), .bin .add (.tmp 26) (.const (.int .i64 1)), none⟩,
      ⟨(some 26), .mv (.tmp 73), none⟩])))))))
  (.seq (.region [
    ⟨(some 74), .mv (.tmp 5), none⟩,
    ⟨(some 75), .call 21 [(.tmp 74), (.const (.int .i64 0))], none⟩,
    ⟨(some 76), .bin .eql (.tmp 75) (.const (.int .u64 0)), none⟩,
    ⟨(some 77), .mv (.tmp 76), none⟩,
    ⟨(some 78), .mv (.tmp 5), (some (77, true))⟩,
    ⟨(some 79), .call 21 [(.tmp 78), (.const (.int .i64 2))], (some (77, true))⟩,
    ⟨(some 80), .bin .eql (.tmp 79) (.const (.int .u64 0)), (some (77, true))⟩,
    ⟨(some 81), .pick (.tmp 77) (.tmp 80) (.const (.bool false)), none⟩,
    ⟨(some 82), .mv (.tmp 81), none⟩,
    ⟨(some 83), .mv (.tmp 5), (some (82, true))⟩,
    ⟨(some 84), .call 21 [(.tmp 83), (.const (.int .i64 1))], (some (82, true))⟩,
    ⟨(some 85), .bin .eql (.tmp 84) (.const (.int .u64 1)), (some (82, true))⟩,
    ⟨(some 86), .mv (.tmp 7), (some (82, true))⟩,
    ⟨(some 87), .eqBool false (.tmp 85) (.tmp 86), (some (82, true))⟩,
    ⟨(some 88), .pick (.tmp 82) (.tmp 87) (.const (.bool false)), none⟩,
    ⟨(some 4), .mv (.tmp 88), none⟩])
  (.ret)))))))⟩

/-- 'hostler/hostlerlaw01.CellPlays' -/
def F10 : AFunc := ⟨81, [.tmp 4],
  .seq (.region [
    ⟨(some 4), .mv (.const (.bool false)), none⟩])
  (.seq (.seq (.region [
    ⟨(some 13), .call 19 [], none⟩,
    ⟨(some 14), .un .not (.tmp 13), none⟩,
    ⟨(some 15), .mv (.tmp 14), none⟩,
    ⟨(some 16), .mv (.tmp 1), (some (15, false))⟩,
    ⟨(some 17), .lenS (.tmp 16), (some (15, false))⟩,
    ⟨(some 18), .bin .gtr (.tmp 17) (.const (.int .i64 60)), (some (15, false))⟩,
    ⟨(some 19), .pick (.tmp 15) (.const (.bool true)) (.tmp 18), none⟩,
    ⟨(some 20), .mv (.tmp 19), none⟩,
    ⟨(some 21), .mv (.tmp 0), (some (20, false))⟩,
    ⟨(some 22), .bin .gtr (.tmp 21) (.const (.int .i64 100)), (some (20, false))⟩,
    ⟨(some 23), .pick (.tmp 20) (.const (.bool true)) (.tmp 22), none⟩])
  (.cond (.tmp 23)
    (.seq (.region [
      ⟨(some 24), .call 19 [], none⟩,
      ⟨(some 4), .mv (.tmp 24), none⟩])
    (.ret))
    (.skip)))
  (.seq (.region [
    ⟨(some 25), .mv (.tmp 0), none⟩,
    ⟨(some 26), .call 14 [(.tmp 25)], none⟩,
    ⟨(some 27), .mv (.tmp 0), none⟩,
    ⟨(some 28), .call 27 [(.tmp 27)], none⟩,
    ⟨(some 6), .alloc [.nilslice, (.int .i64 0)], none⟩,
    ⟨(some 5), .mv (.tmp 26), none⟩,
    ⟨none, .store 2 (.tmp 6) (.tmp 28), none⟩])
  (.seq (.seq (.region [
    ⟨(some 29), .mv (.tmp 1), none⟩,
    ⟨(some 30), .lenS (.tmp 29), none⟩,
    ⟨(some 31), .mv (.const (.int .i64 0)), none⟩])
  (.block 0 (.loop (.seq (.region [
      ⟨(some 32), .bin .lss (.tmp 31) (.tmp 30), none⟩])
    (.seq (.cond (.tmp 32)
      (.skip)
      (.exit 0))
    (.seq (.block 1 (.seq (.region [
      ⟨(some 33), .idxAddr 5 none (.tmp 29) (.tmp 31), none⟩,
      ⟨(some 34), .loadN 5 (.tmp 33), none⟩,
      ⟨(some 8), .alloc [(.int .u8 0), (.int .i64 0), (.int .u64 0), (.int .u64 0), (.int .i64 0)], none⟩,
      ⟨none, .store 5 (.tmp 8) (.tmp 34), none⟩])
    (.seq (.region [
      ⟨(some 9), .mv (.const (.bool false)), none⟩])
    (.seq (.region [
      ⟨(some 36), .mv (.tmp 5), none⟩,
      ⟨(some 37), .loadN 2 (.tmp 6), none⟩,
      ⟨(some 38), .loadN 5 (.tmp 8), none⟩,
      ⟨(some 39), .call 28 [(.tmp 36), (.tmp 37), (.tmp 38)], none⟩,
      ⟨(some 35), .mv (.tmp 39), none⟩,
      ⟨(some 40), .extract 0 (.tmp 35), none⟩,
      ⟨(some 41), .extract 1 (.tmp 35), none⟩,
      ⟨none, .store 2 (.tmp 6) (.tmp 40), none⟩,
      ⟨(some 9), .mv (.tmp 41), none⟩])
    (.seq (.seq (.draw [
      (⟨(some 42), .mv (.tmp 9), none⟩, .still),
      (⟨(some 43), .un .not (.tmp 42), none⟩, .still),
      (⟨(some 44), .mv (.tmp 43), none⟩, .still),
      (⟨(some 45), .mv (.tmp 5), (some (44, false))⟩, .still),
      (⟨(some 46), .call 29 [(.tmp 45)], (some (44, false))⟩, .loud),
      (⟨(some 47), .fieldAddr 0 (.tmp 6), (some (44, false))⟩, .still),
      (⟨(some 48), .load1 (.tmp 47), (some (44, false))⟩, .reads 0 1),
      (⟨(some 49), .lenS (.tmp 48), (some (44, false))⟩, .still),
      (⟨(some 50), .bin .neq (.tmp 46) (.tmp 49), (some (44, false))⟩, .still),
      (⟨(some 51), .pick (.tmp 44) (.const (.bool true)) (.tmp 50), none⟩, .still),
      (⟨(some 52), .mv (.tmp 51), none⟩, .still),
      (⟨(some 53), .mv (.tmp 5), (some (52, false))⟩, .still),
      (⟨(some 54), .call 22 [(.tmp 53)], (some (52, false))⟩, .loud),
      (⟨(some 55), .fieldAddr 1 (.tmp 6), (some (52, false))⟩, .still),
      (⟨(some 56), .load1 (.tmp 55), (some (52, false))⟩, .reads 1 2),
      (⟨(some 57), .bin .neq (.tmp 54) (.tmp 56), (some (52, false))⟩, .still),
      (⟨(some 58), .pick (.tmp 52) (.const (.bool true)) (.tmp 57), none⟩, .still)])
    (.cond (.tmp 58)
      (.seq (.region [
        ⟨(some 4), .mv (.const (.bool false)), none⟩])
      (.ret))
      (.skip)))
    (.seq (.region [
      ⟨(some 59), .mv (.tmp 5), none⟩,
      ⟨(some 60), .call 30 [(.tmp 59)], none⟩,
      ⟨(some 10), .mv (.tmp 60), none⟩])
    (.seq (.region [
      ⟨(some 61), .fieldAddr 0 (.tmp 6), none⟩,
      ⟨(some 62), .load1 (.tmp 61), none⟩,
      ⟨(some 63), .lenS (.tmp 62), none⟩,
      ⟨(some 64), .mv (.const (.int .i64 0)), none⟩])
    (.block 2 (.loop (.seq (.region [
        ⟨(some 65), .bin .lss (.tmp 64) (.tmp 63), none⟩])
      (.seq (.cond (.tmp 65)
        (.skip)
        (.exit 2))
      (.seq (.block 3 (.seq (.region [
        ⟨(some 66), .mv (.tmp 64), none⟩,
        ⟨(some 67), .idxAddr 1 none (.tmp 62) (.tmp 64), none⟩,
        ⟨(some 68), .load1 (.tmp 67), none⟩,
        ⟨(some 11), .mv (.tmp 66), none⟩,
        ⟨(some 12), .mv (.tmp 68), none⟩])
      (.seq (.region [
        ⟨(some 69), .mv (.tmp 10), none⟩,
        ⟨(some 70), .mv (.tmp 11), none⟩,
        ⟨(some 71), .call 21 [(.tmp 69), (.tmp 70)], none⟩,
        ⟨(some 72), .mv (.tmp 12), none⟩,
        ⟨(some 73), .bin .neq (.tmp 71) (.tmp 72), none⟩])
      (.cond (.tmp 73)
        (.seq (.region [
          ⟨(some 4), .mv (.const (.bool false)), none⟩])
        (.ret))
        (.skip)))))
      (.region [
        ⟨(some 74), .bin .add (.tmp 64) (.const (.int .i64 1)), none⟩,
        ⟨(some 64), .mv (.tmp 74), none⟩])))))))))))))
    (.region [
      ⟨(some 75), .bin .add (.tmp 31) (.const (.int .i64 1)), none⟩,
      ⟨(some 31), .mv (.tmp 75), none⟩])))))))
  (.seq (.region [
    ⟨(some 76), .mv (.tmp 5), none⟩,
    ⟨(some 77), .call 29 [(.tmp 76)], none⟩,
    ⟨(some 78), .mv (.tmp 0), none⟩,
    ⟨(some 79), .max2 (.const (.int .i64 0)) (.tmp 78), none⟩,
    ⟨(some 80), .bin .eql (.tmp 77) (.tmp 79), none⟩,
    ⟨(some 4), .mv (.tmp 80), none⟩])
  (.ret)))))⟩

/-- 'hostler/hostlerlaw01.CellApart' -/
def F11 : AFunc := ⟨134, [.tmp 8],
  .seq (.region [
    ⟨(some 8), .mv (.const (.bool false)), none⟩])
  (.seq (.seq (.region [
    ⟨(some 18), .call 19 [], none⟩,
    ⟨(some 19), .un .not (.tmp 18), none⟩,
    ⟨(some 20), .mv (.tmp 19), none⟩,
    ⟨(some 21), .mv (.tmp 0), (some (20, false))⟩,
    ⟨(some 22), .lenS (.tmp 21), (some (20, false))⟩,
    ⟨(some 23), .bin .gtr (.tmp 22) (.const (.int .i64 100)), (some (20, false))⟩,
    ⟨(some 24), .pick (.tmp 20) (.const (.bool true)) (.tmp 23), none⟩])
  (.cond (.tmp 24)
    (.seq (.region [
      ⟨(some 25), .call 19 [], none⟩,
      ⟨(some 8), .mv (.tmp 25), none⟩])
    (.ret))
    (.skip)))
  (.seq (.region [
    ⟨(some 26), .mv (.tmp 0), none⟩,
    ⟨(some 27), .lenS (.tmp 26), none⟩,
    ⟨(some 28), .call 14 [(.tmp 27)], none⟩,
    ⟨(some 9), .mv (.tmp 28), none⟩])
  (.seq (.seq (.region [
    ⟨(some 29), .mv (.tmp 0), none⟩,
    ⟨(some 30), .lenS (.tmp 29), none⟩,
    ⟨(some 31), .mv (.const (.int .i64 0)), none⟩])
  (.block 0 (.loop (.seq (.region [
      ⟨(some 32), .bin .lss (.tmp 31) (.tmp 30), none⟩])
    (.seq (.cond (.tmp 32)
      (.skip)
      (.exit 0))
    (.seq (.block 1 (.seq (.region [
      ⟨(some 33), .mv (.tmp 31), none⟩,
      ⟨(some 34), .idxAddr 1 none (.tmp 29) (.tmp 31), none⟩,
      ⟨(some 35), .load1 (.tmp 34), none⟩,
      ⟨(some 10), .mv (.tmp 33), none⟩,
      ⟨(some 11), .mv (.tmp 35), none⟩])
    (.region [
      ⟨(some 36), .mv (.tmp 9), none⟩,
      ⟨(some 37), .mv (.tmp 10), none⟩,
      ⟨(some 38), .mv (.tmp 11), none⟩,
      ⟨(some 39), .call 23 [(.tmp 36), (.tmp 37), (.tmp 38)], none⟩])))
    (.region [
      ⟨(some 40), .bin .add (.tmp 31) (.const (.int .i64 1)), none⟩,
      ⟨(some 31), .mv (.tmp 40), none⟩])))))))
  (.seq (.region [
    ⟨(some 41), .mv (.tmp 9), none⟩,
    ⟨(some 42), .call 30 [(.tmp 41)], none⟩,
    ⟨(some 12), .mv (.tmp 42), none⟩])
  (.seq (.region [
    ⟨(some 43), .mv (.tmp 1), none⟩,
    ⟨(some 44), .bin .geq (.tmp 43) (.const (.int .i64 0)), none⟩,
    ⟨(some 45), .mv (.tmp 44), none⟩,
    ⟨(some 46), .mv (.tmp 1), (some (45, true))⟩,
    ⟨(some 47), .mv (.tmp 0), (some (45, true))⟩,
    ⟨(some 48), .lenS (.tmp 47), (some (45, true))⟩,
    ⟨(some 49), .bin .lss (.tmp 46) (.tmp 48), (some (45, true))⟩,
    ⟨(some 50), .pick (.tmp 45) (.tmp 49) (.const (.bool false)), none⟩,
    ⟨(some 51), .mv (.tmp 50), none⟩,
    ⟨(some 52), .mv (.tmp 0), (some (51, true))⟩,
    ⟨(some 53), .mv (.tmp 1), (some (51, true))⟩,
    ⟨(some 54), .idxAddr 1 none (.tmp 52) (.tmp 53), (some (51, true))⟩,
    ⟨(some 55), .load1 (.tmp 54), (some (51, true))⟩,
    ⟨(some 56), .mv (.tmp 3), (some (51, true))⟩,
    ⟨(some 57), .bin .neq (.tmp 55) (.tmp 56), (some (51, true))⟩,
    ⟨(some 58), .pick (.tmp 51) (.tmp 57) (.const (.bool false)), none⟩,
    ⟨(some 13), .mv (.tmp 58), none⟩])
  (.seq (.region [
    ⟨(some 59), .mv (.tmp 9), none⟩,
    ⟨(some 60), .mv (.tmp 1), none⟩,
    ⟨(some 61), .mv (.tmp 3), none⟩,
    ⟨(some 62), .call 23 [(.tmp 59), (.tmp 60), (.tmp 61)], none⟩])
  (.seq (.seq (.region [
    ⟨(some 63), .mv (.tmp 9), none⟩,
    ⟨(some 64), .mv (.tmp 12), none⟩,
    ⟨(some 65), .call 31 [(.tmp 63), (.tmp 64)], none⟩,
    ⟨(some 66), .mv (.tmp 13), none⟩,
    ⟨(some 67), .eqBool false (.tmp 65) (.tmp 66), none⟩,
    ⟨(some 68), .mv (.tmp 67), none⟩,
    ⟨(some 69), .mv (.tmp 12), (some (68, false))⟩,
    ⟨(some 70), .mv (.tmp 9), (some (68, false))⟩,
    ⟨(some 71), .call 31 [(.tmp 69), (.tmp 70)], (some (68, false))⟩,
    ⟨(some 72), .mv (.tmp 13), (some (68, false))⟩,
    ⟨(some 73), .eqBool false (.tmp 71) (.tmp 72), (some (68, false))⟩,
    ⟨(some 74), .pick (.tmp 68) (.const (.bool true)) (.tmp 73), none⟩,
    ⟨(some 75), .mv (.tmp 74), none⟩,
    ⟨(some 76), .mv (.tmp 9), (some (75, false))⟩,
    ⟨(some 77), .mv (.tmp 9), (some (75, false))⟩,
    ⟨(some 78), .call 30 [(.tmp 77)], (some (75, false))⟩,
    ⟨(some 79), .call 31 [(.tmp 76), (.tmp 78)], (some (75, false))⟩,
    ⟨(some 80), .un .not (.tmp 79), (some (75, false))⟩,
    ⟨(some 81), .pick (.tmp 75) (.const (.bool true)) (.tmp 80), none⟩,
    ⟨(some 82), .mv (.tmp 81), none⟩,
    ⟨(some 83), .mv (.tmp 9), (some (82, false))⟩,
    ⟨(some 84), .mv (.tmp 0), (some (82, false))⟩,
    ⟨(some 85), .lenS (.tmp 84), (some (82, false))⟩,
    ⟨(some 86), .bin .add (.tmp 85) (.const (.int .i64 1)), (some (82, false))⟩,
    ⟨(some 87), .call 14 [(.tmp 86)], (some (82, false))⟩,
    ⟨(some 88), .call 31 [(.tmp 83), (.tmp 87)], (some (82, false))⟩,
    ⟨(some 89), .pick (.tmp 82) (.const (.bool true)) (.tmp 88), none⟩])
  (.cond (.tmp 89)
    (.seq (.region [
      ⟨(some 8), .mv (.const (.bool false)), none⟩])
    (.ret))
    (.skip)))
  (.seq (.seq (.region [
    ⟨(some 90), .mv (.tmp 0), none⟩,
    ⟨(some 91), .lenS (.tmp 90), none⟩,
    ⟨(some 92), .mv (.const (.int .i64 0)), none⟩])
  (.block 2 (.loop (.seq (.region [
      ⟨(some 93), .bin .lss (.tmp 92) (.tmp 91), none⟩])
    (.seq (.cond (.tmp 93)
      (.skip)
      (.exit 2))
    (.seq (.block 3 (.seq (.region [
      ⟨(some 94), .mv (.tmp 92), none⟩,
      ⟨(some 95), .idxAddr 1 none (.tmp 90) (.tmp 92), none⟩,
      ⟨(some 96), .load1 (.tmp 95), none⟩,
      ⟨(some 14), .mv (.tmp 94), none⟩,
      ⟨(some 15), .mv (.tmp 96), none⟩])
    (.seq (.region [
      ⟨(some 97), .mv (.tmp 15), none⟩,
      ⟨(some 16), .mv (.tmp 97), none⟩])
    (.seq (.seq (.region [
      ⟨(some 98), .mv (.tmp 14), none⟩,
      ⟨(some 99), .mv (.tmp 1), none⟩,
      ⟨(some 100), .bin .eql (.tmp 98) (.tmp 99), none⟩])
    (.cond (.tmp 100)
      (.region [
        ⟨(some 101), .mv (.tmp 3), none⟩,
        ⟨(some 16), .mv (.tmp 101), none⟩])
      (.skip)))
    (.seq (.region [
      ⟨(some 102), .mv (.tmp 9), none⟩,
      ⟨(some 103), .mv (.tmp 14), none⟩,
      ⟨(some 104), .call 21 [(.tmp 102), (.tmp 103)], none⟩,
      ⟨(some 105), .mv (.tmp 16), none⟩,
      ⟨(some 106), .bin .neq (.tmp 104) (.tmp 105), none⟩,
      ⟨(some 107), .mv (.tmp 106), none⟩,
      ⟨(some 108), .mv (.tmp 12), (some (107, false))⟩,
      ⟨(some 109), .mv (.tmp 14), (some (107, false))⟩,
      ⟨(some 110), .call 21 [(.tmp 108), (.tmp 109)], (some (107, false))⟩,
      ⟨(some 111), .mv (.tmp 15), (some (107, false))⟩,
      ⟨(some 112), .bin .neq (.tmp 110) (.tmp 111), (some (107, false))⟩,
      ⟨(some 113), .pick (.tmp 107) (.const (.bool true)) (.tmp 112), none⟩])
    (.cond (.tmp 113)
      (.seq (.region [
        ⟨(some 8), .mv (.const (.bool false)), none⟩])
      (.ret))
      (.skip)))))))
    (.region [
      ⟨(some 114), .bin .add (.tmp 92) (.const (.int .i64 1)), none⟩,
      ⟨(some 92), .mv (.tmp 114), none⟩])))))))
  (.seq (.region [
    ⟨(some 115), .mv (.tmp 12), none⟩,
    ⟨(some 116), .mv (.tmp 2), none⟩,
    ⟨(some 117), .call 21 [(.tmp 115), (.tmp 116)], none⟩,
    ⟨(some 17), .mv (.tmp 117), none⟩])
  (.seq (.region [
    ⟨(some 118), .mv (.tmp 9), none⟩,
    ⟨(some 119), .mv (.tmp 2), none⟩,
    ⟨(some 120), .mv (.tmp 9), none⟩,
    ⟨(some 121), .mv (.tmp 2), none⟩,
    ⟨(some 122), .call 21 [(.tmp 120), (.tmp 121)], none⟩,
    ⟨(some 123), .bin .add (.tmp 122) (.const (.int .u64 1)), none⟩,
    ⟨(some 124), .mv (.tmp 3), none⟩,
    ⟨(some 125), .call 24 [(.tmp 118), (.tmp 119), (.tmp 123), (.tmp 124)], none⟩,
    ⟨(some 126), .un .not (.tmp 125), none⟩,
    ⟨(some 127), .mv (.tmp 126), none⟩,
    ⟨(some 128), .mv (.tmp 12), (some (127, true))⟩,
    ⟨(some 129), .mv (.tmp 2), (some (127, true))⟩,
    ⟨(some 130), .call 21 [(.tmp 128), (.tmp 129)], (some (127, true))⟩,
    ⟨(some 131), .mv (.tmp 17), (some (127, true))⟩,
    ⟨(some 132), .bin .eql (.tmp 130) (.tmp 131), (some (127, true))⟩,
    ⟨(some 133), .pick (.tmp 127) (.tmp 132) (.const (.bool false)), none⟩,
    ⟨(some 8), .mv (.tmp 133), none⟩])
  (.ret)))))))))))⟩

/-- 'hostler/hostlerlaw01.CellBounds' -/
def F12 : AFunc := ⟨131, [.tmp 4],
  .seq (.region [
    ⟨(some 4), .mv (.const (.bool false)), none⟩])
  (.seq (.seq (.region [
    ⟨(some 9), .call 19 [], none⟩,
    ⟨(some 10), .un .not (.tmp 9), none⟩])
  (.cond (.tmp 10)
    (.seq (.region [
      ⟨(some 4), .mv (.const (.bool false)), none⟩])
    (.ret))
    (.skip)))
  (.seq (.seq (.region [
    ⟨(some 11), .mv (.tmp 0), none⟩,
    ⟨(some 12), .bin .gtr (.tmp 11) (.const (.int .i64 65536)), none⟩,
    ⟨(some 13), .mv (.tmp 12), none⟩,
    ⟨(some 14), .mv (.tmp 0), (some (13, true))⟩,
    ⟨(some 15), .bin .lss (.tmp 14) (.const (.int .i64 1073741824)), (some (13, true))⟩,
    ⟨(some 16), .pick (.tmp 13) (.tmp 15) (.const (.bool false)), none⟩,
    ⟨(some 17), .mv (.tmp 16), none⟩,
    ⟨(some 18), .mv (.tmp 0), (some (17, false))⟩,
    ⟨(some 19), .bin .gtr (.tmp 18) (.const (.int .i64 3000)), (some (17, false))⟩,
    ⟨(some 20), .mv (.tmp 19), (some (17, false))⟩,
    ⟨(some 21), .mv (.tmp 0), (some (20, true))⟩,
    ⟨(some 22), .bin .leq (.tmp 21) (.const (.int .i64 65536)), (some (20, true))⟩,
    ⟨(some 23), .pick (.tmp 20) (.tmp 22) (.const (.bool false)), (some (17, false))⟩,
    ⟨(some 24), .pick (.tmp 17) (.const (.bool true)) (.tmp 23), none⟩])
  (.cond (.tmp 24)
    (.region [
      ⟨(some 25), .mv (.tmp 0), none⟩,
      ⟨(some 26), .bin .rem (.tmp 25) (.const (.int .i64 2)), none⟩,
      ⟨(some 27), .bin .add (.const (.int .i64 65536)) (.tmp 26), none⟩,
      ⟨(some 0), .mv (.tmp 27), none⟩])
    (.skip)))
  (.seq (.region [
    ⟨(some 28), .mv (.tmp 0), none⟩,
    ⟨(some 29), .call 14 [(.tmp 28)], none⟩,
    ⟨(some 5), .mv (.tmp 29), none⟩])
  (.seq (.region [
    ⟨(some 30), .mv (.tmp 0), none⟩,
    ⟨(some 31), .max2 (.const (.int .i64 0)) (.tmp 30), none⟩,
    ⟨(some 32), .min2 (.tmp 31) (.const (.int .i64 65536)), none⟩,
    ⟨(some 6), .mv (.tmp 32), none⟩])
  (.seq (.seq (.region [
    ⟨(some 33), .mv (.tmp 5), none⟩,
    ⟨(some 34), .call 29 [(.tmp 33)], none⟩,
    ⟨(some 35), .mv (.tmp 6), none⟩,
    ⟨(some 36), .bin .neq (.tmp 34) (.tmp 35), none⟩])
  (.cond (.tmp 36)
    (.seq (.region [
      ⟨(some 4), .mv (.const (.bool false)), none⟩])
    (.ret))
    (.skip)))
  (.seq (.region [
    ⟨(some 37), .mv (.tmp 1), none⟩,
    ⟨(some 38), .bin .geq (.tmp 37) (.const (.int .i64 0)), none⟩,
    ⟨(some 39), .mv (.tmp 38), none⟩,
    ⟨(some 40), .mv (.tmp 1), (some (39, true))⟩,
    ⟨(some 41), .mv (.tmp 6), (some (39, true))⟩,
    ⟨(some 42), .bin .lss (.tmp 40) (.tmp 41), (some (39, true))⟩,
    ⟨(some 43), .pick (.tmp 39) (.tmp 42) (.const (.bool false)), none⟩,
    ⟨(some 7), .mv (.tmp 43), none⟩])
  (.seq (.seq (.region [
    ⟨(some 44), .mv (.tmp 5), none⟩,
    ⟨(some 45), .mv (.tmp 1), none⟩,
    ⟨(some 46), .call 23 [(.tmp 44), (.tmp 45), (.const (.int .u64 7))], none⟩,
    ⟨(some 47), .mv (.tmp 7), none⟩,
    ⟨(some 48), .eqBool true (.tmp 46) (.tmp 47), none⟩,
    ⟨(some 49), .mv (.tmp 48), none⟩,
    ⟨(some 50), .mv (.tmp 5), (some (49, false))⟩,
    ⟨(some 51), .mv (.tmp 1), (some (49, false))⟩,
    ⟨(some 52), .call 21 [(.tmp 50), (.tmp 51)], (some (49, false))⟩,
    ⟨(some 53), .bin .eql (.tmp 52) (.const (.int .u64 7)), (some (49, false))⟩,
    ⟨(some 54), .mv (.tmp 7), (some (49, false))⟩,
    ⟨(some 55), .eqBool true (.tmp 53) (.tmp 54), (some (49, false))⟩,
    ⟨(some 56), .pick (.tmp 49) (.const (.bool true)) (.tmp 55), none⟩,
    ⟨(some 57), .mv (.tmp 56), none⟩,
    ⟨(some 58), .mv (.tmp 5), (some (57, false))⟩,
    ⟨(some 59), .mv (.tmp 1), (some (57, false))⟩,
    ⟨(some 60), .call 24 [(.tmp 58), (.tmp 59), (.const (.int .u64 7)), (.const (.int .u64 8))], (some (57, false))⟩,
    ⟨(some 61), .mv (.tmp 7), (some (57, false))⟩,
    ⟨(some 62), .eqBool true (.tmp 60) (.tmp 61), (some (57, false))⟩,
    ⟨(some 63), .pick (.tmp 57) (.const (.bool true)) (.tmp 62), none⟩,
    ⟨(some 64), .mv (.tmp 63), none⟩,
    ⟨(some 65), .mv (.tmp 5), (some (64, false))⟩,
    ⟨(some 66), .mv (.tmp 1), (some (64, false))⟩,
    ⟨(some 67), .call 20 [(.tmp 65), (.tmp 66), (.const (.int .i64 1))], (some (64, false))⟩,
    ⟨(some 68), .bin .eql (.tmp 67) (.const (.int .u64 9)), (some (64, false))⟩,
    ⟨(some 69), .mv (.tmp 7), (some (64, false))⟩,
    ⟨(some 70), .eqBool true (.tmp 68) (.tmp 69), (some (64, false))⟩,
    ⟨(some 71), .pick (.tmp 64) (.const (.bool true)) (.tmp 70), none⟩])
  (.cond (.tmp 71)
    (.seq (.region [
      ⟨(some 4), .mv (.const (.bool false)), none⟩])
    (.ret))
    (.skip)))
  (.seq (.region [
    ⟨(some 8), .mv (.const .nilptr), none⟩])
  (.seq (.region [
    ⟨(some 72), .mv (.tmp 8), none⟩,
    ⟨(some 73), .call 29 [(.tmp 72)], none⟩,
    ⟨(some 74), .bin .eql (.tmp 73) (.const (.int .i64 0)), none⟩,
    ⟨(some 75), .mv (.tmp 74), none⟩,
    ⟨(some 76), .mv (.tmp 8), (some (75, true))⟩,
    ⟨(some 77), .mv (.tmp 1), (some (75, true))⟩,
    ⟨(some 78), .call 21 [(.tmp 76), (.tmp 77)], (some (75, true))⟩,
    ⟨(some 79), .bin .eql (.tmp 78) (.const (.int .u64 0)), (some (75, true))⟩,
    ⟨(some 80), .pick (.tmp 75) (.tmp 79) (.const (.bool false)), none⟩,
    ⟨(some 81), .mv (.tmp 80), none⟩,
    ⟨(some 82), .mv (.tmp 8), (some (81, true))⟩,
    ⟨(some 83), .mv (.tmp 1), (some (81, true))⟩,
    ⟨(some 84), .call 23 [(.tmp 82), (.tmp 83), (.const (.int .u64 1))], (some (81, true))⟩,
    ⟨(some 85), .un .not (.tmp 84), (some (81, true))⟩,
    ⟨(some 86), .pick (.tmp 81) (.tmp 85) (.const (.bool false)), none⟩,
    ⟨(some 87), .mv (.tmp 86), none⟩,
    ⟨(some 88), .mv (.tmp 8), (some (87, true))⟩,
    ⟨(some 89), .mv (.tmp 1), (some (87, true))⟩,
    ⟨(some 90), .call 24 [(.tmp 88), (.tmp 89), (.const (.int .u64 0)), (.const (.int .u64 1))], (some (87, true))⟩,
    ⟨(some 91), .un .not (.tmp 90), (some (87, true))⟩,
    ⟨(some 92), .pick (.tmp 87) (.tmp 91) (.const (.bool false)), none⟩,
    ⟨(some 93), .mv (.tmp 92), none⟩,
    ⟨(some 94), .mv (.tmp 8), (some (93, true))⟩,
    ⟨(some 95), .mv (.tmp 1), (some (93, true))⟩,
    ⟨(some 96), .call 20 [(.tmp 94), (.tmp 95), (.const (.int .i64 1))], (some (93, true))⟩,
    ⟨(some 97), .bin .eql (.tmp 96) (.const (.int .u64 0)), (some (93, true))⟩,
    ⟨(some 98), .pick (.tmp 93) (.tmp 97) (.const (.bool false)), none⟩,
    ⟨(some 99), .mv (.tmp 98), none⟩,
    ⟨(some 100), .mv (.tmp 8), (some (99, true))⟩,
    ⟨(some 101), .call 22 [(.tmp 100)], (some (99, true))⟩,
    ⟨(some 102), .bin .eql (.tmp 101) (.const (.int .i64 0)), (some (99, true))⟩,
    ⟨(some 103), .pick (.tmp 99) (.tmp 102) (.const (.bool false)), none⟩,
    ⟨(some 104), .mv (.tmp 103), none⟩,
    ⟨(some 105), .mv (.tmp 8), (some (104, true))⟩,
    ⟨(some 106), .call 30 [(.tmp 105)], (some (104, true))⟩,
    ⟨(some 107), .cmpNil false 0 (.tmp 106) (.const .nilptr), (some (104, true))⟩,
    ⟨(some 108), .pick (.tmp 104) (.tmp 107) (.const (.bool false)), none⟩,
    ⟨(some 109), .mv (.tmp 108), none⟩,
    ⟨(some 110), .mv (.tmp 8), (some (109, true))⟩,
    ⟨(some 111), .call 14 [(.const (.int .i64 0))], (some (109, true))⟩,
    ⟨(some 112), .call 31 [(.tmp 110), (.tmp 111)], (some (109, true))⟩,
    ⟨(some 113), .pick (.tmp 109) (.tmp 112) (.const (.bool false)), none⟩,
    ⟨(some 114), .mv (.tmp 113), none⟩,
    ⟨(some 115), .mv (.tmp 7), (some (114, true))⟩,
    ⟨(some 116), .mv (.tmp 115), (some (114, true))⟩,
    ⟨(some 117), .mv (.tmp 5), (some (116, true))⟩,
    ⟨(some 118), .call 22 [(.tmp 117)], (some (116, true))⟩,
    ⟨(some 119), .bin .eql (.tmp 118) (.const (.int .i64 4)), (some (116, true))⟩,
    ⟨(some 120), .pick (.tmp 116) (.tmp 119) (.const (.bool false)), (some (114, true))⟩,
    ⟨(some 121), .mv (.tmp 120), (some (114, true))⟩,
    ⟨(some 122), .mv (.tmp 7), (some (121, false))⟩,
    ⟨(some 123), .un .not (.tmp 122), (some (121, false))⟩,
    ⟨(some 124), .mv (.tmp 123), (some (121, false))⟩,
    ⟨(some 125), .mv (.tmp 5), (some (124, true))⟩,
    ⟨(some 126), .call 22 [(.tmp 125)], (some (124, true))⟩,
    ⟨(some 127), .bin .eql (.tmp 126) (.const (.int .i64 0)), (some (124, true))⟩,
    ⟨(some 128), .pick (.tmp 124) (.tmp 127) (.const (.bool false)), (some (121, false))⟩,
    ⟨(some 129), .pick (.tmp 121) (.const (.bool true)) (.tmp 128), (some (114, true))⟩,
    ⟨(some 130), .pick (.tmp 114) (.tmp 129) (.const (.bool false)), none⟩,
    ⟨(some 4), .mv (.tmp 130), none⟩])
  (.ret))))))))))⟩

/-- 'hostler/hostlerlaw04.lives' -/
def F13 : AFunc := ⟨24, [.tmp 0],
  .seq (.region [
    ⟨(some 0), .mv (.const (.bool false)), none⟩])
  (.seq (.region [
    ⟨(some 3), .call 14 [(.const (.int .i64 1))], none⟩,
    ⟨(some 1), .mv (.tmp 3), none⟩])
  (.seq (.region [
    ⟨(some 4), .build [(.int .i64 0), (.int .i64 0)] [((1, 1), (.const (.int .i64 9223372036854775807)))], none⟩,
    ⟨(some 2), .alloc [(.int .i64 0), (.int .i64 0)], none⟩,
    ⟨none, .store 2 (.tmp 2) (.tmp 4), none⟩])
  (.seq (.region [
    ⟨(some 5), .mv (.tmp 1), none⟩,
    ⟨(some 6), .call 15 [(.tmp 5), (.const (.int .i64 0))], none⟩,
    ⟨(some 7), .mv (.tmp 6), none⟩,
    ⟨(some 8), .mv (.tmp 1), (some (7, true))⟩,
    ⟨(some 9), .call 15 [(.tmp 8), (.const (.int .i64 0))], (some (7, true))⟩,
    ⟨(some 10), .un .not (.tmp 9), (some (7, true))⟩,
    ⟨(some 11), .pick (.tmp 7) (.tmp 10) (.const (.bool false)), none⟩,
    ⟨(some 12), .mv (.tmp 11), none⟩,
    ⟨(some 13), .loadN 2 (.tmp 2), (some (12, true))⟩,
    ⟨(some 14), .mv (.tmp 1), (some (12, true))⟩,
    ⟨(some 15), .call 16 [(.tmp 13), (.tmp 14), (.const (.int .i64 0))], (some (12, true))⟩,
    ⟨(some 16), .bin .eql (.tmp 15) (.const (.int .i64 1)), (some (12, true))⟩,
    ⟨(some 17), .pick (.tmp 12) (.tmp 16) (.const (.bool false)), none⟩,
    ⟨(some 18), .mv (.tmp 17), none⟩,
    ⟨(some 19), .loadN 2 (.tmp 2), (some (18, true))⟩,
    ⟨(some 20), .mv (.tmp 1), (some (18, true))⟩,
    ⟨(some 21), .call 16 [(.tmp 19), (.tmp 20), (.const (.int .i64 0))], (some (18, true))⟩,
    ⟨(some 22), .bin .eql (.tmp 21) (.const (.int .i64 0)), (some (18, true))⟩,
    ⟨(some 23), .pick (.tmp 18) (.tmp 22) (.const (.bool false)), none⟩,
    ⟨(some 0), .mv (.tmp 23), none⟩])
  (.ret))))⟩

/-- 'hostler/cell.New' -/
def F14 : AFunc := ⟨9, [.tmp 2],
  .seq (.region [
    ⟨(some 2), .mv (.const .nilptr), none⟩])
  (.seq (.region [
    ⟨(some 3), .mv (.tmp 0), none⟩,
    ⟨(some 4), .max2 (.const (.int .i64 0)) (.tmp 3), none⟩,
    ⟨(some 5), .min2 (.tmp 4) (.const (.int .i64 65536)), none⟩,
    ⟨(some 6), .mkslice 1 8 [(.int .u64 0)] (.tmp 5) (.tmp 5), none⟩,
    ⟨(some 7), .build [.nilslice, (.int .i64 0)] [((0, 1), (.tmp 6))], none⟩,
    ⟨(some 8), .box (.tmp 7), none⟩,
    ⟨(some 2), .mv (.tmp 8), none⟩])
  (.ret))⟩

/-- 'hostler/note.Wake' -/
def F15 : AFunc := ⟨8, [.tmp 4],
  .seq (.region [
    ⟨(some 4), .mv (.const (.bool false)), none⟩])
  (.seq (.region [
    ⟨(some 5), .mv (.tmp 0), none⟩,
    ⟨(some 6), .mv (.tmp 1), none⟩,
    ⟨(some 7), .call 24 [(.tmp 5), (.tmp 6), (.const (.int .u64 0)), (.const (.int .u64 1))], none⟩,
    ⟨(some 4), .mv (.tmp 7), none⟩])
  (.ret))⟩

/-- '(hostler/note.Sleeper).Step' -/
def F16 : AFunc := ⟨16, [.tmp 6],
  .seq (.region [
    ⟨(some 3), .box (.tmp 0), none⟩,
    ⟨(some 6), .mv (.const (.int .i64 0)), none⟩])
  (.seq (.block 0 (.seq (.region [
    ⟨(some 8), .mv (.tmp 1), none⟩,
    ⟨(some 9), .fieldAddr 0 (.tmp 3), none⟩,
    ⟨(some 10), .load1 (.tmp 9), none⟩,
    ⟨(some 11), .call 24 [(.tmp 8), (.tmp 10), (.const (.int .u64 1)), (.const (.int .u64 0))], none⟩,
    ⟨(some 7), .mv (.tmp 11), none⟩])
  (.cond (.tmp 7)
    (.seq (.region [
      ⟨(some 6), .mv (.const (.int .i64 1)), none⟩])
    (.ret))
    (.seq (.region [
      ⟨(some 13), .loadN 2 (.tmp 3), none⟩,
      ⟨(some 14), .mv (.tmp 2), none⟩,
      ⟨(some 15), .call 17 [(.tmp 13), (.tmp 14)], none⟩,
      ⟨(some 12), .mv (.tmp 15), none⟩])
    (.cond (.tmp 12)
      (.seq (.region [
        ⟨(some 6), .mv (.const (.int .i64 2)), none⟩])
      (.ret))
      (.skip))))))
  (.seq (.region [
    ⟨(some 6), .mv (.const (.int .i64 0)), none⟩])
  (.ret)))⟩

/-- '(hostler/note.Sleeper).Due' -/
def F17 : AFunc := ⟨14, [.tmp 4],
  .seq (.region [
    ⟨(some 2), .box (.tmp 0), none⟩,
    ⟨(some 4), .mv (.const (.bool false)), none⟩])
  (.seq (.region [
    ⟨(some 5), .fieldAddr 1 (.tmp 2), none⟩,
    ⟨(some 6), .load1 (.tmp 5), none⟩,
    ⟨(some 7), .bin .neq (.tmp 6) (.const (.int .i64 9223372036854775807)), none⟩,
    ⟨(some 8), .mv (.tmp 7), none⟩,
    ⟨(some 9), .mv (.tmp 1), (some (8, true))⟩,
    ⟨(some 10), .fieldAddr 1 (.tmp 2), (some (8, true))⟩,
    ⟨(some 11), .load1 (.tmp 10), (some (8, true))⟩,
    ⟨(some 12), .bin .geq (.tmp 9) (.tmp 11), (some (8, true))⟩,
    ⟨(some 13), .pick (.tmp 8) (.tmp 12) (.const (.bool false)), none⟩,
    ⟨(some 4), .mv (.tmp 13), none⟩])
  (.ret))⟩

/-- 'hostler/note.Is' -/
def F18 : AFunc := ⟨9, [.tmp 4],
  .seq (.region [
    ⟨(some 4), .mv (.const (.bool false)), none⟩])
  (.seq (.region [
    ⟨(some 5), .mv (.tmp 0), none⟩,
    ⟨(some 6), .mv (.tmp 1), none⟩,
    ⟨(some 7), .call 21 [(.tmp 5), (.tmp 6)], none⟩,
    ⟨(some 8), .bin .eql (.tmp 7) (.const (.int .u64 1)), none⟩,
    ⟨(some 4), .mv (.tmp 8), none⟩])
  (.ret))⟩

/-- 'hostler/hostlerlaw01.lives' -/
def F19 : AFunc := ⟨15, [.tmp 0],
  .seq (.region [
    ⟨(some 0), .mv (.const (.bool false)), none⟩])
  (.seq (.region [
    ⟨(some 2), .call 14 [(.const (.int .i64 2))], none⟩,
    ⟨(some 1), .mv (.tmp 2), none⟩])
  (.seq (.region [
    ⟨(some 3), .mv (.tmp 1), none⟩,
    ⟨(some 4), .cmpNil true 0 (.tmp 3) (.const .nilptr), none⟩,
    ⟨(some 5), .mv (.tmp 4), none⟩,
    ⟨(some 6), .mv (.tmp 1), (some (5, true))⟩,
    ⟨(some 7), .call 20 [(.tmp 6), (.const (.int .i64 1)), (.const (.int .i64 (-1)))], (some (5, true))⟩,
    ⟨(some 8), .bin .eql (.tmp 7) (.const (.int .u64 18446744073709551615)), (some (5, true))⟩,
    ⟨(some 9), .pick (.tmp 5) (.tmp 8) (.const (.bool false)), none⟩,
    ⟨(some 10), .mv (.tmp 9), none⟩,
    ⟨(some 11), .mv (.tmp 1), (some (10, true))⟩,
    ⟨(some 12), .call 24 [(.tmp 11), (.const (.int .i64 1)), (.const (.int .u64 0)), (.const (.int .u64 5))], (some (10, true))⟩,
    ⟨(some 13), .un .not (.tmp 12), (some (10, true))⟩,
    ⟨(some 14), .pick (.tmp 10) (.tmp 13) (.const (.bool false)), none⟩,
    ⟨(some 0), .mv (.tmp 14), none⟩])
  (.ret)))⟩

/-- '(*hostler/cell.Memory).Add' -/
def F20 : AFunc := ⟨23, [.tmp 6],
  .seq (.region [
    ⟨(some 6), .mv (.const (.int .u64 0)), none⟩])
  (.seq (.region [
    ⟨(some 8), .mv (.tmp 0), none⟩,
    ⟨(some 9), .mv (.tmp 1), none⟩,
    ⟨(some 10), .call 32 [(.tmp 8), (.tmp 9)], none⟩,
    ⟨(some 7), .mv (.tmp 10), none⟩])
  (.seq (.seq (.region [
    ⟨(some 11), .mv (.tmp 7), none⟩,
    ⟨(some 12), .cmpNil false 0 (.tmp 11) (.const .nilptr), none⟩])
  (.cond (.tmp 12)
    (.seq (.region [
      ⟨(some 6), .mv (.const (.int .u64 0)), none⟩])
    (.ret))
    (.skip)))
  (.seq (.region [
    ⟨(some 13), .mv (.tmp 7), none⟩,
    ⟨(some 14), .nilCheck (.tmp 13), none⟩,
    ⟨(some 15), .load1 (.tmp 14), none⟩,
    ⟨(some 16), .mv (.tmp 2), none⟩,
    ⟨(some 17), .toInt .u64 (.tmp 16), none⟩,
    ⟨(some 18), .bin .add (.tmp 15) (.tmp 17), none⟩,
    ⟨(some 19), .nilCheck (.tmp 13), none⟩,
    ⟨none, .store 1 (.tmp 19) (.tmp 18), none⟩])
  (.seq (.region [
    ⟨(some 20), .mv (.tmp 7), none⟩,
    ⟨(some 21), .nilCheck (.tmp 20), none⟩,
    ⟨(some 22), .load1 (.tmp 21), none⟩,
    ⟨(some 6), .mv (.tmp 22), none⟩])
  (.ret)))))⟩

/-- '(*hostler/cell.Memory).Load' -/
def F21 : AFunc := ⟨14, [.tmp 4],
  .seq (.region [
    ⟨(some 4), .mv (.const (.int .u64 0)), none⟩])
  (.seq (.seq (.region [
    ⟨(some 6), .mv (.tmp 0), none⟩,
    ⟨(some 7), .mv (.tmp 1), none⟩,
    ⟨(some 8), .call 32 [(.tmp 6), (.tmp 7)], none⟩,
    ⟨(some 5), .mv (.tmp 8), none⟩])
  (.seq (.region [
    ⟨(some 9), .mv (.tmp 5), none⟩,
    ⟨(some 10), .cmpNil true 0 (.tmp 9) (.const .nilptr), none⟩])
  (.cond (.tmp 10)
    (.seq (.region [
      ⟨(some 11), .mv (.tmp 5), none⟩,
      ⟨(some 12), .nilCheck (.tmp 11), none⟩,
      ⟨(some 13), .load1 (.tmp 12), none⟩,
      ⟨(some 4), .mv (.tmp 13), none⟩])
    (.ret))
    (.skip))))
  (.seq (.region [
    ⟨(some 4), .mv (.const (.int .u64 0)), none⟩])
  (.ret)))⟩

/-- '(*hostler/cell.Memory).Count' -/
def F22 : AFunc := ⟨9, [.tmp 2],
  .seq (.region [
    ⟨(some 2), .mv (.const (.int .i64 0)), none⟩])
  (.seq (.seq (.region [
    ⟨(some 3), .mv (.tmp 0), none⟩,
    ⟨(some 4), .cmpNil false 0 (.tmp 3) (.const .nilptr), none⟩])
  (.cond (.tmp 4)
    (.seq (.region [
      ⟨(some 2), .mv (.const (.int .i64 0)), none⟩])
    (.ret))
    (.skip)))
  (.seq (.region [
    ⟨(some 5), .mv (.tmp 0), none⟩,
    ⟨(some 6), .nilCheck (.tmp 5), none⟩,
    ⟨(some 7), .fieldAddr 1 (.tmp 6), none⟩,
    ⟨(some 8), .load1 (.tmp 7), none⟩,
    ⟨(some 2), .mv (.tmp 8), none⟩])
  (.ret)))⟩

/-- '(*hostler/cell.Memory).Store' -/
def F23 : AFunc := ⟨18, [.tmp 6],
  .seq (.region [
    ⟨(some 6), .mv (.const (.bool false)), none⟩])
  (.seq (.region [
    ⟨(some 8), .mv (.tmp 0), none⟩,
    ⟨(some 9), .mv (.tmp 1), none⟩,
    ⟨(some 10), .call 32 [(.tmp 8), (.tmp 9)], none⟩,
    ⟨(some 7), .mv (.tmp 10), none⟩])
  (.seq (.seq (.region [
    ⟨(some 11), .mv (.tmp 7), none⟩,
    ⟨(some 12), .cmpNil true 0 (.tmp 11) (.const .nilptr), none⟩])
  (.cond (.tmp 12)
    (.region [
      ⟨(some 13), .mv (.tmp 7), none⟩,
      ⟨(some 14), .mv (.tmp 2), none⟩,
      ⟨(some 15), .nilCheck (.tmp 13), none⟩,
      ⟨none, .store 1 (.tmp 15) (.tmp 14), none⟩])
    (.skip)))
  (.seq (.region [
    ⟨(some 16), .mv (.tmp 7), none⟩,
    ⟨(some 17), .cmpNil true 0 (.tmp 16) (.const .nilptr), none⟩,
    ⟨(some 6), .mv (.tmp 17), none⟩])
  (.ret))))⟩

/-- '(*hostler/cell.Memory).Swap' -/
def F24 : AFunc := ⟨25, [.tmp 8],
  .seq (.region [
    ⟨(some 8), .mv (.const (.bool false)), none⟩])
  (.seq (.region [
    ⟨(some 10), .mv (.tmp 0), none⟩,
    ⟨(some 11), .mv (.tmp 1), none⟩,
    ⟨(some 12), .call 32 [(.tmp 10), (.tmp 11)], none⟩,
    ⟨(some 9), .mv (.tmp 12), none⟩])
  (.seq (.seq (.region [
    ⟨(some 13), .mv (.tmp 9), none⟩,
    ⟨(some 14), .cmpNil false 0 (.tmp 13) (.const .nilptr), none⟩,
    ⟨(some 15), .mv (.tmp 14), none⟩,
    ⟨(some 16), .mv (.tmp 9), (some (15, false))⟩,
    ⟨(some 17), .nilCheck (.tmp 16), (some (15, false))⟩,
    ⟨(some 18), .load1 (.tmp 17), (some (15, false))⟩,
    ⟨(some 19), .mv (.tmp 2), (some (15, false))⟩,
    ⟨(some 20), .bin .neq (.tmp 18) (.tmp 19), (some (15, false))⟩,
    ⟨(some 21), .pick (.tmp 15) (.const (.bool true)) (.tmp 20), none⟩])
  (.cond (.tmp 21)
    (.seq (.region [
      ⟨(some 8), .mv (.const (.bool false)), none⟩])
    (.ret))
    (.skip)))
  (.seq (.region [
    ⟨(some 22), .mv (.tmp 9), none⟩,
    ⟨(some 23), .mv (.tmp 3), none⟩,
    ⟨(some 24), .nilCheck (.tmp 22), none⟩,
    ⟨none, .store 1 (.tmp 24) (.tmp 23), none⟩])
  (.seq (.region [
    ⟨(some 8), .mv (.const (.bool true)), none⟩])
  (.ret)))))⟩

/-- 'hostler/note.Clear' -/
def F25 : AFunc := ⟨8, [.tmp 4],
  .seq (.region [
    ⟨(some 4), .mv (.const (.bool false)), none⟩])
  (.seq (.region [
    ⟨(some 5), .mv (.tmp 0), none⟩,
    ⟨(some 6), .mv (.tmp 1), none⟩,
    ⟨(some 7), .call 23 [(.tmp 5), (.tmp 6), (.const (.int .u64 0))], none⟩,
    ⟨(some 4), .mv (.tmp 7), none⟩])
  (.ret))⟩

/-- 'hostler/hostlerref04.Step' -/
def F26 : AFunc := ⟨16, [.tmp 6, .tmp 7],
  .seq (.region [
    ⟨(some 6), .mv (.const (.bool false)), none⟩,
    ⟨(some 7), .mv (.const (.int .i64 0)), none⟩])
  (.seq (.seq (.region [
    ⟨(some 8), .mv (.tmp 0), none⟩])
  (.cond (.tmp 8)
    (.seq (.region [
      ⟨(some 6), .mv (.const (.bool false)), none⟩,
      ⟨(some 7), .mv (.const (.int .i64 1)), none⟩])
    (.ret))
    (.skip)))
  (.seq (.seq (.region [
    ⟨(some 9), .mv (.tmp 1), none⟩,
    ⟨(some 10), .bin .lss (.tmp 9) (.const (.int .i64 9223372036854775807)), none⟩,
    ⟨(some 11), .mv (.tmp 10), none⟩,
    ⟨(some 12), .mv (.tmp 2), (some (11, true))⟩,
    ⟨(some 13), .mv (.tmp 1), (some (11, true))⟩,
    ⟨(some 14), .bin .geq (.tmp 12) (.tmp 13), (some (11, true))⟩,
    ⟨(some 15), .pick (.tmp 11) (.tmp 14) (.const (.bool false)), none⟩])
  (.cond (.tmp 15)
    (.seq (.region [
      ⟨(some 6), .mv (.const (.bool false)), none⟩,
      ⟨(some 7), .mv (.const (.int .i64 2)), none⟩])
    (.ret))
    (.skip)))
  (.seq (.region [
    ⟨(some 6), .mv (.const (.bool false)), none⟩,
    ⟨(some 7), .mv (.const (.int .i64 0)), none⟩])
  (.ret))))⟩

/-- 'hostler/hostlerref01.New' -/
def F27 : AFunc := ⟨10, [.cellN 2 2],
  .seq (.region [
    ⟨(some 2), .alloc [.nilslice, (.int .i64 0)], none⟩])
  (.seq (.seq (.region [
    ⟨(some 3), .mv (.tmp 0), none⟩,
    ⟨(some 4), .bin .lss (.tmp 3) (.const (.int .i64 0)), none⟩])
  (.cond (.tmp 4)
    (.region [
      ⟨(some 0), .mv (.const (.int .i64 0)), none⟩])
    (.skip)))
  (.seq (.seq (.region [
    ⟨(some 5), .mv (.tmp 0), none⟩,
    ⟨(some 6), .bin .gtr (.tmp 5) (.const (.int .i64 65536)), none⟩])
  (.cond (.tmp 6)
    (.region [
      ⟨(some 0), .mv (.const (.int .i64 65536)), none⟩])
    (.skip)))
  (.seq (.region [
    ⟨(some 7), .mv (.tmp 0), none⟩,
    ⟨(some 8), .mkslice 1 8 [(.int .u64 0)] (.tmp 7) (.tmp 7), none⟩,
    ⟨(some 9), .build [.nilslice, (.int .i64 0)] [((0, 1), (.tmp 8))], none⟩,
    ⟨none, .store 2 (.tmp 2) (.tmp 9), none⟩])
  (.ret))))⟩

/-- 'hostler/hostlerlaw01.do' -/
def F28 : AFunc := ⟨126, [.cellN 6 2, .tmp 7],
  .seq (.region [
    ⟨(some 4), .box (.tmp 1), none⟩,
    ⟨(some 5), .box (.tmp 2), none⟩,
    ⟨(some 6), .alloc [.nilslice, (.int .i64 0)], none⟩,
    ⟨(some 7), .mv (.const (.bool false)), none⟩])
  (.seq (.seq (.region [
    ⟨(some 18), .fieldAddr 0 (.tmp 5), none⟩,
    ⟨(some 19), .load1 (.tmp 18), none⟩,
    ⟨(some 20), .bin .rem (.tmp 19) (.const (.int .u8 6)), none⟩])
  (.block 0 (.seq (.region [
    ⟨(some 22), .bin .eql (.tmp 20) (.const (.int .u8 0)), none⟩,
    ⟨(some 21), .mv (.tmp 22), none⟩])
  (.cond (.tmp 21)
    (.seq (.region [
      ⟨(some 24), .loadN 2 (.tmp 4), none⟩,
      ⟨(some 25), .fieldAddr 1 (.tmp 5), none⟩,
      ⟨(some 26), .load1 (.tmp 25), none⟩,
      ⟨(some 27), .call 33 [(.tmp 24), (.tmp 26)], none⟩,
      ⟨(some 23), .mv (.tmp 27), none⟩,
      ⟨(some 28), .extract 0 (.tmp 23), none⟩,
      ⟨(some 29), .extract 1 (.tmp 23), none⟩,
      ⟨(some 8), .alloc [.nilslice, (.int .i64 0)], none⟩,
      ⟨none, .store 2 (.tmp 8) (.tmp 28), none⟩,
      ⟨(some 9), .mv (.tmp 29), none⟩])
    (.seq (.draw [
      (⟨(some 30), .loadN 2 (.tmp 8), none⟩, .reads 0 1),
      (⟨(some 31), .mv (.tmp 0), none⟩, .still),
      (⟨(some 32), .fieldAddr 1 (.tmp 5), none⟩, .still),
      (⟨(some 33), .load1 (.tmp 32), none⟩, .reads 0 0),
      (⟨(some 34), .call 21 [(.tmp 31), (.tmp 33)], none⟩, .loud),
      (⟨(some 35), .mv (.tmp 9), none⟩, .still),
      (⟨(some 36), .bin .eql (.tmp 34) (.tmp 35), none⟩, .still),
      (⟨none, .store 2 (.tmp 6) (.tmp 30), none⟩, .loud),
      (⟨(some 7), .mv (.tmp 36), none⟩, .still)])
    (.ret)))
    (.seq (.region [
      ⟨(some 38), .bin .eql (.tmp 20) (.const (.int .u8 1)), none⟩,
      ⟨(some 37), .mv (.tmp 38), none⟩])
    (.cond (.tmp 37)
      (.seq (.region [
        ⟨(some 40), .loadN 2 (.tmp 4), none⟩,
        ⟨(some 41), .fieldAddr 1 (.tmp 5), none⟩,
        ⟨(some 42), .load1 (.tmp 41), none⟩,
        ⟨(some 43), .fieldAddr 2 (.tmp 5), none⟩,
        ⟨(some 44), .load1 (.tmp 43), none⟩,
        ⟨(some 45), .call 34 [(.tmp 40), (.tmp 42), (.tmp 44)], none⟩,
        ⟨(some 39), .mv (.tmp 45), none⟩,
        ⟨(some 46), .extract 0 (.tmp 39), none⟩,
        ⟨(some 47), .extract 1 (.tmp 39), none⟩,
        ⟨(some 10), .alloc [.nilslice, (.int .i64 0)], none⟩,
        ⟨none, .store 2 (.tmp 10) (.tmp 46), none⟩,
        ⟨(some 11), .mv (.tmp 47), none⟩])
      (.seq (.draw [
        (⟨(some 48), .loadN 2 (.tmp 10), none⟩, .reads 0 1),
        (⟨(some 49), .mv (.tmp 0), none⟩, .still),
        (⟨(some 50), .fieldAddr 1 (.tmp 5), none⟩, .still),
        (⟨(some 51), .load1 (.tmp 50), none⟩, .reads 0 0),
        (⟨(some 52), .fieldAddr 2 (.tmp 5), none⟩, .still),
        (⟨(some 53), .load1 (.tmp 52), none⟩, .reads 0 0),
        (⟨(some 54), .call 23 [(.tmp 49), (.tmp 51), (.tmp 53)], none⟩, .loud),
        (⟨(some 55), .mv (.tmp 11), none⟩, .still),
        (⟨(some 56), .eqBool false (.tmp 54) (.tmp 55), none⟩, .still),
        (⟨none, .store 2 (.tmp 6) (.tmp 48), none⟩, .loud),
        (⟨(some 7), .mv (.tmp 56), none⟩, .still)])
      (.ret)))
      (.seq (.region [
        ⟨(some 58), .bin .eql (.tmp 20) (.const (.int .u8 3)), none⟩,
        ⟨(some 57), .mv (.tmp 58), none⟩])
      (.cond (.tmp 57)
        (.seq (.region [
          ⟨(some 60), .loadN 2 (.tmp 4), none⟩,
          ⟨(some 61), .fieldAddr 1 (.tmp 5), none⟩,
          ⟨(some 62), .load1 (.tmp 61), none⟩,
          ⟨(some 63), .fieldAddr 4 (.tmp 5), none⟩,
          ⟨(some 64), .load1 (.tmp 63), none⟩,
          ⟨(some 65), .call 35 [(.tmp 60), (.tmp 62), (.tmp 64)], none⟩,
          ⟨(some 59), .mv (.tmp 65), none⟩,
          ⟨(some 66), .extract 0 (.tmp 59), none⟩,
          ⟨(some 67), .extract 1 (.tmp 59), none⟩,
          ⟨(some 12), .alloc [.nilslice, (.int .i64 0)], none⟩,
          ⟨none, .store 2 (.tmp 12) (.tmp 66), none⟩,
          ⟨(some 13), .mv (.tmp 67), none⟩])
        (.seq (.draw [
          (⟨(some 68), .loadN 2 (.tmp 12), none⟩, .reads 0 1),
          (⟨(some 69), .mv (.tmp 0), none⟩, .still),
          (⟨(some 70), .fieldAddr 1 (.tmp 5), none⟩, .still),
          (⟨(some 71), .load1 (.tmp 70), none⟩, .reads 0 0),
          (⟨(some 72), .fieldAddr 4 (.tmp 5), none⟩, .still),
          (⟨(some 73), .load1 (.tmp 72), none⟩, .reads 0 0),
          (⟨(some 74), .call 20 [(.tmp 69), (.tmp 71), (.tmp 73)], none⟩, .loud),
          (⟨(some 75), .mv (.tmp 13), none⟩, .still),
          (⟨(some 76), .bin .eql (.tmp 74) (.tmp 75), none⟩, .still),
          (⟨none, .store 2 (.tmp 6) (.tmp 68), none⟩, .loud),
          (⟨(some 7), .mv (.tmp 76), none⟩, .still)])
        (.ret)))
        (.seq (.region [
          ⟨(some 78), .bin .eql (.tmp 20) (.const (.int .u8 4)), none⟩,
          ⟨(some 77), .mv (.tmp 78), none⟩])
        (.cond (.tmp 77)
          (.seq (.region [
            ⟨(some 80), .loadN 2 (.tmp 4), none⟩,
            ⟨(some 81), .fieldAddr 1 (.tmp 5), none⟩,
            ⟨(some 82), .load1 (.tmp 81), none⟩,
            ⟨(some 83), .call 33 [(.tmp 80), (.tmp 82)], none⟩,
            ⟨(some 79), .mv (.tmp 83), none⟩,
            ⟨(some 84), .extract 0 (.tmp 79), none⟩,
            ⟨(some 85), .extract 1 (.tmp 79), none⟩,
            ⟨(some 14), .alloc [.nilslice, (.int .i64 0)], none⟩,
            ⟨none, .store 2 (.tmp 14) (.tmp 84), none⟩,
            ⟨(some 15), .mv (.tmp 85), none⟩])
          (.seq (.seq (.region [
            ⟨(some 86), .mv (.tmp 0), none⟩,
            ⟨(some 87), .fieldAddr 1 (.tmp 5), none⟩,
            ⟨(some 88), .load1 (.tmp 87), none⟩,
            ⟨(some 89), .call 21 [(.tmp 86), (.tmp 88)], none⟩,
            ⟨(some 90), .mv (.tmp 15), none⟩,
            ⟨(some 91), .bin .neq (.tmp 89) (.tmp 90), none⟩])
          (.cond (.tmp 91)
            (.seq (.region [
              ⟨(some 92), .loadN 2 (.tmp 14), none⟩,
              ⟨none, .store 2 (.tmp 6) (.tmp 92), none⟩,
              ⟨(some 7), .mv (.const (.bool false)), none⟩])
            (.ret))
            (.skip)))
          (.region [
            ⟨(some 93), .loadN 2 (.tmp 14), none⟩,
            ⟨(some 94), .mv (.tmp 15), none⟩,
            ⟨none, .store 2 (.tmp 4) (.tmp 93), none⟩,
            ⟨(some 95), .fieldAddr 2 (.tmp 5), none⟩,
            ⟨none, .store 1 (.tmp 95) (.tmp 94), none⟩])))
          (.seq (.region [
            ⟨(some 97), .bin .eql (.tmp 20) (.const (.int .u8 5)), none⟩,
            ⟨(some 96), .mv (.tmp 97), none⟩])
          (.cond (.tmp 96)
            (.seq (.draw [
              (⟨(some 98), .mv (.tmp 0), none⟩, .still),
              (⟨(some 99), .call 30 [(.tmp 98)], none⟩, .loud),
              (⟨(some 100), .fieldAddr 1 (.tmp 5), none⟩, .still),
              (⟨(some 101), .load1 (.tmp 100), none⟩, .reads 0 1),
              (⟨(some 102), .call 20 [(.tmp 99), (.tmp 101), (.const (.int .i64 1))], none⟩, .loud)])
            (.seq (.region [
              ⟨(some 103), .loadN 2 (.tmp 4), none⟩,
              ⟨none, .store 2 (.tmp 6) (.tmp 103), none⟩,
              ⟨(some 7), .mv (.const (.bool true)), none⟩])
            (.ret)))
            (.skip)))))))))))))
  (.seq (.region [
    ⟨(some 105), .loadN 2 (.tmp 4), none⟩,
    ⟨(some 106), .fieldAddr 1 (.tmp 5), none⟩,
    ⟨(some 107), .load1 (.tmp 106), none⟩,
    ⟨(some 108), .fieldAddr 2 (.tmp 5), none⟩,
    ⟨(some 109), .load1 (.tmp 108), none⟩,
    ⟨(some 110), .fieldAddr 3 (.tmp 5), none⟩,
    ⟨(some 111), .load1 (.tmp 110), none⟩,
    ⟨(some 112), .call 36 [(.tmp 105), (.tmp 107), (.tmp 109), (.tmp 111)], none⟩,
    ⟨(some 104), .mv (.tmp 112), none⟩,
    ⟨(some 113), .extract 0 (.tmp 104), none⟩,
    ⟨(some 114), .extract 1 (.tmp 104), none⟩,
    ⟨(some 16), .alloc [.nilslice, (.int .i64 0)], none⟩,
    ⟨none, .store 2 (.tmp 16) (.tmp 113), none⟩,
    ⟨(some 17), .mv (.tmp 114), none⟩])
  (.seq (.draw [
    (⟨(some 115), .loadN 2 (.tmp 16), none⟩, .reads 0 1),
    (⟨(some 116), .mv (.tmp 0), none⟩, .still),
    (⟨(some 117), .fieldAddr 1 (.tmp 5), none⟩, .still),
    (⟨(some 118), .load1 (.tmp 117), none⟩, .reads 0 0),
    (⟨(some 119), .fieldAddr 2 (.tmp 5), none⟩, .still),
    (⟨(some 120), .load1 (.tmp 119), none⟩, .reads 0 0),
    (⟨(some 121), .fieldAddr 3 (.tmp 5), none⟩, .still),
    (⟨(some 122), .load1 (.tmp 121), none⟩, .reads 0 0),
    (⟨(some 123), .call 24 [(.tmp 116), (.tmp 118), (.tmp 120), (.tmp 122)], none⟩, .loud),
    (⟨(some 124), .mv (.tmp 17), none⟩, .still),
    (⟨(some 125), .eqBool false (.tmp 123) (.tmp 124), none⟩, .still),
    (⟨none, .store 2 (.tmp 6) (.tmp 115), none⟩, .loud),
    (⟨(some 7), .mv (.tmp 125), none⟩, .still)])
  (.ret))))⟩

/-- '(*hostler/cell.Memory).Len' -/
def F29 : AFunc := ⟨10, [.tmp 2],
  .seq (.region [
    ⟨(some 2), .mv (.const (.int .i64 0)), none⟩])
  (.seq (.seq (.region [
    ⟨(some 3), .mv (.tmp 0), none⟩,
    ⟨(some 4), .cmpNil false 0 (.tmp 3) (.const .nilptr), none⟩])
  (.cond (.tmp 4)
    (.seq (.region [
      ⟨(some 2), .mv (.const (.int .i64 0)), none⟩])
    (.ret))
    (.skip)))
  (.seq (.region [
    ⟨(some 5), .mv (.tmp 0), none⟩,
    ⟨(some 6), .nilCheck (.tmp 5), none⟩,
    ⟨(some 7), .fieldAddr 0 (.tmp 6), none⟩,
    ⟨(some 8), .load1 (.tmp 7), none⟩,
    ⟨(some 9), .lenS (.tmp 8), none⟩,
    ⟨(some 2), .mv (.tmp 9), none⟩])
  (.ret)))⟩

/-- '(*hostler/cell.Memory).Copy' -/
def F30 : AFunc := ⟨16, [.tmp 2],
  .seq (.region [
    ⟨(some 2), .mv (.const .nilptr), none⟩])
  (.seq (.seq (.region [
    ⟨(some 3), .mv (.tmp 0), none⟩,
    ⟨(some 4), .cmpNil false 0 (.tmp 3) (.const .nilptr), none⟩])
  (.cond (.tmp 4)
    (.seq (.region [
      ⟨(some 2), .mv (.const .nilptr), none⟩])
    (.ret))
    (.skip)))
  (.seq (.draw [
    (⟨(some 5), .mv (.tmp 0), none⟩, .still),
    (⟨(some 6), .nilCheck (.tmp 5), none⟩, .still),
    (⟨(some 7), .fieldAddr 0 (.tmp 6), none⟩, .still),
    (⟨(some 8), .load1 (.tmp 7), none⟩, .reads 0 0),
    (⟨(some 9), .call 37 [(.tmp 8)], none⟩, .loud),
    (⟨(some 10), .mv (.tmp 0), none⟩, .still),
    (⟨(some 11), .nilCheck (.tmp 10), none⟩, .still),
    (⟨(some 12), .fieldAddr 1 (.tmp 11), none⟩, .still),
    (⟨(some 13), .load1 (.tmp 12), none⟩, .reads 0 1),
    (⟨(some 14), .build [.nilslice, (.int .i64 0)] [((0, 1), (.tmp 9)), ((1, 1), (.tmp 13))], none⟩, .still),
    (⟨(some 15), .box (.tmp 14), none⟩, .loud),
    (⟨(some 2), .mv (.tmp 15), none⟩, .still)])
  (.ret)))⟩

/-- '(*hostler/cell.Memory).Same' -/
def F31 : AFunc := ⟨25, [.tmp 4],
  .seq (.region [
    ⟨(some 4), .mv (.const (.bool false)), none⟩])
  (.seq (.seq (.region [
    ⟨(some 5), .mv (.tmp 0), none⟩,
    ⟨(some 6), .cmpNil false 0 (.tmp 5) (.const .nilptr), none⟩,
    ⟨(some 7), .mv (.tmp 6), none⟩,
    ⟨(some 8), .mv (.tmp 1), (some (7, false))⟩,
    ⟨(some 9), .cmpNil false 0 (.tmp 8) (.const .nilptr), (some (7, false))⟩,
    ⟨(some 10), .pick (.tmp 7) (.const (.bool true)) (.tmp 9), none⟩])
  (.cond (.tmp 10)
    (.seq (.region [
      ⟨(some 11), .mv (.tmp 0), none⟩,
      ⟨(some 12), .call 29 [(.tmp 11)], none⟩,
      ⟨(some 13), .mv (.tmp 1), none⟩,
      ⟨(some 14), .call 29 [(.tmp 13)], none⟩,
      ⟨(some 15), .bin .eql (.tmp 12) (.tmp 14), none⟩,
      ⟨(some 4), .mv (.tmp 15), none⟩])
    (.ret))
    (.skip)))
  (.seq (.draw [
    (⟨(some 16), .mv (.tmp 0), none⟩, .still),
    (⟨(some 17), .nilCheck (.tmp 16), none⟩, .still),
    (⟨(some 18), .fieldAddr 0 (.tmp 17), none⟩, .still),
    (⟨(some 19), .load1 (.tmp 18), none⟩, .reads 0 0),
    (⟨(some 20), .mv (.tmp 1), none⟩, .still),
    (⟨(some 21), .nilCheck (.tmp 20), none⟩, .still),
    (⟨(some 22), .fieldAddr 0 (.tmp 21), none⟩, .still),
    (⟨(some 23), .load1 (.tmp 22), none⟩, .reads 0 0),
    (⟨(some 24), .call 38 [(.tmp 19), (.tmp 23)], none⟩, .loud),
    (⟨(some 4), .mv (.tmp 24), none⟩, .still)])
  (.ret)))⟩

/-- '(*hostler/cell.Memory).at' -/
def F32 : AFunc := ⟨26, [.tmp 4],
  .seq (.region [
    ⟨(some 4), .mv (.const .nilptr), none⟩])
  (.seq (.seq (.region [
    ⟨(some 5), .mv (.tmp 1), none⟩,
    ⟨(some 6), .bin .lss (.tmp 5) (.const (.int .i64 0)), none⟩,
    ⟨(some 7), .mv (.tmp 6), none⟩,
    ⟨(some 8), .mv (.tmp 1), (some (7, false))⟩,
    ⟨(some 9), .mv (.tmp 0), (some (7, false))⟩,
    ⟨(some 10), .call 29 [(.tmp 9)], (some (7, false))⟩,
    ⟨(some 11), .bin .geq (.tmp 8) (.tmp 10), (some (7, false))⟩,
    ⟨(some 12), .pick (.tmp 7) (.const (.bool true)) (.tmp 11), none⟩])
  (.cond (.tmp 12)
    (.seq (.region [
      ⟨(some 4), .mv (.const .nilptr), none⟩])
    (.ret))
    (.skip)))
  (.seq (.region [
    ⟨(some 13), .mv (.tmp 0), none⟩,
    ⟨(some 14), .nilCheck (.tmp 13), none⟩,
    ⟨(some 15), .fieldAddr 1 (.tmp 14), none⟩,
    ⟨(some 16), .load1 (.tmp 15), none⟩,
    ⟨(some 17), .bin .add (.tmp 16) (.const (.int .i64 1)), none⟩,
    ⟨(some 18), .nilCheck (.tmp 13), none⟩,
    ⟨(some 19), .fieldAddr 1 (.tmp 18), none⟩,
    ⟨none, .store 1 (.tmp 19) (.tmp 17), none⟩])
  (.seq (.region [
    ⟨(some 20), .mv (.tmp 0), none⟩,
    ⟨(some 21), .nilCheck (.tmp 20), none⟩,
    ⟨(some 22), .fieldAddr 0 (.tmp 21), none⟩,
    ⟨(some 23), .load1 (.tmp 22), none⟩,
    ⟨(some 24), .mv (.tmp 1), none⟩,
    ⟨(some 25), .idxAddr 1 none (.tmp 23) (.tmp 24), none⟩,
    ⟨(some 4), .mv (.tmp 25), none⟩])
  (.ret))))⟩

/-- 'hostler/hostlerref01.Load' -/
def F33 : AFunc := ⟨24, [.cellN 4 2, .tmp 5],
  .seq (.region [
    ⟨(some 2), .box (.tmp 0), none⟩,
    ⟨(some 4), .alloc [.nilslice, (.int .i64 0)], none⟩,
    ⟨(some 5), .mv (.const (.int .u64 0)), none⟩])
  (.seq (.seq (.region [
    ⟨(some 6), .loadN 2 (.tmp 2), none⟩,
    ⟨(some 7), .mv (.tmp 1), none⟩,
    ⟨(some 8), .call 39 [(.tmp 6), (.tmp 7)], none⟩,
    ⟨(some 9), .un .not (.tmp 8), none⟩])
  (.cond (.tmp 9)
    (.seq (.region [
      ⟨(some 10), .loadN 2 (.tmp 2), none⟩,
      ⟨none, .store 2 (.tmp 4) (.tmp 10), none⟩,
      ⟨(some 5), .mv (.const (.int .u64 0)), none⟩])
    (.ret))
    (.skip)))
  (.seq (.draw [
    (⟨(some 11), .loadN 2 (.tmp 2), none⟩, .reads 0 0),
    (⟨(some 12), .mv (.tmp 1), none⟩, .still),
    (⟨(some 13), .fieldAddr 0 (.tmp 2), none⟩, .still),
    (⟨(some 14), .load1 (.tmp 13), none⟩, .reads 0 0),
    (⟨(some 15), .mv (.tmp 1), none⟩, .still),
    (⟨(some 16), .idxAddr 1 none (.tmp 14) (.tmp 15), none⟩, .still),
    (⟨(some 17), .load1 (.tmp 16), none⟩, .reads 0 0),
    (⟨(some 18), .call 40 [(.tmp 11), (.tmp 12), (.tmp 17)], none⟩, .loud),
    (⟨(some 19), .fieldAddr 0 (.tmp 2), none⟩, .still),
    (⟨(some 20), .load1 (.tmp 19), none⟩, .reads 0 2),
    (⟨(some 21), .mv (.tmp 1), none⟩, .still),
    (⟨(some 22), .idxAddr 1 none (.tmp 20) (.tmp 21), none⟩, .still),
    (⟨(some 23), .load1 (.tmp 22), none⟩, .reads 0 2),
    (⟨none, .store 2 (.tmp 4) (.tmp 18), none⟩, .loud),
    (⟨(some 5), .mv (.tmp 23), none⟩, .still)])
  (.ret)))⟩

/-- 'hostler/hostlerref01.Store' -/
def F34 : AFunc := ⟨17, [.cellN 6 2, .tmp 7],
  .seq (.region [
    ⟨(some 3), .box (.tmp 0), none⟩,
    ⟨(some 6), .alloc [.nilslice, (.int .i64 0)], none⟩,
    ⟨(some 7), .mv (.const (.bool false)), none⟩])
  (.seq (.seq (.region [
    ⟨(some 8), .loadN 2 (.tmp 3), none⟩,
    ⟨(some 9), .mv (.tmp 1), none⟩,
    ⟨(some 10), .call 39 [(.tmp 8), (.tmp 9)], none⟩,
    ⟨(some 11), .un .not (.tmp 10), none⟩])
  (.cond (.tmp 11)
    (.seq (.region [
      ⟨(some 12), .loadN 2 (.tmp 3), none⟩,
      ⟨none, .store 2 (.tmp 6) (.tmp 12), none⟩,
      ⟨(some 7), .mv (.const (.bool false)), none⟩])
    (.ret))
    (.skip)))
  (.seq (.region [
    ⟨(some 13), .loadN 2 (.tmp 3), none⟩,
    ⟨(some 14), .mv (.tmp 1), none⟩,
    ⟨(some 15), .mv (.tmp 2), none⟩,
    ⟨(some 16), .call 40 [(.tmp 13), (.tmp 14), (.tmp 15)], none⟩,
    ⟨none, .store 2 (.tmp 6) (.tmp 16), none⟩,
    ⟨(some 7), .mv (.const (.bool true)), none⟩])
  (.ret)))⟩

/-- 'hostler/hostlerref01.Add' -/
def F35 : AFunc := ⟨27, [.cellN 6 2, .tmp 7],
  .seq (.region [
    ⟨(some 3), .box (.tmp 0), none⟩,
    ⟨(some 6), .alloc [.nilslice, (.int .i64 0)], none⟩,
    ⟨(some 7), .mv (.const (.int .u64 0)), none⟩])
  (.seq (.seq (.region [
    ⟨(some 9), .loadN 2 (.tmp 3), none⟩,
    ⟨(some 10), .mv (.tmp 1), none⟩,
    ⟨(some 11), .call 39 [(.tmp 9), (.tmp 10)], none⟩,
    ⟨(some 12), .un .not (.tmp 11), none⟩])
  (.cond (.tmp 12)
    (.seq (.region [
      ⟨(some 13), .loadN 2 (.tmp 3), none⟩,
      ⟨none, .store 2 (.tmp 6) (.tmp 13), none⟩,
      ⟨(some 7), .mv (.const (.int .u64 0)), none⟩])
    (.ret))
    (.skip)))
  (.seq (.region [
    ⟨(some 14), .fieldAddr 0 (.tmp 3), none⟩,
    ⟨(some 15), .load1 (.tmp 14), none⟩,
    ⟨(some 16), .mv (.tmp 1), none⟩,
    ⟨(some 17), .idxAddr 1 none (.tmp 15) (.tmp 16), none⟩,
    ⟨(some 18), .load1 (.tmp 17), none⟩,
    ⟨(some 19), .mv (.tmp 2), none⟩,
    ⟨(some 20), .toInt .u64 (.tmp 19), none⟩,
    ⟨(some 21), .bin .add (.tmp 18) (.tmp 20), none⟩,
    ⟨(some 8), .mv (.tmp 21), none⟩])
  (.seq (.region [
    ⟨(some 22), .loadN 2 (.tmp 3), none⟩,
    ⟨(some 23), .mv (.tmp 1), none⟩,
    ⟨(some 24), .mv (.tmp 8), none⟩,
    ⟨(some 25), .call 40 [(.tmp 22), (.tmp 23), (.tmp 24)], none⟩,
    ⟨(some 26), .mv (.tmp 8), none⟩,
    ⟨none, .store 2 (.tmp 6) (.tmp 25), none⟩,
    ⟨(some 7), .mv (.tmp 26), none⟩])
  (.ret))))⟩

/-- 'hostler/hostlerref01.Swap' -/
def F36 : AFunc := ⟨34, [.cellN 8 2, .tmp 9],
  .seq (.region [
    ⟨(some 4), .box (.tmp 0), none⟩,
    ⟨(some 8), .alloc [.nilslice, (.int .i64 0)], none⟩,
    ⟨(some 9), .mv (.const (.bool false)), none⟩])
  (.seq (.seq (.region [
    ⟨(some 10), .loadN 2 (.tmp 4), none⟩,
    ⟨(some 11), .mv (.tmp 1), none⟩,
    ⟨(some 12), .call 39 [(.tmp 10), (.tmp 11)], none⟩,
    ⟨(some 13), .un .not (.tmp 12), none⟩])
  (.cond (.tmp 13)
    (.seq (.region [
      ⟨(some 14), .loadN 2 (.tmp 4), none⟩,
      ⟨none, .store 2 (.tmp 8) (.tmp 14), none⟩,
      ⟨(some 9), .mv (.const (.bool false)), none⟩])
    (.ret))
    (.skip)))
  (.seq (.seq (.region [
    ⟨(some 15), .fieldAddr 0 (.tmp 4), none⟩,
    ⟨(some 16), .load1 (.tmp 15), none⟩,
    ⟨(some 17), .mv (.tmp 1), none⟩,
    ⟨(some 18), .idxAddr 1 none (.tmp 16) (.tmp 17), none⟩,
    ⟨(some 19), .load1 (.tmp 18), none⟩,
    ⟨(some 20), .mv (.tmp 2), none⟩,
    ⟨(some 21), .bin .neq (.tmp 19) (.tmp 20), none⟩])
  (.cond (.tmp 21)
    (.seq (.draw [
      (⟨(some 22), .loadN 2 (.tmp 4), none⟩, .reads 0 0),
      (⟨(some 23), .mv (.tmp 1), none⟩, .still),
      (⟨(some 24), .fieldAddr 0 (.tmp 4), none⟩, .still),
      (⟨(some 25), .load1 (.tmp 24), none⟩, .reads 0 0),
      (⟨(some 26), .mv (.tmp 1), none⟩, .still),
      (⟨(some 27), .idxAddr 1 none (.tmp 25) (.tmp 26), none⟩, .still),
      (⟨(some 28), .load1 (.tmp 27), none⟩, .reads 0 0),
      (⟨(some 29), .call 40 [(.tmp 22), (.tmp 23), (.tmp 28)], none⟩, .loud),
      (⟨none, .store 2 (.tmp 8) (.tmp 29), none⟩, .loud),
      (⟨(some 9), .mv (.const (.bool false)), none⟩, .still)])
    (.ret))
    (.skip)))
  (.seq (.region [
    ⟨(some 30), .loadN 2 (.tmp 4), none⟩,
    ⟨(some 31), .mv (.tmp 1), none⟩,
    ⟨(some 32), .mv (.tmp 3), none⟩,
    ⟨(some 33), .call 40 [(.tmp 30), (.tmp 31), (.tmp 32)], none⟩,
    ⟨none, .store 2 (.tmp 8) (.tmp 33), none⟩,
    ⟨(some 9), .mv (.const (.bool true)), none⟩])
  (.ret))))⟩

/-- 'slices.Clone[[]uint64,uint64]' -/
def F37 : AFunc := ⟨8, [.tmp 2],
  .seq (.region [
    ⟨(some 2), .mv (.const .nilslice), none⟩])
  (.seq (.seq (.region [
    ⟨(some 3), .mv (.tmp 0), none⟩,
    ⟨(some 4), .cmpNil false 1 (.tmp 3) (.const .nilslice), none⟩])
  (.cond (.tmp 4)
    (.seq (.region [
      ⟨(some 2), .mv (.const .nilslice), none⟩])
    (.ret))
    (.skip)))
  (.seq (.region [
    ⟨(some 5), .buildSlice [] 0 [], none⟩,
    ⟨(some 6), .mv (.tmp 0), none⟩,
    ⟨(some 7), .append 1 8 [(.int .u64 0)] (.tmp 5) (.tmp 6), none⟩,
    ⟨(some 2), .mv (.tmp 7), none⟩])
  (.ret)))⟩

/-- 'slices.Equal[[]uint64,uint64]' -/
def F38 : AFunc := ⟨26, [.tmp 4],
  .seq (.region [
    ⟨(some 4), .mv (.const (.bool false)), none⟩])
  (.seq (.seq (.region [
    ⟨(some 6), .mv (.tmp 0), none⟩,
    ⟨(some 7), .lenS (.tmp 6), none⟩,
    ⟨(some 8), .mv (.tmp 1), none⟩,
    ⟨(some 9), .lenS (.tmp 8), none⟩,
    ⟨(some 10), .bin .neq (.tmp 7) (.tmp 9), none⟩])
  (.cond (.tmp 10)
    (.seq (.region [
      ⟨(some 4), .mv (.const (.bool false)), none⟩])
    (.ret))
    (.skip)))
  (.seq (.seq (.region [
    ⟨(some 11), .mv (.tmp 0), none⟩,
    ⟨(some 12), .lenS (.tmp 11), none⟩,
    ⟨(some 13), .mv (.const (.int .i64 0)), none⟩])
  (.block 0 (.loop (.seq (.region [
      ⟨(some 14), .bin .lss (.tmp 13) (.tmp 12), none⟩])
    (.seq (.cond (.tmp 14)
      (.skip)
      (.exit 0))
    (.seq (.block 1 (.seq (.region [
      ⟨(some 15), .mv (.tmp 13), none⟩,
      ⟨(some 5), .mv (.tmp 15), none⟩])
    (.seq (.draw [
      (⟨(some 16), .mv (.tmp 0), none⟩, .still),
      (⟨(some 17), .mv (.tmp 5), none⟩, .still),
      (⟨(some 18), .idxAddr 1 none (.tmp 16) (.tmp 17), none⟩, .still),
      (⟨(some 19), .load1 (.tmp 18), none⟩, .reads 0 0),
      (⟨(some 20), .mv (.tmp 1), none⟩, .still),
      (⟨(some 21), .mv (.tmp 5), none⟩, .still),
      (⟨(some 22), .idxAddr 1 none (.tmp 20) (.tmp 21), none⟩, .still),
      (⟨(some 23), .load1 (.tmp 22), none⟩, .reads 0 0),
      (⟨(some 24), .bin .neq (.tmp 19) (.tmp 23), none⟩, .still)])
    (.cond (.tmp 24)
      (.seq (.region [
        ⟨(some 4), .mv (.const (.bool false)), none⟩])
      (.ret))
      (.skip)))))
    (.region [
      ⟨(some 25), .bin .add (.tmp 13) (.const (.int .i64 1)), none⟩,
      ⟨(some 13), .mv (.tmp 25), none⟩])))))))
  (.seq (.region [
    ⟨(some 4), .mv (.const (.bool true)), none⟩])
  (.ret))))⟩

/-- 'hostler/hostlerref01.is' -/
def F39 : AFunc := ⟨14, [.tmp 4],
  .seq (.region [
    ⟨(some 2), .box (.tmp 0), none⟩,
    ⟨(some 4), .mv (.const (.bool false)), none⟩])
  (.seq (.region [
    ⟨(some 5), .mv (.tmp 1), none⟩,
    ⟨(some 6), .bin .geq (.tmp 5) (.const (.int .i64 0)), none⟩,
    ⟨(some 7), .mv (.tmp 6), none⟩,
    ⟨(some 8), .mv (.tmp 1), (some (7, true))⟩,
    ⟨(some 9), .fieldAddr 0 (.tmp 2), (some (7, true))⟩,
    ⟨(some 10), .load1 (.tmp 9), (some (7, true))⟩,
    ⟨(some 11), .lenS (.tmp 10), (some (7, true))⟩,
    ⟨(some 12), .bin .lss (.tmp 8) (.tmp 11), (some (7, true))⟩,
    ⟨(some 13), .pick (.tmp 7) (.tmp 12) (.const (.bool false)), none⟩,
    ⟨(some 4), .mv (.tmp 13), none⟩])
  (.ret))⟩

/-- 'hostler/hostlerref01.set' -/
def F40 : AFunc := ⟨21, [.cellN 6 2],
  .seq (.region [
    ⟨(some 3), .box (.tmp 0), none⟩,
    ⟨(some 6), .alloc [.nilslice, (.int .i64 0)], none⟩])
  (.seq (.region [
    ⟨(some 8), .buildSlice [] 0 [], none⟩,
    ⟨(some 9), .fieldAddr 0 (.tmp 3), none⟩,
    ⟨(some 10), .load1 (.tmp 9), none⟩,
    ⟨(some 11), .append 1 8 [(.int .u64 0)] (.tmp 8) (.tmp 10), none⟩,
    ⟨(some 7), .mv (.tmp 11), none⟩])
  (.seq (.region [
    ⟨(some 12), .mv (.tmp 7), none⟩,
    ⟨(some 13), .mv (.tmp 1), none⟩,
    ⟨(some 14), .mv (.tmp 2), none⟩,
    ⟨(some 15), .idxAddr 1 none (.tmp 12) (.tmp 13), none⟩,
    ⟨none, .store 1 (.tmp 15) (.tmp 14), none⟩])
  (.seq (.region [
    ⟨(some 16), .mv (.tmp 7), none⟩,
    ⟨(some 17), .fieldAddr 1 (.tmp 3), none⟩,
    ⟨(some 18), .load1 (.tmp 17), none⟩,
    ⟨(some 19), .bin .add (.tmp 18) (.const (.int .i64 1)), none⟩,
    ⟨(some 20), .build [.nilslice, (.int .i64 0)] [((0, 1), (.tmp 16)), ((1, 1), (.tmp 19))], none⟩,
    ⟨none, .store 2 (.tmp 6) (.tmp 20), none⟩])
  (.ret))))⟩

def T : ATable := fun f => match f with
  | 3 => some F3
  | 4 => some F4
  | 5 => some F5
  | 6 => some F6
  | 7 => some F7
  | 8 => some F8
  | 9 => some F9
  | 10 => some F10
  | 11 => some F11
  | 12 => some F12
  | 13 => some F13
  | 14 => some F14
  | 15 => some F15
  | 16 => some F16
  | 17 => some F17
  | 18 => some F18
  | 19 => some F19
  | 20 => some F20
  | 21 => some F21
  | 22 => some F22
  | 23 => some F23
  | 24 => some F24
  | 25 => some F25
  | 26 => some F26
  | 27 => some F27
  | 28 => some F28
  | 29 => some F29
  | 30 => some F30
  | 31 => some F31
  | 32 => some F32
  | 33 => some F33
  | 34 => some F34
  | 35 => some F35
  | 36 => some F36
  | 37 => some F37
  | 38 => some F38
  | 39 => some F39
  | 40 => some F40
  | _ => none

theorem T_3 : T 3 = some F3 := rfl
theorem T_4 : T 4 = some F4 := rfl
theorem T_5 : T 5 = some F5 := rfl
theorem T_6 : T 6 = some F6 := rfl
theorem T_7 : T 7 = some F7 := rfl
theorem T_8 : T 8 = some F8 := rfl
theorem T_9 : T 9 = some F9 := rfl
theorem T_10 : T 10 = some F10 := rfl
theorem T_11 : T 11 = some F11 := rfl
theorem T_12 : T 12 = some F12 := rfl
theorem T_13 : T 13 = some F13 := rfl
theorem T_14 : T 14 = some F14 := rfl
theorem T_15 : T 15 = some F15 := rfl
theorem T_16 : T 16 = some F16 := rfl
theorem T_17 : T 17 = some F17 := rfl
theorem T_18 : T 18 = some F18 := rfl
theorem T_19 : T 19 = some F19 := rfl
theorem T_20 : T 20 = some F20 := rfl
theorem T_21 : T 21 = some F21 := rfl
theorem T_22 : T 22 = some F22 := rfl
theorem T_23 : T 23 = some F23 := rfl
theorem T_24 : T 24 = some F24 := rfl
theorem T_25 : T 25 = some F25 := rfl
theorem T_26 : T 26 = some F26 := rfl
theorem T_27 : T 27 = some F27 := rfl
theorem T_28 : T 28 = some F28 := rfl
theorem T_29 : T 29 = some F29 := rfl
theorem T_30 : T 30 = some F30 := rfl
theorem T_31 : T 31 = some F31 := rfl
theorem T_32 : T 32 = some F32 := rfl
theorem T_33 : T 33 = some F33 := rfl
theorem T_34 : T 34 = some F34 := rfl
theorem T_35 : T 35 = some F35 := rfl
theorem T_36 : T 36 = some F36 := rfl
theorem T_37 : T 37 = some F37 := rfl
theorem T_38 : T 38 = some F38 := rfl
theorem T_39 : T 39 = some F39 := rfl
theorem T_40 : T 40 = some F40 := rfl

set_option maxRecDepth 100000 in
theorem comp_3 : compFunc Try.prog 0 Try.f3 = some F3 := by kernel_rfl
set_option maxRecDepth 100000 in
theorem comp_4 : compFunc Try.prog 0 Try.f4 = some F4 := by kernel_rfl
set_option maxRecDepth 100000 in
theorem comp_5 : compFunc Try.prog 0 Try.f5 = some F5 := by kernel_rfl
set_option maxRecDepth 100000 in
theorem comp_6 : compFunc Try.prog 0 Try.f6 = some F6 := by kernel_rfl
set_option maxRecDepth 100000 in
theorem comp_7 : compFunc Try.prog 0 Try.f7 = some F7 := by kernel_rfl
set_option maxRecDepth 100000 in
theorem comp_8 : compFunc Try.prog 0 Try.f8 = some F8 := by kernel_rfl
set_option maxRecDepth 100000 in
theorem comp_9 : compFunc Try.prog 0 Try.f9 = some F9 := by kernel_rfl
set_option maxRecDepth 100000 in
theorem comp_10 : compFunc Try.prog 0 Try.f10 = some F10 := by kernel_rfl
set_option maxRecDepth 100000 in
theorem comp_11 : compFunc Try.prog 0 Try.f11 = some F11 := by kernel_rfl
set_option maxRecDepth 100000 in
theorem comp_12 : compFunc Try.prog 0 Try.f12 = some F12 := by kernel_rfl
set_option maxRecDepth 100000 in
theorem comp_13 : compFunc Try.prog 0 Try.f13 = some F13 := by kernel_rfl
set_option maxRecDepth 100000 in
theorem comp_14 : compFunc Try.prog 0 Try.f14 = some F14 := by kernel_rfl
set_option maxRecDepth 100000 in
theorem comp_15 : compFunc Try.prog 0 Try.f15 = some F15 := by kernel_rfl
set_option maxRecDepth 100000 in
theorem comp_16 : compFunc Try.prog 0 Try.f16 = some F16 := by kernel_rfl
set_option maxRecDepth 100000 in
theorem comp_17 : compFunc Try.prog 0 Try.f17 = some F17 := by kernel_rfl
set_option maxRecDepth 100000 in
theorem comp_18 : compFunc Try.prog 0 Try.f18 = some F18 := by kernel_rfl
set_option maxRecDepth 100000 in
theorem comp_19 : compFunc Try.prog 0 Try.f19 = some F19 := by kernel_rfl
set_option maxRecDepth 100000 in
theorem comp_20 : compFunc Try.prog 0 Try.f20 = some F20 := by kernel_rfl
set_option maxRecDepth 100000 in
theorem comp_21 : compFunc Try.prog 0 Try.f21 = some F21 := by kernel_rfl
set_option maxRecDepth 100000 in
theorem comp_22 : compFunc Try.prog 0 Try.f22 = some F22 := by kernel_rfl
set_option maxRecDepth 100000 in
theorem comp_23 : compFunc Try.prog 0 Try.f23 = some F23 := by kernel_rfl
set_option maxRecDepth 100000 in
theorem comp_24 : compFunc Try.prog 0 Try.f24 = some F24 := by kernel_rfl
set_option maxRecDepth 100000 in
theorem comp_25 : compFunc Try.prog 0 Try.f25 = some F25 := by kernel_rfl
set_option maxRecDepth 100000 in
theorem comp_26 : compFunc Try.prog 0 Try.f26 = some F26 := by kernel_rfl
set_option maxRecDepth 100000 in
theorem comp_27 : compFunc Try.prog 0 Try.f27 = some F27 := by kernel_rfl
set_option maxRecDepth 100000 in
theorem comp_28 : compFunc Try.prog 0 Try.f28 = some F28 := by kernel_rfl
set_option maxRecDepth 100000 in
theorem comp_29 : compFunc Try.prog 0 Try.f29 = some F29 := by kernel_rfl
set_option maxRecDepth 100000 in
theorem comp_30 : compFunc Try.prog 0 Try.f30 = some F30 := by kernel_rfl
set_option maxRecDepth 100000 in
theorem comp_31 : compFunc Try.prog 0 Try.f31 = some F31 := by kernel_rfl
set_option maxRecDepth 100000 in
theorem comp_32 : compFunc Try.prog 0 Try.f32 = some F32 := by kernel_rfl
set_option maxRecDepth 100000 in
theorem comp_33 : compFunc Try.prog 0 Try.f33 = some F33 := by kernel_rfl
set_option maxRecDepth 100000 in
theorem comp_34 : compFunc Try.prog 0 Try.f34 = some F34 := by kernel_rfl
set_option maxRecDepth 100000 in
theorem comp_35 : compFunc Try.prog 0 Try.f35 = some F35 := by kernel_rfl
set_option maxRecDepth 100000 in
theorem comp_36 : compFunc Try.prog 0 Try.f36 = some F36 := by kernel_rfl
set_option maxRecDepth 100000 in
theorem comp_37 : compFunc Try.prog 0 Try.f37 = some F37 := by kernel_rfl
set_option maxRecDepth 100000 in
theorem comp_38 : compFunc Try.prog 0 Try.f38 = some F38 := by kernel_rfl
set_option maxRecDepth 100000 in
theorem comp_39 : compFunc Try.prog 0 Try.f39 = some F39 := by kernel_rfl
set_option maxRecDepth 100000 in
theorem comp_40 : compFunc Try.prog 0 Try.f40 = some F40 := by kernel_rfl
theorem in_3 : F3.body.within F3.ntmps = true := by kernel_rfl
theorem in_4 : F4.body.within F4.ntmps = true := by kernel_rfl
theorem in_5 : F5.body.within F5.ntmps = true := by kernel_rfl
theorem in_6 : F6.body.within F6.ntmps = true := by kernel_rfl
theorem in_7 : F7.body.within F7.ntmps = true := by kernel_rfl
theorem in_8 : F8.body.within F8.ntmps = true := by kernel_rfl
theorem in_9 : F9.body.within F9.ntmps = true := by kernel_rfl
theorem in_10 : F10.body.within F10.ntmps = true := by kernel_rfl
theorem in_11 : F11.body.within F11.ntmps = true := by kernel_rfl
theorem in_12 : F12.body.within F12.ntmps = true := by kernel_rfl
theorem in_13 : F13.body.within F13.ntmps = true := by kernel_rfl
theorem in_14 : F14.body.within F14.ntmps = true := by kernel_rfl
theorem in_15 : F15.body.within F15.ntmps = true := by kernel_rfl
theorem in_16 : F16.body.within F16.ntmps = true := by kernel_rfl
theorem in_17 : F17.body.within F17.ntmps = true := by kernel_rfl
theorem in_18 : F18.body.within F18.ntmps = true := by kernel_rfl
theorem in_19 : F19.body.within F19.ntmps = true := by kernel_rfl
theorem in_20 : F20.body.within F20.ntmps = true := by kernel_rfl
theorem in_21 : F21.body.within F21.ntmps = true := by kernel_rfl
theorem in_22 : F22.body.within F22.ntmps = true := by kernel_rfl
theorem in_23 : F23.body.within F23.ntmps = true := by kernel_rfl
theorem in_24 : F24.body.within F24.ntmps = true := by kernel_rfl
theorem in_25 : F25.body.within F25.ntmps = true := by kernel_rfl
theorem in_26 : F26.body.within F26.ntmps = true := by kernel_rfl
theorem in_27 : F27.body.within F27.ntmps = true := by kernel_rfl
theorem in_28 : F28.body.within F28.ntmps = true := by kernel_rfl
theorem in_29 : F29.body.within F29.ntmps = true := by kernel_rfl
theorem in_30 : F30.body.within F30.ntmps = true := by kernel_rfl
theorem in_31 : F31.body.within F31.ntmps = true := by kernel_rfl
theorem in_32 : F32.body.within F32.ntmps = true := by kernel_rfl
theorem in_33 : F33.body.within F33.ntmps = true := by kernel_rfl
theorem in_34 : F34.body.within F34.ntmps = true := by kernel_rfl
theorem in_35 : F35.body.within F35.ntmps = true := by kernel_rfl
theorem in_36 : F36.body.within F36.ntmps = true := by kernel_rfl
theorem in_37 : F37.body.within F37.ntmps = true := by kernel_rfl
theorem in_38 : F38.body.within F38.ntmps = true := by kernel_rfl
theorem in_39 : F39.body.within F39.ntmps = true := by kernel_rfl
theorem in_40 : F40.body.within F40.ntmps = true := by kernel_rfl

theorem table_in : TableIn T := by
  intro f F h
  unfold T at h
  split at h
  · cases h; exact in_3
  · cases h; exact in_4
  · cases h; exact in_5
  · cases h; exact in_6
  · cases h; exact in_7
  · cases h; exact in_8
  · cases h; exact in_9
  · cases h; exact in_10
  · cases h; exact in_11
  · cases h; exact in_12
  · cases h; exact in_13
  · cases h; exact in_14
  · cases h; exact in_15
  · cases h; exact in_16
  · cases h; exact in_17
  · cases h; exact in_18
  · cases h; exact in_19
  · cases h; exact in_20
  · cases h; exact in_21
  · cases h; exact in_22
  · cases h; exact in_23
  · cases h; exact in_24
  · cases h; exact in_25
  · cases h; exact in_26
  · cases h; exact in_27
  · cases h; exact in_28
  · cases h; exact in_29
  · cases h; exact in_30
  · cases h; exact in_31
  · cases h; exact in_32
  · cases h; exact in_33
  · cases h; exact in_34
  · cases h; exact in_35
  · cases h; exact in_36
  · cases h; exact in_37
  · cases h; exact in_38
  · cases h; exact in_39
  · cases h; exact in_40
  · cases h

theorem table_ok : TableOk Try.prog 0 T := by
  intro f F h
  unfold T at h
  split at h
  · cases h; exact ⟨Try.f3, Try.func3, comp_3⟩
  · cases h; exact ⟨Try.f4, Try.func4, comp_4⟩
  · cases h; exact ⟨Try.f5, Try.func5, comp_5⟩
  · cases h; exact ⟨Try.f6, Try.func6, comp_6⟩
  · cases h; exact ⟨Try.f7, Try.func7, comp_7⟩
  · cases h; exact ⟨Try.f8, Try.func8, comp_8⟩
  · cases h; exact ⟨Try.f9, Try.func9, comp_9⟩
  · cases h; exact ⟨Try.f10, Try.func10, comp_10⟩
  · cases h; exact ⟨Try.f11, Try.func11, comp_11⟩
  · cases h; exact ⟨Try.f12, Try.func12, comp_12⟩
  · cases h; exact ⟨Try.f13, Try.func13, comp_13⟩
  · cases h; exact ⟨Try.f14, Try.func14, comp_14⟩
  · cases h; exact ⟨Try.f15, Try.func15, comp_15⟩
  · cases h; exact ⟨Try.f16, Try.func16, comp_16⟩
  · cases h; exact ⟨Try.f17, Try.func17, comp_17⟩
  · cases h; exact ⟨Try.f18, Try.func18, comp_18⟩
  · cases h; exact ⟨Try.f19, Try.func19, comp_19⟩
  · cases h; exact ⟨Try.f20, Try.func20, comp_20⟩
  · cases h; exact ⟨Try.f21, Try.func21, comp_21⟩
  · cases h; exact ⟨Try.f22, Try.func22, comp_22⟩
  · cases h; exact ⟨Try.f23, Try.func23, comp_23⟩
  · cases h; exact ⟨Try.f24, Try.func24, comp_24⟩
  · cases h; exact ⟨Try.f25, Try.func25, comp_25⟩
  · cases h; exact ⟨Try.f26, Try.func26, comp_26⟩
  · cases h; exact ⟨Try.f27, Try.func27, comp_27⟩
  · cases h; exact ⟨Try.f28, Try.func28, comp_28⟩
  · cases h; exact ⟨Try.f29, Try.func29, comp_29⟩
  · cases h; exact ⟨Try.f30, Try.func30, comp_30⟩
  · cases h; exact ⟨Try.f31, Try.func31, comp_31⟩
  · cases h; exact ⟨Try.f32, Try.func32, comp_32⟩
  · cases h; exact ⟨Try.f33, Try.func33, comp_33⟩
  · cases h; exact ⟨Try.f34, Try.func34, comp_34⟩
  · cases h; exact ⟨Try.f35, Try.func35, comp_35⟩
  · cases h; exact ⟨Try.f36, Try.func36, comp_36⟩
  · cases h; exact ⟨Try.f37, Try.func37, comp_37⟩
  · cases h; exact ⟨Try.f38, Try.func38, comp_38⟩
  · cases h; exact ⟨Try.f39, Try.func39, comp_39⟩
  · cases h; exact ⟨Try.f40, Try.func40, comp_40⟩
  · cases h

end Go.Proofs.Ytnhcgicbmnboiaa.Ev
