/- The program's functions as the evaluator takes them, printed by a program of this repository (PrintTab.lean, mktab.py); that they are the program's is proved at the end. -/
import Derived.Test.YtkceclemfhbclaaEvComp
import Derived.Test.YtkceclemfhbclaaEvRun
import Derived.Test.YtkceclemfhbclaaChecked
import Derived.KernelRfl
namespace Go.Proofs.Ytkceclemfhbclaa.Ev
open Go

/-- 'hostler/hostlerlaw13.IdlePolls' -/
def F3 : AFunc := ⟨122, [.tmp 2],
  .seq (.region [
    ⟨(some 2), .mv (.const (.bool false)), none⟩])
  (.seq (.seq (.region [
    ⟨(some 20), .call 5 [], none⟩,
    ⟨(some 21), .un .not (.tmp 20), none⟩,
    ⟨(some 22), .mv (.tmp 21), none⟩,
    ⟨(some 23), .mv (.tmp 0), (some (22, false))⟩,
    ⟨(some 24), .lenS (.tmp 23), (some (22, false))⟩,
    ⟨(some 25), .bin .gtr (.tmp 24) (.const (.int .i64 60)), (some (22, false))⟩,
    ⟨(some 26), .pick (.tmp 22) (.const (.bool true)) (.tmp 25), none⟩])
  (.cond (.tmp 26)
    (.seq (.region [
      ⟨(some 27), .call 5 [], none⟩,
      ⟨(some 2), .mv (.tmp 27), none⟩])
    (.ret))
    (.skip)))
  (.seq (.region [
    ⟨(some 28), .call 6 [(.const (.int .i64 4)), (.const (.int .i64 128))], none⟩,
    ⟨(some 3), .mv (.tmp 28), none⟩])
  (.seq (.seq (.region [
    ⟨(some 29), .mv (.tmp 0), none⟩,
    ⟨(some 30), .lenS (.tmp 29), none⟩,
    ⟨(some 31), .mv (.const (.int .i64 0)), none⟩])
  (.block 0 (.loop (.seq (.region [
      ⟨(some 32), .bin .lss (.tmp 31) (.tmp 30), none⟩])
    (.seq (.cond (.tmp 32)
      (.skip)
      (.exit 0))
    (.seq (.block 1 (.seq (.region [
      ⟨(some 33), .idxAddr 1 none (.tmp 29) (.tmp 31), none⟩,
      ⟨(some 34), .load1 (.tmp 33), none⟩,
      ⟨(some 5), .mv (.tmp 34), none⟩])
    (.seq (.seq (.region [
      ⟨(some 35), .mv (.tmp 5), none⟩,
      ⟨(some 36), .bin .rem (.tmp 35) (.const (.int .u8 3)), none⟩,
      ⟨(some 37), .bin .eql (.tmp 36) (.const (.int .u8 0)), none⟩])
    (.cond (.tmp 37)
      (.region [
        ⟨(some 38), .mv (.tmp 3), none⟩,
        ⟨(some 39), .call 7 [(.tmp 38)], none⟩])
      (.seq (.region [
        ⟨(some 41), .mv (.tmp 3), none⟩,
        ⟨(some 42), .call 8 [(.tmp 41)], none⟩,
        ⟨(some 40), .mv (.tmp 42), none⟩,
        ⟨(some 43), .extract 0 (.tmp 40), none⟩,
        ⟨(some 44), .extract 1 (.tmp 40), none⟩,
        ⟨(some 6), .mv (.tmp 43), none⟩,
        ⟨(some 7), .mv (.tmp 44), none⟩])
      (.seq (.region [
        ⟨(some 46), .mv (.tmp 3), none⟩,
        ⟨(some 47), .mv (.tmp 5), none⟩,
        ⟨(some 48), .toInt .i64 (.tmp 47), none⟩,
        ⟨(some 49), .bin .rem (.tmp 48) (.const (.int .i64 128)), none⟩,
        ⟨(some 50), .call 9 [(.tmp 46), (.tmp 49)], none⟩,
        ⟨(some 45), .mv (.tmp 50), none⟩,
        ⟨(some 51), .extract 0 (.tmp 45), none⟩,
        ⟨(some 52), .extract 1 (.tmp 45), none⟩,
        ⟨(some 8), .mv (.tmp 51), none⟩,
        ⟨(some 9), .mv (.tmp 52), none⟩])
      (.seq (.region [
        ⟨(some 54), .mv (.tmp 3), none⟩,
        ⟨(some 55), .call 8 [(.tmp 54)], none⟩,
        ⟨(some 53), .mv (.tmp 55), none⟩,
        ⟨(some 56), .extract 0 (.tmp 53), none⟩,
        ⟨(some 57), .extract 1 (.tmp 53), none⟩,
        ⟨(some 10), .mv (.tmp 56), none⟩,
        ⟨(some 11), .mv (.tmp 57), none⟩])
      (.seq (.region [
        ⟨(some 58), .mv (.tmp 9), none⟩,
        ⟨(some 59), .mv (.tmp 58), none⟩,
        ⟨(some 60), .mv (.tmp 8), (some (59, true))⟩,
        ⟨(some 61), .mv (.tmp 7), (some (59, true))⟩,
        ⟨(some 62), .eqBool false (.tmp 60) (.tmp 61), (some (59, true))⟩,
        ⟨(some 63), .mv (.tmp 62), (some (59, true))⟩,
        ⟨(some 64), .mv (.tmp 11), (some (63, false))⟩,
        ⟨(some 65), .un .not (.tmp 64), (some (63, false))⟩,
        ⟨(some 66), .pick (.tmp 63) (.const (.bool true)) (.tmp 65), (some (59, true))⟩,
        ⟨(some 67), .pick (.tmp 59) (.tmp 66) (.const (.bool false)), none⟩,
        ⟨(some 68), .mv (.tmp 67), none⟩,
        ⟨(some 69), .mv (.tmp 8), (some (68, false))⟩,
        ⟨(some 70), .mv (.tmp 69), (some (68, false))⟩,
        ⟨(some 71), .mv (.tmp 10), (some (70, true))⟩,
        ⟨(some 72), .mv (.tmp 5), (some (70, true))⟩,
        ⟨(some 73), .toInt .i64 (.tmp 72), (some (70, true))⟩,
        ⟨(some 74), .bin .rem (.tmp 73) (.const (.int .i64 128)), (some (70, true))⟩,
        ⟨(some 75), .bin .neq (.tmp 71) (.tmp 74), (some (70, true))⟩,
        ⟨(some 76), .mv (.tmp 75), (some (70, true))⟩,
        ⟨(some 77), .mv (.tmp 9), (some (76, false))⟩,
        ⟨(some 78), .un .not (.tmp 77), (some (76, false))⟩,
        ⟨(some 79), .pick (.tmp 76) (.const (.bool true)) (.tmp 78), (some (70, true))⟩,
        ⟨(some 80), .pick (.tmp 70) (.tmp 79) (.const (.bool false)), (some (68, false))⟩,
        ⟨(some 81), .pick (.tmp 68) (.const (.bool true)) (.tmp 80), none⟩])
      (.cond (.tmp 81)
        (.seq (.region [
          ⟨(some 2), .mv (.const (.bool false)), none⟩])
        (.ret))
        (.skip))))))))
    (.seq (.region [
      ⟨(some 83), .mv (.tmp 3), none⟩,
      ⟨(some 84), .call 8 [(.tmp 83)], none⟩,
      ⟨(some 82), .mv (.tmp 84), none⟩,
      ⟨(some 85), .extract 0 (.tmp 82), none⟩,
      ⟨(some 86), .extract 1 (.tmp 82), none⟩,
      ⟨(some 12), .mv (.tmp 85), none⟩,
      ⟨(some 13), .mv (.tmp 86), none⟩])
    (.seq (.region [
      ⟨(some 87), .mv (.tmp 3), none⟩,
      ⟨(some 88), .call 10 [(.tmp 87)], none⟩,
      ⟨(some 89), .bin .gtr (.tmp 88) (.const (.int .i64 0)), none⟩,
      ⟨(some 90), .mv (.tmp 89), none⟩,
      ⟨(some 91), .mv (.tmp 13), (some (90, true))⟩,
      ⟨(some 92), .un .not (.tmp 91), (some (90, true))⟩,
      ⟨(some 93), .pick (.tmp 90) (.tmp 92) (.const (.bool false)), none⟩])
    (.cond (.tmp 93)
      (.seq (.region [
        ⟨(some 2), .mv (.const (.bool false)), none⟩])
      (.ret))
      (.skip)))))))
    (.region [
      ⟨(some 94), .bin .add (.tmp 31) (.const (.int .i64 1)), none⟩,
      ⟨(some 31), .mv (.tmp 94), none⟩])))))))
  (.seq (.block 2 (.loop (.seq (.seq (.region [
      ⟨(some 95), .mv (.tmp 3), none⟩,
      ⟨(some 96), .call 10 [(.tmp 95)], none⟩,
      ⟨(some 97), .bin .gtr (.tmp 96) (.const (.int .i64 0)), none⟩])
    (.cond (.tmp 97)
      (.skip)
      (.exit 2)))
    (.block 3 (.region [
      ⟨(some 98), .mv (.tmp 3), none⟩,
      ⟨(some 99), .call 7 [(.tmp 98)], none⟩])))))
  (.seq (.region [
    ⟨(some 101), .mv (.tmp 3), none⟩,
    ⟨(some 102), .call 8 [(.tmp 101)], none⟩,
    ⟨(some 100), .mv (.tmp 102), none⟩,
    ⟨(some 103), .extract 0 (.tmp 100), none⟩,
    ⟨(some 104), .extract 1 (.tmp 100), none⟩,
    ⟨(some 14), .mv (.tmp 103), none⟩,
    ⟨(some 15), .mv (.tmp 104), none⟩])
  (.seq (.region [
    ⟨(some 106), .mv (.tmp 3), none⟩,
    ⟨(some 107), .call 7 [(.tmp 106)], none⟩,
    ⟨(some 105), .mv (.tmp 107), none⟩,
    ⟨(some 108), .extract 0 (.tmp 105), none⟩,
    ⟨(some 109), .extract 1 (.tmp 105), none⟩,
    ⟨(some 16), .mv (.tmp 108), none⟩,
    ⟨(some 17), .mv (.tmp 109), none⟩])
  (.seq (.region [
    ⟨(some 111), .mv (.tmp 3), none⟩,
    ⟨(some 112), .call 8 [(.tmp 111)], none⟩,
    ⟨(some 110), .mv (.tmp 112), none⟩,
    ⟨(some 113), .extract 0 (.tmp 110), none⟩,
    ⟨(some 114), .extract 1 (.tmp 110), none⟩,
    ⟨(some 18), .mv (.tmp 113), none⟩,
    ⟨(some 19), .mv (.tmp 114), none⟩])
  (.seq (.region [
    ⟨(some 115), .mv (.tmp 15), none⟩,
    ⟨(some 116), .mv (.tmp 17), none⟩,
    ⟨(some 117), .eqBool false (.tmp 115) (.tmp 116), none⟩,
    ⟨(some 118), .mv (.tmp 117), none⟩,
    ⟨(some 119), .mv (.tmp 19), (some (118, true))⟩,
    ⟨(some 120), .un .not (.tmp 119), (some (118, true))⟩,
    ⟨(some 121), .pick (.tmp 118) (.tmp 120) (.const (.bool false)), none⟩,
    ⟨(some 2), .mv (.tmp 121), none⟩])
  (.ret)))))))))⟩

/-- 'hostler/hostlerlaw13.IdleLeaves' -/
def F4 : AFunc := ⟨116, [.tmp 6],
  .seq (.region [
    ⟨(some 6), .mv (.const (.bool false)), none⟩])
  (.seq (.seq (.region [
    ⟨(some 20), .call 5 [], none⟩,
    ⟨(some 21), .un .not (.tmp 20), none⟩])
  (.cond (.tmp 21)
    (.seq (.region [
      ⟨(some 6), .mv (.const (.bool false)), none⟩])
    (.ret))
    (.skip)))
  (.seq (.region [
    ⟨(some 22), .call 6 [(.const (.int .i64 1)), (.const (.int .i64 128))], none⟩,
    ⟨(some 7), .mv (.tmp 22), none⟩])
  (.seq (.region [
    ⟨(some 23), .mv (.tmp 0), none⟩,
    ⟨(some 24), .bin .rem (.tmp 23) (.const (.int .u8 128)), none⟩,
    ⟨(some 25), .toInt .i64 (.tmp 24), none⟩,
    ⟨(some 26), .mv (.tmp 1), none⟩,
    ⟨(some 27), .bin .rem (.tmp 26) (.const (.int .u8 128)), none⟩,
    ⟨(some 28), .toInt .i64 (.tmp 27), none⟩,
    ⟨(some 8), .mv (.tmp 25), none⟩,
    ⟨(some 9), .mv (.tmp 28), none⟩])
  (.seq (.seq (.region [
    ⟨(some 29), .mv (.tmp 8), none⟩,
    ⟨(some 30), .mv (.tmp 9), none⟩,
    ⟨(some 31), .bin .eql (.tmp 29) (.tmp 30), none⟩])
  (.cond (.tmp 31)
    (.region [
      ⟨(some 32), .mv (.tmp 9), none⟩,
      ⟨(some 33), .bin .add (.tmp 32) (.const (.int .i64 1)), none⟩,
      ⟨(some 34), .bin .rem (.tmp 33) (.const (.int .i64 128)), none⟩,
      ⟨(some 9), .mv (.tmp 34), none⟩])
    (.skip)))
  (.seq (.region [
    ⟨(some 35), .mv (.tmp 7), none⟩,
    ⟨(some 36), .mv (.tmp 8), none⟩,
    ⟨(some 37), .call 9 [(.tmp 35), (.tmp 36)], none⟩])
  (.seq (.seq (.region [
    ⟨(some 38), .mv (.tmp 2), none⟩,
    ⟨(some 39), .mv (.tmp 8), none⟩,
    ⟨(some 40), .bin .neq (.tmp 38) (.tmp 39), none⟩,
    ⟨(some 41), .mv (.tmp 40), none⟩,
    ⟨(some 42), .mv (.tmp 7), (some (41, true))⟩,
    ⟨(some 43), .mv (.tmp 2), (some (41, true))⟩,
    ⟨(some 44), .call 11 [(.tmp 42), (.tmp 43)], (some (41, true))⟩,
    ⟨(some 45), .pick (.tmp 41) (.tmp 44) (.const (.bool false)), none⟩])
  (.cond (.tmp 45)
    (.seq (.region [
      ⟨(some 6), .mv (.const (.bool false)), none⟩])
    (.ret))
    (.skip)))
  (.seq (.seq (.region [
    ⟨(some 47), .mv (.tmp 7), none⟩,
    ⟨(some 48), .call 8 [(.tmp 47)], none⟩,
    ⟨(some 46), .mv (.tmp 48), none⟩,
    ⟨(some 49), .extract 0 (.tmp 46), none⟩,
    ⟨(some 50), .extract 1 (.tmp 46), none⟩,
    ⟨(some 10), .mv (.tmp 49), none⟩,
    ⟨(some 11), .mv (.tmp 50), none⟩])
  (.seq (.region [
    ⟨(some 51), .mv (.tmp 11), none⟩,
    ⟨(some 52), .un .not (.tmp 51), none⟩,
    ⟨(some 53), .mv (.tmp 52), none⟩,
    ⟨(some 54), .mv (.tmp 10), (some (53, false))⟩,
    ⟨(some 55), .mv (.tmp 8), (some (53, false))⟩,
    ⟨(some 56), .bin .neq (.tmp 54) (.tmp 55), (some (53, false))⟩,
    ⟨(some 57), .pick (.tmp 53) (.const (.bool true)) (.tmp 56), none⟩,
    ⟨(some 58), .mv (.tmp 57), none⟩,
    ⟨(some 59), .mv (.tmp 7), (some (58, false))⟩,
    ⟨(some 60), .mv (.tmp 8), (some (58, false))⟩,
    ⟨(some 61), .call 11 [(.tmp 59), (.tmp 60)], (some (58, false))⟩,
    ⟨(some 62), .un .not (.tmp 61), (some (58, false))⟩,
    ⟨(some 63), .pick (.tmp 58) (.const (.bool true)) (.tmp 62), none⟩,
    ⟨(some 64), .mv (.tmp 63), none⟩,
    ⟨(some 65), .mv (.tmp 7), (some (64, false))⟩,
    ⟨(some 66), .mv (.tmp 8), (some (64, false))⟩,
    ⟨(some 67), .call 11 [(.tmp 65), (.tmp 66)], (some (64, false))⟩,
    ⟨(some 68), .pick (.tmp 64) (.const (.bool true)) (.tmp 67), none⟩])
  (.cond (.tmp 68)
    (.seq (.region [
      ⟨(some 6), .mv (.const (.bool false)), none⟩])
    (.ret))
    (.skip))))
  (.seq (.seq (.region [
    ⟨(some 70), .mv (.tmp 7), none⟩,
    ⟨(some 71), .call 8 [(.tmp 70)], none⟩,
    ⟨(some 69), .mv (.tmp 71), none⟩,
    ⟨(some 72), .extract 0 (.tmp 69), none⟩,
    ⟨(some 73), .extract 1 (.tmp 69), none⟩,
    ⟨(some 12), .mv (.tmp 72), none⟩,
    ⟨(some 13), .mv (.tmp 73), none⟩])
  (.seq (.region [
    ⟨(some 74), .mv (.tmp 13), none⟩])
  (.cond (.tmp 74)
    (.seq (.region [
      ⟨(some 6), .mv (.const (.bool false)), none⟩])
    (.ret))
    (.skip))))
  (.seq (.region [
    ⟨(some 76), .mv (.tmp 7), none⟩,
    ⟨(some 77), .mv (.tmp 9), none⟩,
    ⟨(some 78), .call 9 [(.tmp 76), (.tmp 77)], none⟩,
    ⟨(some 75), .mv (.tmp 78), none⟩,
    ⟨(some 79), .extract 0 (.tmp 75), none⟩,
    ⟨(some 80), .extract 1 (.tmp 75), none⟩,
    ⟨(some 14), .mv (.tmp 79), none⟩,
    ⟨(some 15), .mv (.tmp 80), none⟩])
  (.seq (.region [
    ⟨(some 82), .mv (.tmp 7), none⟩,
    ⟨(some 83), .mv (.tmp 8), none⟩,
    ⟨(some 84), .call 9 [(.tmp 82), (.tmp 83)], none⟩,
    ⟨(some 81), .mv (.tmp 84), none⟩,
    ⟨(some 85), .extract 0 (.tmp 81), none⟩,
    ⟨(some 86), .extract 1 (.tmp 81), none⟩,
    ⟨(some 16), .mv (.tmp 85), none⟩,
    ⟨(some 17), .mv (.tmp 86), none⟩])
  (.seq (.region [
    ⟨(some 88), .mv (.tmp 7), none⟩,
    ⟨(some 89), .call 8 [(.tmp 88)], none⟩,
    ⟨(some 87), .mv (.tmp 89), none⟩,
    ⟨(some 90), .extract 0 (.tmp 87), none⟩,
    ⟨(some 91), .extract 1 (.tmp 87), none⟩,
    ⟨(some 18), .mv (.tmp 90), none⟩,
    ⟨(some 19), .mv (.tmp 91), none⟩])
  (.seq (.region [
    ⟨(some 92), .mv (.tmp 14), none⟩,
    ⟨(some 93), .mv (.tmp 92), none⟩,
    ⟨(some 94), .mv (.tmp 15), (some (93, true))⟩,
    ⟨(some 95), .pick (.tmp 93) (.tmp 94) (.const (.bool false)), none⟩,
    ⟨(some 96), .mv (.tmp 95), none⟩,
    ⟨(some 97), .mv (.tmp 16), (some (96, true))⟩,
    ⟨(some 98), .un .not (.tmp 97), (some (96, true))⟩,
    ⟨(some 99), .pick (.tmp 96) (.tmp 98) (.const (.bool false)), none⟩,
    ⟨(some 100), .mv (.tmp 99), none⟩,
    ⟨(some 101), .mv (.tmp 17), (some (100, true))⟩,
    ⟨(some 102), .pick (.tmp 100) (.tmp 101) (.const (.bool false)), none⟩,
    ⟨(some 103), .mv (.tmp 102), none⟩,
    ⟨(some 104), .mv (.tmp 19), (some (103, true))⟩,
    ⟨(some 105), .pick (.tmp 103) (.tmp 104) (.const (.bool false)), none⟩,
    ⟨(some 106), .mv (.tmp 105), none⟩,
    ⟨(some 107), .mv (.tmp 18), (some (106, true))⟩,
    ⟨(some 108), .mv (.tmp 9), (some (106, true))⟩,
    ⟨(some 109), .bin .eql (.tmp 107) (.tmp 108), (some (106, true))⟩,
    ⟨(some 110), .pick (.tmp 106) (.tmp 109) (.const (.bool false)), none⟩,
    ⟨(some 111), .mv (.tmp 110), none⟩,
    ⟨(some 112), .mv (.tmp 7), (some (111, true))⟩,
    ⟨(some 113), .call 10 [(.tmp 112)], (some (111, true))⟩,
    ⟨(some 114), .bin .eql (.tmp 113) (.const (.int .i64 1)), (some (111, true))⟩,
    ⟨(some 115), .pick (.tmp 111) (.tmp 114) (.const (.bool false)), none⟩,
    ⟨(some 6), .mv (.tmp 115), none⟩])
  (.ret)))))))))))))⟩

/-- 'hostler/hostlerlaw13.lives' -/
def F5 : AFunc := ⟨69, [.tmp 0],
  .seq (.region [
    ⟨(some 0), .mv (.const (.bool false)), none⟩])
  (.seq (.region [
    ⟨(some 12), .call 6 [(.const (.int .i64 4)), (.const (.int .i64 4))], none⟩,
    ⟨(some 1), .mv (.tmp 12), none⟩])
  (.seq (.seq (.region [
    ⟨(some 13), .mv (.tmp 1), none⟩,
    ⟨(some 14), .cmpNil false 0 (.tmp 13) (.const .nilptr), none⟩])
  (.cond (.tmp 14)
    (.seq (.region [
      ⟨(some 0), .mv (.const (.bool false)), none⟩])
    (.ret))
    (.skip)))
  (.seq (.region [
    ⟨(some 16), .mv (.tmp 1), none⟩,
    ⟨(some 17), .call 9 [(.tmp 16), (.const (.int .i64 2))], none⟩,
    ⟨(some 15), .mv (.tmp 17), none⟩,
    ⟨(some 18), .extract 0 (.tmp 15), none⟩,
    ⟨(some 19), .extract 1 (.tmp 15), none⟩,
    ⟨(some 2), .mv (.tmp 18), none⟩,
    ⟨(some 3), .mv (.tmp 19), none⟩])
  (.seq (.region [
    ⟨(some 21), .mv (.tmp 1), none⟩,
    ⟨(some 22), .call 9 [(.tmp 21), (.const (.int .i64 3))], none⟩,
    ⟨(some 20), .mv (.tmp 22), none⟩,
    ⟨(some 23), .extract 0 (.tmp 20), none⟩,
    ⟨(some 24), .extract 1 (.tmp 20), none⟩,
    ⟨(some 4), .mv (.tmp 23), none⟩,
    ⟨(some 5), .mv (.tmp 24), none⟩])
  (.seq (.region [
    ⟨(some 26), .mv (.tmp 1), none⟩,
    ⟨(some 27), .call 7 [(.tmp 26)], none⟩,
    ⟨(some 25), .mv (.tmp 27), none⟩,
    ⟨(some 28), .extract 0 (.tmp 25), none⟩,
    ⟨(some 29), .extract 1 (.tmp 25), none⟩,
    ⟨(some 6), .mv (.tmp 28), none⟩,
    ⟨(some 7), .mv (.tmp 29), none⟩])
  (.seq (.region [
    ⟨(some 31), .mv (.tmp 1), none⟩,
    ⟨(some 32), .call 7 [(.tmp 31)], none⟩,
    ⟨(some 30), .mv (.tmp 32), none⟩,
    ⟨(some 33), .extract 0 (.tmp 30), none⟩,
    ⟨(some 34), .extract 1 (.tmp 30), none⟩,
    ⟨(some 8), .mv (.tmp 33), none⟩,
    ⟨(some 9), .mv (.tmp 34), none⟩])
  (.seq (.region [
    ⟨(some 36), .mv (.tmp 1), none⟩,
    ⟨(some 37), .call 7 [(.tmp 36)], none⟩,
    ⟨(some 35), .mv (.tmp 37), none⟩,
    ⟨(some 38), .extract 0 (.tmp 35), none⟩,
    ⟨(some 39), .extract 1 (.tmp 35), none⟩,
    ⟨(some 10), .mv (.tmp 38), none⟩,
    ⟨(some 11), .mv (.tmp 39), none⟩])
  (.seq (.region [
    ⟨(some 40), .mv (.tmp 2), none⟩,
    ⟨(some 41), .mv (.tmp 40), none⟩,
    ⟨(some 42), .mv (.tmp 3), (some (41, true))⟩,
    ⟨(some 43), .pick (.tmp 41) (.tmp 42) (.const (.bool false)), none⟩,
    ⟨(some 44), .mv (.tmp 43), none⟩,
    ⟨(some 45), .mv (.tmp 4), (some (44, true))⟩,
    ⟨(some 46), .un .not (.tmp 45), (some (44, true))⟩,
    ⟨(some 47), .pick (.tmp 44) (.tmp 46) (.const (.bool false)), none⟩,
    ⟨(some 48), .mv (.tmp 47), none⟩,
    ⟨(some 49), .mv (.tmp 5), (some (48, true))⟩,
    ⟨(some 50), .pick (.tmp 48) (.tmp 49) (.const (.bool false)), none⟩,
    ⟨(some 51), .mv (.tmp 50), none⟩,
    ⟨(some 52), .mv (.tmp 7), (some (51, true))⟩,
    ⟨(some 53), .pick (.tmp 51) (.tmp 52) (.const (.bool false)), none⟩,
    ⟨(some 54), .mv (.tmp 53), none⟩,
    ⟨(some 55), .mv (.tmp 6), (some (54, true))⟩,
    ⟨(some 56), .bin .eql (.tmp 55) (.const (.int .i64 3)), (some (54, true))⟩,
    ⟨(some 57), .pick (.tmp 54) (.tmp 56) (.const (.bool false)), none⟩,
    ⟨(some 58), .mv (.tmp 57), none⟩,
    ⟨(some 59), .mv (.tmp 9), (some (58, true))⟩,
    ⟨(some 60), .pick (.tmp 58) (.tmp 59) (.const (.bool false)), none⟩,
    ⟨(some 61), .mv (.tmp 60), none⟩,
    ⟨(some 62), .mv (.tmp 8), (some (61, true))⟩,
    ⟨(some 63), .bin .eql (.tmp 62) (.const (.int .i64 2)), (some (61, true))⟩,
    ⟨(some 64), .pick (.tmp 61) (.tmp 63) (.const (.bool false)), none⟩,
    ⟨(some 65), .mv (.tmp 64), none⟩,
    ⟨(some 66), .mv (.tmp 11), (some (65, true))⟩,
    ⟨(some 67), .un .not (.tmp 66), (some (65, true))⟩,
    ⟨(some 68), .pick (.tmp 65) (.tmp 67) (.const (.bool false)), none⟩,
    ⟨(some 0), .mv (.tmp 68), none⟩])
  (.ret)))))))))⟩

/-- 'hostler/idle.New' -/
def F6 : AFunc := ⟨14, [.tmp 4],
  .seq (.region [
    ⟨(some 4), .mv (.const .nilptr), none⟩])
  (.seq (.region [
    ⟨(some 5), .mv (.tmp 0), none⟩,
    ⟨(some 6), .max2 (.const (.int .i64 1)) (.tmp 5), none⟩,
    ⟨(some 7), .min2 (.tmp 6) (.const (.int .i64 64)), none⟩,
    ⟨(some 8), .call 12 [(.tmp 7)], none⟩,
    ⟨(some 9), .mv (.tmp 1), none⟩,
    ⟨(some 10), .max2 (.const (.int .i64 1)) (.tmp 9), none⟩,
    ⟨(some 11), .min2 (.tmp 10) (.const (.int .i64 128)), none⟩,
    ⟨(some 12), .build [.nilptr, .nilslice, .nilslice, (.int .i64 0), (.int .i64 0)] [((0, 1), (.tmp 8)), ((3, 1), (.const (.int .i64 (-1)))), ((4, 1), (.tmp 11))], none⟩,
    ⟨(some 13), .box (.tmp 12), none⟩,
    ⟨(some 4), .mv (.tmp 13), none⟩])
  (.ret))⟩

/-- '(*hostler/idle.Idle).TakeM' -/
def F7 : AFunc := ⟨44, [.tmp 2, .tmp 3],
  .seq (.region [
    ⟨(some 2), .mv (.const (.int .i64 0)), none⟩,
    ⟨(some 3), .mv (.const (.bool false)), none⟩])
  (.seq (.seq (.region [
    ⟨(some 8), .mv (.tmp 0), none⟩,
    ⟨(some 9), .nilCheck (.tmp 8), none⟩,
    ⟨(some 10), .fieldAddr 2 (.tmp 9), none⟩,
    ⟨(some 11), .load1 (.tmp 10), none⟩,
    ⟨(some 12), .lenS (.tmp 11), none⟩,
    ⟨(some 4), .mv (.tmp 12), none⟩])
  (.seq (.region [
    ⟨(some 13), .mv (.tmp 4), none⟩,
    ⟨(some 14), .bin .gtr (.tmp 13) (.const (.int .i64 0)), none⟩])
  (.cond (.tmp 14)
    (.seq (.region [
      ⟨(some 15), .mv (.tmp 0), none⟩,
      ⟨(some 16), .nilCheck (.tmp 15), none⟩,
      ⟨(some 17), .fieldAddr 2 (.tmp 16), none⟩,
      ⟨(some 18), .load1 (.tmp 17), none⟩,
      ⟨(some 19), .mv (.tmp 4), none⟩,
      ⟨(some 20), .bin .sub (.tmp 19) (.const (.int .i64 1)), none⟩,
      ⟨(some 21), .idxAddr 1 none (.tmp 18) (.tmp 20), none⟩,
      ⟨(some 22), .load1 (.tmp 21), none⟩,
      ⟨(some 5), .mv (.tmp 22), none⟩])
    (.seq (.region [
      ⟨(some 23), .mv (.tmp 0), none⟩,
      ⟨(some 24), .mv (.tmp 0), none⟩,
      ⟨(some 25), .nilCheck (.tmp 24), none⟩,
      ⟨(some 26), .fieldAddr 2 (.tmp 25), none⟩,
      ⟨(some 27), .load1 (.tmp 26), none⟩,
      ⟨(some 28), .mv (.tmp 4), none⟩,
      ⟨(some 29), .bin .sub (.tmp 28) (.const (.int .i64 1)), none⟩,
      ⟨(some 30), .slc 1 none (.tmp 27) none (some (.tmp 29)) none, none⟩,
      ⟨(some 31), .nilCheck (.tmp 23), none⟩,
      ⟨(some 32), .fieldAddr 2 (.tmp 31), none⟩,
      ⟨none, .store 1 (.tmp 32) (.tmp 30), none⟩])
    (.seq (.region [
      ⟨(some 33), .mv (.tmp 5), none⟩,
      ⟨(some 2), .mv (.tmp 33), none⟩,
      ⟨(some 3), .mv (.const (.bool true)), none⟩])
    (.ret))))
    (.skip))))
  (.seq (.region [
    ⟨(some 35), .mv (.tmp 0), none⟩,
    ⟨(some 36), .call 8 [(.tmp 35)], none⟩,
    ⟨(some 34), .mv (.tmp 36), none⟩,
    ⟨(some 37), .extract 0 (.tmp 34), none⟩,
    ⟨(some 38), .extract 1 (.tmp 34), none⟩,
    ⟨(some 6), .mv (.tmp 37), none⟩,
    ⟨(some 7), .mv (.tmp 38), none⟩])
  (.seq (.region [
    ⟨(some 39), .mv (.tmp 0), none⟩,
    ⟨(some 40), .nilCheck (.tmp 39), none⟩,
    ⟨(some 41), .fieldAddr 3 (.tmp 40), none⟩,
    ⟨none, .store 1 (.tmp 41) (.const (.int .i64 (-1))), none⟩])
  (.seq (.region [
    ⟨(some 42), .mv (.tmp 6), none⟩,
    ⟨(some 43), .mv (.tmp 7), none⟩,
    ⟨(some 2), .mv (.tmp 42), none⟩,
    ⟨(some 3), .mv (.tmp 43), none⟩])
  (.ret)))))⟩

/-- '(*hostler/idle.Idle).Poller' -/
def F8 : AFunc := ⟨14, [.tmp 2, .tmp 3],
  .seq (.region [
    ⟨(some 2), .mv (.const (.int .i64 0)), none⟩,
    ⟨(some 3), .mv (.const (.bool false)), none⟩])
  (.seq (.draw [
    (⟨(some 4), .mv (.tmp 0), none⟩, .still),
    (⟨(some 5), .nilCheck (.tmp 4), none⟩, .still),
    (⟨(some 6), .fieldAddr 3 (.tmp 5), none⟩, .still),
    (⟨(some 7), .load1 (.tmp 6), none⟩, .reads 0 0),
    (⟨(some 8), .max2 (.const (.int .i64 0)) (.tmp 7), none⟩, .still),
    (⟨(some 9), .mv (.tmp 0), none⟩, .still),
    (⟨(some 10), .nilCheck (.tmp 9), none⟩, .still),
    (⟨(some 11), .fieldAddr 3 (.tmp 10), none⟩, .still),
    (⟨(some 12), .load1 (.tmp 11), none⟩, .reads 0 0),
    (⟨(some 13), .bin .neq (.tmp 12) (.const (.int .i64 (-1))), none⟩, .still),
    (⟨(some 2), .mv (.tmp 8), none⟩, .still),
    (⟨(some 3), .mv (.tmp 13), none⟩, .still)])
  (.ret))⟩

/-- '(*hostler/idle.Idle).Stop' -/
def F9 : AFunc := ⟨53, [.tmp 4, .tmp 5],
  .seq (.region [
    ⟨(some 4), .mv (.const (.bool false)), none⟩,
    ⟨(some 5), .mv (.const (.bool false)), none⟩])
  (.seq (.block 0 (.seq (.region [
    ⟨(some 7), .mv (.tmp 1), none⟩,
    ⟨(some 8), .bin .lss (.tmp 7) (.const (.int .i64 0)), none⟩,
    ⟨(some 9), .mv (.tmp 8), none⟩,
    ⟨(some 10), .mv (.tmp 1), (some (9, false))⟩,
    ⟨(some 11), .mv (.tmp 0), (some (9, false))⟩,
    ⟨(some 12), .nilCheck (.tmp 11), (some (9, false))⟩,
    ⟨(some 13), .fieldAddr 4 (.tmp 12), (some (9, false))⟩,
    ⟨(some 14), .load1 (.tmp 13), (some (9, false))⟩,
    ⟨(some 15), .bin .geq (.tmp 10) (.tmp 14), (some (9, false))⟩,
    ⟨(some 16), .pick (.tmp 9) (.const (.bool true)) (.tmp 15), none⟩,
    ⟨(some 17), .mv (.tmp 16), none⟩,
    ⟨(some 18), .mv (.tmp 1), (some (17, false))⟩,
    ⟨(some 19), .mv (.tmp 0), (some (17, false))⟩,
    ⟨(some 20), .nilCheck (.tmp 19), (some (17, false))⟩,
    ⟨(some 21), .fieldAddr 3 (.tmp 20), (some (17, false))⟩,
    ⟨(some 22), .load1 (.tmp 21), (some (17, false))⟩,
    ⟨(some 23), .bin .eql (.tmp 18) (.tmp 22), (some (17, false))⟩,
    ⟨(some 24), .pick (.tmp 17) (.const (.bool true)) (.tmp 23), none⟩,
    ⟨(some 25), .mv (.tmp 24), none⟩,
    ⟨(some 26), .mv (.tmp 0), (some (25, false))⟩,
    ⟨(some 27), .nilCheck (.tmp 26), (some (25, false))⟩,
    ⟨(some 28), .fieldAddr 2 (.tmp 27), (some (25, false))⟩,
    ⟨(some 29), .load1 (.tmp 28), (some (25, false))⟩,
    ⟨(some 30), .mv (.tmp 1), (some (25, false))⟩,
    ⟨(some 31), .call 13 [(.tmp 29), (.tmp 30)], (some (25, false))⟩,
    ⟨(some 32), .pick (.tmp 25) (.const (.bool true)) (.tmp 31), none⟩,
    ⟨(some 6), .mv (.tmp 32), none⟩])
  (.cond (.tmp 6)
    (.seq (.region [
      ⟨(some 4), .mv (.const (.bool false)), none⟩,
      ⟨(some 5), .mv (.const (.bool false)), none⟩])
    (.ret))
    (.seq (.region [
      ⟨(some 34), .mv (.tmp 0), none⟩,
      ⟨(some 35), .nilCheck (.tmp 34), none⟩,
      ⟨(some 36), .fieldAddr 3 (.tmp 35), none⟩,
      ⟨(some 37), .load1 (.tmp 36), none⟩,
      ⟨(some 38), .bin .eql (.tmp 37) (.const (.int .i64 (-1))), none⟩,
      ⟨(some 33), .mv (.tmp 38), none⟩])
    (.cond (.tmp 33)
      (.seq (.region [
        ⟨(some 39), .mv (.tmp 0), none⟩,
        ⟨(some 40), .mv (.tmp 1), none⟩,
        ⟨(some 41), .nilCheck (.tmp 39), none⟩,
        ⟨(some 42), .fieldAddr 3 (.tmp 41), none⟩,
        ⟨none, .store 1 (.tmp 42) (.tmp 40), none⟩])
      (.seq (.region [
        ⟨(some 4), .mv (.const (.bool true)), none⟩,
        ⟨(some 5), .mv (.const (.bool true)), none⟩])
      (.ret)))
      (.skip))))))
  (.seq (.region [
    ⟨(some 43), .mv (.tmp 0), none⟩,
    ⟨(some 44), .mv (.tmp 0), none⟩,
    ⟨(some 45), .nilCheck (.tmp 44), none⟩,
    ⟨(some 46), .fieldAddr 2 (.tmp 45), none⟩,
    ⟨(some 47), .load1 (.tmp 46), none⟩,
    ⟨(some 48), .mv (.tmp 1), none⟩,
    ⟨(some 49), .buildSlice [(.int .i64 0)] 1 [((0, 1), (.tmp 48))], none⟩,
    ⟨(some 50), .append 1 8 [(.int .i64 0)] (.tmp 47) (.tmp 49), none⟩,
    ⟨(some 51), .nilCheck (.tmp 43), none⟩,
    ⟨(some 52), .fieldAddr 2 (.tmp 51), none⟩,
    ⟨none, .store 1 (.tmp 52) (.tmp 50), none⟩])
  (.seq (.region [
    ⟨(some 4), .mv (.const (.bool false)), none⟩,
    ⟨(some 5), .mv (.const (.bool true)), none⟩])
  (.ret))))⟩

/-- '(*hostler/idle.Idle).CountM' -/
def F10 : AFunc := ⟨8, [.tmp 2],
  .seq (.region [
    ⟨(some 2), .mv (.const (.int .i64 0)), none⟩])
  (.seq (.region [
    ⟨(some 3), .mv (.tmp 0), none⟩,
    ⟨(some 4), .nilCheck (.tmp 3), none⟩,
    ⟨(some 5), .fieldAddr 2 (.tmp 4), none⟩,
    ⟨(some 6), .load1 (.tmp 5), none⟩,
    ⟨(some 7), .lenS (.tmp 6), none⟩,
    ⟨(some 2), .mv (.tmp 7), none⟩])
  (.ret))⟩

/-- '(*hostler/idle.Idle).Leave' -/
def F11 : AFunc := ⟨18, [.tmp 4],
  .seq (.region [
    ⟨(some 4), .mv (.const (.bool false)), none⟩])
  (.seq (.seq (.region [
    ⟨(some 5), .mv (.tmp 1), none⟩,
    ⟨(some 6), .bin .lss (.tmp 5) (.const (.int .i64 0)), none⟩,
    ⟨(some 7), .mv (.tmp 6), none⟩,
    ⟨(some 8), .mv (.tmp 1), (some (7, false))⟩,
    ⟨(some 9), .mv (.tmp 0), (some (7, false))⟩,
    ⟨(some 10), .nilCheck (.tmp 9), (some (7, false))⟩,
    ⟨(some 11), .fieldAddr 3 (.tmp 10), (some (7, false))⟩,
    ⟨(some 12), .load1 (.tmp 11), (some (7, false))⟩,
    ⟨(some 13), .bin .neq (.tmp 8) (.tmp 12), (some (7, false))⟩,
    ⟨(some 14), .pick (.tmp 7) (.const (.bool true)) (.tmp 13), none⟩])
  (.cond (.tmp 14)
    (.seq (.region [
      ⟨(some 4), .mv (.const (.bool false)), none⟩])
    (.ret))
    (.skip)))
  (.seq (.region [
    ⟨(some 15), .mv (.tmp 0), none⟩,
    ⟨(some 16), .nilCheck (.tmp 15), none⟩,
    ⟨(some 17), .fieldAddr 3 (.tmp 16), none⟩,
    ⟨none, .store 1 (.tmp 17) (.const (.int .i64 (-1))), none⟩])
  (.seq (.region [
    ⟨(some 4), .mv (.const (.bool true)), none⟩])
  (.ret))))⟩

/-- 'hostler/mask.New' -/
def F12 : AFunc := ⟨14, [.tmp 2],
  .seq (.region [
    ⟨(some 2), .mv (.const .nilptr), none⟩])
  (.seq (.region [
    ⟨(some 3), .mv (.tmp 0), none⟩,
    ⟨(some 4), .max2 (.const (.int .i64 0)) (.tmp 3), none⟩,
    ⟨(some 5), .min2 (.tmp 4) (.const (.int .i64 4096)), none⟩,
    ⟨(some 0), .mv (.tmp 5), none⟩])
  (.seq (.region [
    ⟨(some 6), .mv (.tmp 0), none⟩,
    ⟨(some 7), .mv (.tmp 0), none⟩,
    ⟨(some 8), .bin .add (.tmp 7) (.const (.int .i64 64)), none⟩,
    ⟨(some 9), .bin .sub (.tmp 8) (.const (.int .i64 1)), none⟩,
    ⟨(some 10), .bin .quo (.tmp 9) (.const (.int .i64 64)), none⟩,
    ⟨(some 11), .mkslice 1 8 [(.int .u64 0)] (.tmp 10) (.tmp 10), none⟩,
    ⟨(some 12), .build [(.int .i64 0), .nilslice] [((0, 1), (.tmp 6)), ((1, 1), (.tmp 11))], none⟩,
    ⟨(some 13), .box (.tmp 12), none⟩,
    ⟨(some 2), .mv (.tmp 13), none⟩])
  (.ret)))⟩

/-- 'slices.Contains[[]int,int]' -/
def F13 : AFunc := ⟨9, [.tmp 4],
  .seq (.region [
    ⟨(some 4), .mv (.const (.bool false)), none⟩])
  (.seq (.region [
    ⟨(some 5), .mv (.tmp 0), none⟩,
    ⟨(some 6), .mv (.tmp 1), none⟩,
    ⟨(some 7), .call 14 [(.tmp 5), (.tmp 6)], none⟩,
    ⟨(some 8), .bin .geq (.tmp 7) (.const (.int .i64 0)), none⟩,
    ⟨(some 4), .mv (.tmp 8), none⟩])
  (.ret))⟩

/-- 'slices.Index[[]int,int]' -/
def F14 : AFunc := ⟨19, [.tmp 4],
  .seq (.region [
    ⟨(some 4), .mv (.const (.int .i64 0)), none⟩])
  (.seq (.seq (.region [
    ⟨(some 6), .mv (.tmp 0), none⟩,
    ⟨(some 7), .lenS (.tmp 6), none⟩,
    ⟨(some 8), .mv (.const (.int .i64 0)), none⟩])
  (.block 0 (.loop (.seq (.region [
      ⟨(some 9), .bin .lss (.tmp 8) (.tmp 7), none⟩])
    (.seq (.cond (.tmp 9)
      (.skip)
      (.exit 0))
    (.seq (.block 1 (.seq (.region [
      ⟨(some 10), .mv (.tmp 8), none⟩,
      ⟨(some 5), .mv (.tmp 10), none⟩])
    (.seq (.region [
      ⟨(some 11), .mv (.tmp 1), none⟩,
      ⟨(some 12), .mv (.tmp 0), none⟩,
      ⟨(some 13), .mv (.tmp 5), none⟩,
      ⟨(some 14), .idxAddr 1 none (.tmp 12) (.tmp 13), none⟩,
      ⟨(some 15), .load1 (.tmp 14), none⟩,
      ⟨(some 16), .bin .eql (.tmp 11) (.tmp 15), none⟩])
    (.cond (.tmp 16)
      (.seq (.region [
        ⟨(some 17), .mv (.tmp 5), none⟩,
        ⟨(some 4), .mv (.tmp 17), none⟩])
      (.ret))
      (.skip)))))
    (.region [
      ⟨(some 18), .bin .add (.tmp 8) (.const (.int .i64 1)), none⟩,
      ⟨(some 8), .mv (.tmp 18), none⟩])))))))
  (.seq (.region [
    ⟨(some 4), .mv (.const (.int .i64 (-1))), none⟩])
  (.ret)))⟩

def T : ATable := fun f => match f with
  | 3 => some F3
  | 4 => some F4
  | 5 => some F5
  | 6 => some F6
  | 7 => some F7
  | 8 => some F8
  | 9 => some F9
  | 10 => some F10
  | 11 => some F11
  | 12 => some F12
  | 13 => some F13
  | 14 => some F14
  | _ => none

theorem T_3 : T 3 = some F3 := rfl
theorem T_4 : T 4 = some F4 := rfl
theorem T_5 : T 5 = some F5 := rfl
theorem T_6 : T 6 = some F6 := rfl
theorem T_7 : T 7 = some F7 := rfl
theorem T_8 : T 8 = some F8 := rfl
theorem T_9 : T 9 = some F9 := rfl
theorem T_10 : T 10 = some F10 := rfl
theorem T_11 : T 11 = some F11 := rfl
theorem T_12 : T 12 = some F12 := rfl
theorem T_13 : T 13 = some F13 := rfl
theorem T_14 : T 14 = some F14 := rfl

set_option maxRecDepth 100000 in
theorem comp_3 : compFunc Try.prog 0 Try.f3 = some F3 := by kernel_rfl
set_option maxRecDepth 100000 in
theorem comp_4 : compFunc Try.prog 0 Try.f4 = some F4 := by kernel_rfl
set_option maxRecDepth 100000 in
theorem comp_5 : compFunc Try.prog 0 Try.f5 = some F5 := by kernel_rfl
set_option maxRecDepth 100000 in
theorem comp_6 : compFunc Try.prog 0 Try.f6 = some F6 := by kernel_rfl
set_option maxRecDepth 100000 in
theorem comp_7 : compFunc Try.prog 0 Try.f7 = some F7 := by kernel_rfl
set_option maxRecDepth 100000 in
theorem comp_8 : compFunc Try.prog 0 Try.f8 = some F8 := by kernel_rfl
set_option maxRecDepth 100000 in
theorem comp_9 : compFunc Try.prog 0 Try.f9 = some F9 := by kernel_rfl
set_option maxRecDepth 100000 in
theorem comp_10 : compFunc Try.prog 0 Try.f10 = some F10 := by kernel_rfl
set_option maxRecDepth 100000 in
theorem comp_11 : compFunc Try.prog 0 Try.f11 = some F11 := by kernel_rfl
set_option maxRecDepth 100000 in
theorem comp_12 : compFunc Try.prog 0 Try.f12 = some F12 := by kernel_rfl
set_option maxRecDepth 100000 in
theorem comp_13 : compFunc Try.prog 0 Try.f13 = some F13 := by kernel_rfl
set_option maxRecDepth 100000 in
theorem comp_14 : compFunc Try.prog 0 Try.f14 = some F14 := by kernel_rfl
theorem in_3 : F3.body.within F3.ntmps = true := by kernel_rfl
theorem in_4 : F4.body.within F4.ntmps = true := by kernel_rfl
theorem in_5 : F5.body.within F5.ntmps = true := by kernel_rfl
theorem in_6 : F6.body.within F6.ntmps = true := by kernel_rfl
theorem in_7 : F7.body.within F7.ntmps = true := by kernel_rfl
theorem in_8 : F8.body.within F8.ntmps = true := by kernel_rfl
theorem in_9 : F9.body.within F9.ntmps = true := by kernel_rfl
theorem in_10 : F10.body.within F10.ntmps = true := by kernel_rfl
theorem in_11 : F11.body.within F11.ntmps = true := by kernel_rfl
theorem in_12 : F12.body.within F12.ntmps = true := by kernel_rfl
theorem in_13 : F13.body.within F13.ntmps = true := by kernel_rfl
theorem in_14 : F14.body.within F14.ntmps = true := by kernel_rfl

theorem table_in : TableIn T := by
  intro f F h
  unfold T at h
  split at h
  · cases h; exact in_3
  · cases h; exact in_4
  · cases h; exact in_5
  · cases h; exact in_6
  · cases h; exact in_7
  · cases h; exact in_8
  · cases h; exact in_9
  · cases h; exact in_10
  · cases h; exact in_11
  · cases h; exact in_12
  · cases h; exact in_13
  · cases h; exact in_14
  · cases h

theorem table_ok : TableOk Try.prog 0 T := by
  intro f F h
  unfold T at h
  split at h
  · cases h; exact ⟨Try.f3, Try.func3, comp_3⟩
  · cases h; exact ⟨Try.f4, Try.func4, comp_4⟩
  · cases h; exact ⟨Try.f5, Try.func5, comp_5⟩
  · cases h; exact ⟨Try.f6, Try.func6, comp_6⟩
  · cases h; exact ⟨Try.f7, Try.func7, comp_7⟩
  · cases h; exact ⟨Try.f8, Try.func8, comp_8⟩
  · cases h; exact ⟨Try.f9, Try.func9, comp_9⟩
  · cases h; exact ⟨Try.f10, Try.func10, comp_10⟩
  · cases h; exact ⟨Try.f11, Try.func11, comp_11⟩
  · cases h; exact ⟨Try.f12, Try.func12, comp_12⟩
  · cases h; exact ⟨Try.f13, Try.func13, comp_13⟩
  · cases h; exact ⟨Try.f14, Try.func14, comp_14⟩
  · cases h

end Go.Proofs.Ytkceclemfhbclaa.Ev
