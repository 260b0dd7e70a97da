/- The program's functions as the evaluator takes them, printed by a program of this repository (PrintTab.lean, mktab.py); that they are the program's is proved at the end. -/
import Derived.Test.YtkceclemfhbclaaDoorEvComp
import Derived.Test.YtkceclemfhbclaaDoorEvRun
import Derived.Test.YtkceclemfhbclaaDoorChecked
import Derived.KernelRfl
namespace Go.Proofs.YtkceclemfhbclaaDoor.Ev
open Go

/-- 'hostler/hostlerlaw02.MaskDrains' -/
def F3 : AFunc := ⟨64, [.tmp 2],
  .seq (.region [
    ⟨(some 2), .mv (.const (.bool false)), none⟩])
  (.seq (.seq (.region [
    ⟨(some 9), .call 8 [], none⟩,
    ⟨(some 10), .un .not (.tmp 9), none⟩,
    ⟨(some 11), .mv (.tmp 10), none⟩,
    ⟨(some 12), .mv (.tmp 0), (some (11, false))⟩,
    ⟨(some 13), .lenS (.tmp 12), (some (11, false))⟩,
    ⟨(some 14), .bin .gtr (.tmp 13) (.const (.int .i64 60)), (some (11, false))⟩,
    ⟨(some 15), .pick (.tmp 11) (.const (.bool true)) (.tmp 14), none⟩])
  (.cond (.tmp 15)
    (.seq (.region [
      ⟨(some 16), .call 8 [], none⟩,
      ⟨(some 2), .mv (.tmp 16), none⟩])
    (.ret))
    (.skip)))
  (.seq (.region [
    ⟨(some 17), .call 9 [(.const (.int .i64 300))], none⟩,
    ⟨(some 3), .mv (.tmp 17), none⟩])
  (.seq (.seq (.region [
    ⟨(some 18), .mv (.tmp 0), none⟩,
    ⟨(some 19), .lenS (.tmp 18), none⟩,
    ⟨(some 20), .mv (.const (.int .i64 0)), none⟩])
  (.block 0 (.loop (.seq (.region [
      ⟨(some 21), .bin .lss (.tmp 20) (.tmp 19), none⟩])
    (.seq (.cond (.tmp 21)
      (.skip)
      (.exit 0))
    (.seq (.block 1 (.seq (.region [
      ⟨(some 22), .idxAddr 1 none (.tmp 18) (.tmp 20), none⟩,
      ⟨(some 23), .load1 (.tmp 22), none⟩,
      ⟨(some 5), .mv (.tmp 23), none⟩])
    (.region [
      ⟨(some 24), .mv (.tmp 3), none⟩,
      ⟨(some 25), .mv (.tmp 5), none⟩,
      ⟨(some 26), .call 10 [(.tmp 24), (.tmp 25)], none⟩])))
    (.region [
      ⟨(some 27), .bin .add (.tmp 20) (.const (.int .i64 1)), none⟩,
      ⟨(some 20), .mv (.tmp 27), none⟩])))))))
  (.seq (.region [
    ⟨(some 28), .mv (.tmp 3), none⟩,
    ⟨(some 29), .call 11 [(.tmp 28)], none⟩,
    ⟨(some 6), .mv (.tmp 29), none⟩,
    ⟨(some 7), .mv (.const (.int .i64 (-1))), none⟩])
  (.seq (.seq (.region [
    ⟨(some 30), .mv (.tmp 6), none⟩,
    ⟨(some 31), .mv (.const (.int .i64 0)), none⟩])
  (.block 2 (.loop (.seq (.region [
      ⟨(some 32), .bin .lss (.tmp 31) (.tmp 30), none⟩])
    (.seq (.cond (.tmp 32)
      (.skip)
      (.exit 2))
    (.seq (.block 3 (.seq (.region [
      ⟨(some 33), .mv (.tmp 3), none⟩,
      ⟨(some 34), .call 12 [(.tmp 33)], none⟩,
      ⟨(some 8), .mv (.tmp 34), none⟩])
    (.seq (.seq (.region [
      ⟨(some 35), .mv (.tmp 8), none⟩,
      ⟨(some 36), .mv (.tmp 7), none⟩,
      ⟨(some 37), .bin .leq (.tmp 35) (.tmp 36), none⟩,
      ⟨(some 38), .mv (.tmp 37), none⟩,
      ⟨(some 39), .mv (.tmp 3), (some (38, false))⟩,
      ⟨(some 40), .mv (.tmp 8), (some (38, false))⟩,
      ⟨(some 41), .call 13 [(.tmp 39), (.tmp 40)], (some (38, false))⟩,
      ⟨(some 42), .un .not (.tmp 41), (some (38, false))⟩,
      ⟨(some 43), .pick (.tmp 38) (.const (.bool true)) (.tmp 42), none⟩,
      ⟨(some 44), .mv (.tmp 43), none⟩,
      ⟨(some 45), .mv (.tmp 3), (some (44, false))⟩,
      ⟨(some 46), .mv (.tmp 8), (some (44, false))⟩,
      ⟨(some 47), .call 14 [(.tmp 45), (.tmp 46)], (some (44, false))⟩,
      ⟨(some 48), .pick (.tmp 44) (.const (.bool true)) (.tmp 47), none⟩])
    (.cond (.tmp 48)
      (.seq (.region [
        ⟨(some 2), .mv (.const (.bool false)), none⟩])
      (.ret))
      (.skip)))
    (.region [
      ⟨(some 49), .mv (.tmp 8), none⟩,
      ⟨(some 7), .mv (.tmp 49), none⟩]))))
    (.region [
      ⟨(some 50), .bin .add (.tmp 31) (.const (.int .i64 1)), none⟩,
      ⟨(some 31), .mv (.tmp 50), none⟩])))))))
  (.seq (.region [
    ⟨(some 51), .mv (.tmp 3), none⟩,
    ⟨(some 52), .call 11 [(.tmp 51)], none⟩,
    ⟨(some 53), .bin .eql (.tmp 52) (.const (.int .i64 0)), none⟩,
    ⟨(some 54), .mv (.tmp 53), none⟩,
    ⟨(some 55), .mv (.tmp 3), (some (54, true))⟩,
    ⟨(some 56), .call 12 [(.tmp 55)], (some (54, true))⟩,
    ⟨(some 57), .bin .eql (.tmp 56) (.const (.int .i64 (-1))), (some (54, true))⟩,
    ⟨(some 58), .pick (.tmp 54) (.tmp 57) (.const (.bool false)), none⟩,
    ⟨(some 59), .mv (.tmp 58), none⟩,
    ⟨(some 60), .mv (.tmp 3), (some (59, true))⟩,
    ⟨(some 61), .call 15 [(.tmp 60), (.const (.int .i64 (-1)))], (some (59, true))⟩,
    ⟨(some 62), .bin .eql (.tmp 61) (.const (.int .i64 (-1))), (some (59, true))⟩,
    ⟨(some 63), .pick (.tmp 59) (.tmp 62) (.const (.bool false)), none⟩,
    ⟨(some 2), .mv (.tmp 63), none⟩])
  (.ret)))))))⟩

/-- 'hostler/hostlerlaw02.MaskWhole' -/
def F4 : AFunc := ⟨138, [.tmp 6],
  .seq (.region [
    ⟨(some 6), .mv (.const (.bool false)), none⟩])
  (.seq (.seq (.region [
    ⟨(some 17), .call 8 [], none⟩,
    ⟨(some 18), .un .not (.tmp 17), none⟩,
    ⟨(some 19), .mv (.tmp 18), none⟩,
    ⟨(some 20), .mv (.tmp 1), (some (19, false))⟩,
    ⟨(some 21), .lenS (.tmp 20), (some (19, false))⟩,
    ⟨(some 22), .bin .gtr (.tmp 21) (.const (.int .i64 60)), (some (19, false))⟩,
    ⟨(some 23), .pick (.tmp 19) (.const (.bool true)) (.tmp 22), none⟩,
    ⟨(some 24), .mv (.tmp 23), none⟩,
    ⟨(some 25), .mv (.tmp 0), (some (24, false))⟩,
    ⟨(some 26), .bin .gtr (.tmp 25) (.const (.int .i64 5000)), (some (24, false))⟩,
    ⟨(some 27), .pick (.tmp 24) (.const (.bool true)) (.tmp 26), none⟩])
  (.cond (.tmp 27)
    (.seq (.region [
      ⟨(some 28), .call 8 [], none⟩,
      ⟨(some 6), .mv (.tmp 28), none⟩])
    (.ret))
    (.skip)))
  (.seq (.region [
    ⟨(some 29), .mv (.tmp 0), none⟩,
    ⟨(some 30), .call 9 [(.tmp 29)], none⟩,
    ⟨(some 7), .mv (.tmp 30), none⟩])
  (.seq (.region [
    ⟨(some 31), .mkmap, none⟩,
    ⟨(some 8), .mv (.tmp 31), none⟩])
  (.seq (.seq (.region [
    ⟨(some 32), .mv (.tmp 1), none⟩,
    ⟨(some 33), .lenS (.tmp 32), none⟩,
    ⟨(some 34), .mv (.const (.int .i64 0)), none⟩])
  (.block 0 (.loop (.seq (.region [
      ⟨(some 35), .bin .lss (.tmp 34) (.tmp 33), none⟩])
    (.seq (.cond (.tmp 35)
      (.skip)
      (.exit 0))
    (.seq (.block 1 (.seq (.region [
      ⟨(some 36), .idxAddr 1 none (.tmp 32) (.tmp 34), none⟩,
      ⟨(some 37), .load1 (.tmp 36), none⟩,
      ⟨(some 10), .mv (.tmp 37), none⟩])
    (.seq (.region [
      ⟨(some 38), .mv (.tmp 7), none⟩,
      ⟨(some 39), .mv (.tmp 10), none⟩,
      ⟨(some 40), .call 10 [(.tmp 38), (.tmp 39)], none⟩])
    (.cond (.tmp 40)
      (.region [
        ⟨(some 41), .mv (.tmp 8), none⟩,
        ⟨(some 42), .mv (.tmp 10), none⟩,
        ⟨(some 43), .lookup (.int .i64 0) false (.tmp 41) (.tmp 42), none⟩,
        ⟨(some 44), .bin .add (.tmp 43) (.const (.int .i64 1)), none⟩,
        ⟨none, .mapUpdate (.tmp 41) (.tmp 42) (.tmp 44), none⟩])
      (.skip)))))
    (.region [
      ⟨(some 45), .bin .add (.tmp 34) (.const (.int .i64 1)), none⟩,
      ⟨(some 34), .mv (.tmp 45), none⟩])))))))
  (.seq (.seq (.region [
    ⟨(some 46), .mv (.tmp 7), none⟩,
    ⟨(some 47), .call 11 [(.tmp 46)], none⟩,
    ⟨(some 48), .mv (.tmp 8), none⟩,
    ⟨(some 49), .lenM (.tmp 48), none⟩,
    ⟨(some 50), .bin .neq (.tmp 47) (.tmp 49), none⟩])
  (.cond (.tmp 50)
    (.seq (.region [
      ⟨(some 6), .mv (.const (.bool false)), none⟩])
    (.ret))
    (.skip)))
  (.seq (.seq (.region [
    ⟨(some 51), .mv (.tmp 1), none⟩,
    ⟨(some 52), .lenS (.tmp 51), none⟩,
    ⟨(some 53), .mv (.const (.int .i64 0)), none⟩])
  (.block 2 (.loop (.seq (.region [
      ⟨(some 54), .bin .lss (.tmp 53) (.tmp 52), none⟩])
    (.seq (.cond (.tmp 54)
      (.skip)
      (.exit 2))
    (.seq (.block 3 (.seq (.region [
      ⟨(some 55), .idxAddr 1 none (.tmp 51) (.tmp 53), none⟩,
      ⟨(some 56), .load1 (.tmp 55), none⟩,
      ⟨(some 12), .mv (.tmp 56), none⟩])
    (.seq (.region [
      ⟨(some 57), .mv (.tmp 12), none⟩,
      ⟨(some 58), .bin .geq (.tmp 57) (.const (.int .i64 0)), none⟩,
      ⟨(some 59), .mv (.tmp 58), none⟩,
      ⟨(some 60), .mv (.tmp 12), (some (59, true))⟩,
      ⟨(some 61), .mv (.tmp 7), (some (59, true))⟩,
      ⟨(some 62), .call 16 [(.tmp 61)], (some (59, true))⟩,
      ⟨(some 63), .bin .lss (.tmp 60) (.tmp 62), (some (59, true))⟩,
      ⟨(some 64), .pick (.tmp 59) (.tmp 63) (.const (.bool false)), none⟩,
      ⟨(some 13), .mv (.tmp 64), none⟩])
    (.seq (.region [
      ⟨(some 65), .mv (.tmp 7), none⟩,
      ⟨(some 66), .mv (.tmp 12), none⟩,
      ⟨(some 67), .call 14 [(.tmp 65), (.tmp 66)], none⟩,
      ⟨(some 68), .mv (.tmp 13), none⟩,
      ⟨(some 69), .eqBool true (.tmp 67) (.tmp 68), none⟩,
      ⟨(some 70), .mv (.tmp 69), none⟩,
      ⟨(some 71), .mv (.tmp 13), (some (70, false))⟩,
      ⟨(some 72), .mv (.tmp 71), (some (70, false))⟩,
      ⟨(some 73), .mv (.tmp 8), (some (72, true))⟩,
      ⟨(some 74), .mv (.tmp 12), (some (72, true))⟩,
      ⟨(some 75), .lookup (.int .i64 0) false (.tmp 73) (.tmp 74), (some (72, true))⟩,
      ⟨(some 76), .bin .neq (.tmp 75) (.const (.int .i64 1)), (some (72, true))⟩,
      ⟨(some 77), .pick (.tmp 72) (.tmp 76) (.const (.bool false)), (some (70, false))⟩,
      ⟨(some 78), .pick (.tmp 70) (.const (.bool true)) (.tmp 77), none⟩])
    (.cond (.tmp 78)
      (.seq (.region [
        ⟨(some 6), .mv (.const (.bool false)), none⟩])
      (.ret))
      (.skip))))))
    (.region [
      ⟨(some 79), .bin .add (.tmp 53) (.const (.int .i64 1)), none⟩,
      ⟨(some 53), .mv (.tmp 79), none⟩])))))))
  (.seq (.region [
    ⟨(some 80), .mv (.tmp 7), none⟩,
    ⟨(some 81), .call 17 [(.tmp 80)], none⟩,
    ⟨(some 14), .mv (.tmp 81), none⟩])
  (.seq (.seq (.region [
    ⟨(some 82), .mv (.tmp 7), none⟩,
    ⟨(some 83), .mv (.tmp 2), none⟩,
    ⟨(some 84), .call 10 [(.tmp 82), (.tmp 83)], none⟩,
    ⟨(some 85), .mv (.tmp 84), none⟩,
    ⟨(some 86), .mv (.tmp 7), (some (85, true))⟩,
    ⟨(some 87), .mv (.tmp 2), (some (85, true))⟩,
    ⟨(some 88), .call 13 [(.tmp 86), (.tmp 87)], (some (85, true))⟩,
    ⟨(some 89), .un .not (.tmp 88), (some (85, true))⟩,
    ⟨(some 90), .pick (.tmp 85) (.tmp 89) (.const (.bool false)), none⟩,
    ⟨(some 91), .mv (.tmp 90), none⟩,
    ⟨(some 92), .mv (.tmp 7), (some (91, false))⟩,
    ⟨(some 93), .call 13 [(.tmp 92), (.const (.int .i64 (-1)))], (some (91, false))⟩,
    ⟨(some 94), .pick (.tmp 91) (.const (.bool true)) (.tmp 93), none⟩,
    ⟨(some 95), .mv (.tmp 94), none⟩,
    ⟨(some 96), .mv (.tmp 7), (some (95, false))⟩,
    ⟨(some 97), .mv (.tmp 7), (some (95, false))⟩,
    ⟨(some 98), .call 16 [(.tmp 97)], (some (95, false))⟩,
    ⟨(some 99), .call 10 [(.tmp 96), (.tmp 98)], (some (95, false))⟩,
    ⟨(some 100), .pick (.tmp 95) (.const (.bool true)) (.tmp 99), none⟩])
  (.cond (.tmp 100)
    (.seq (.region [
      ⟨(some 6), .mv (.const (.bool false)), none⟩])
    (.ret))
    (.skip)))
  (.seq (.region [
    ⟨(some 101), .mv (.tmp 7), none⟩,
    ⟨(some 102), .call 17 [(.tmp 101)], none⟩,
    ⟨(some 15), .mv (.tmp 102), none⟩])
  (.seq (.seq (.region [
    ⟨(some 103), .mv (.tmp 14), none⟩,
    ⟨(some 104), .lenS (.tmp 103), none⟩,
    ⟨(some 105), .mv (.const (.int .i64 0)), none⟩])
  (.block 4 (.loop (.seq (.region [
      ⟨(some 106), .bin .lss (.tmp 105) (.tmp 104), none⟩])
    (.seq (.cond (.tmp 106)
      (.skip)
      (.exit 4))
    (.seq (.block 5 (.seq (.region [
      ⟨(some 107), .mv (.tmp 105), none⟩,
      ⟨(some 16), .mv (.tmp 107), none⟩])
    (.seq (.draw [
      (⟨(some 108), .mv (.tmp 16), none⟩, .still),
      (⟨(some 109), .mv (.tmp 15), none⟩, .still),
      (⟨(some 110), .lenS (.tmp 109), none⟩, .still),
      (⟨(some 111), .bin .geq (.tmp 108) (.tmp 110), none⟩, .still),
      (⟨(some 112), .mv (.tmp 111), none⟩, .still),
      (⟨(some 113), .mv (.tmp 14), (some (112, false))⟩, .still),
      (⟨(some 114), .mv (.tmp 16), (some (112, false))⟩, .still),
      (⟨(some 115), .idxAddr 1 none (.tmp 113) (.tmp 114), (some (112, false))⟩, .still),
      (⟨(some 116), .load1 (.tmp 115), (some (112, false))⟩, .reads 0 0),
      (⟨(some 117), .mv (.tmp 15), (some (112, false))⟩, .still),
      (⟨(some 118), .mv (.tmp 16), (some (112, false))⟩, .still),
      (⟨(some 119), .idxAddr 1 none (.tmp 117) (.tmp 118), (some (112, false))⟩, .still),
      (⟨(some 120), .load1 (.tmp 119), (some (112, false))⟩, .reads 0 0),
      (⟨(some 121), .bin .neq (.tmp 116) (.tmp 120), (some (112, false))⟩, .still),
      (⟨(some 122), .pick (.tmp 112) (.const (.bool true)) (.tmp 121), none⟩, .still)])
    (.cond (.tmp 122)
      (.seq (.region [
        ⟨(some 6), .mv (.const (.bool false)), none⟩])
      (.ret))
      (.skip)))))
    (.region [
      ⟨(some 123), .bin .add (.tmp 105) (.const (.int .i64 1)), none⟩,
      ⟨(some 105), .mv (.tmp 123), none⟩])))))))
  (.seq (.region [
    ⟨(some 124), .mv (.tmp 14), none⟩,
    ⟨(some 125), .lenS (.tmp 124), none⟩,
    ⟨(some 126), .mv (.tmp 15), none⟩,
    ⟨(some 127), .lenS (.tmp 126), none⟩,
    ⟨(some 128), .bin .eql (.tmp 125) (.tmp 127), none⟩,
    ⟨(some 129), .mv (.tmp 128), none⟩,
    ⟨(some 130), .mv (.tmp 14), (some (129, true))⟩,
    ⟨(some 131), .lenS (.tmp 130), (some (129, true))⟩,
    ⟨(some 132), .mv (.tmp 7), (some (129, true))⟩,
    ⟨(some 133), .call 16 [(.tmp 132)], (some (129, true))⟩,
    ⟨(some 134), .bin .add (.tmp 133) (.const (.int .i64 63)), (some (129, true))⟩,
    ⟨(some 135), .bin .quo (.tmp 134) (.const (.int .i64 64)), (some (129, true))⟩,
    ⟨(some 136), .bin .eql (.tmp 131) (.tmp 135), (some (129, true))⟩,
    ⟨(some 137), .pick (.tmp 129) (.tmp 136) (.const (.bool false)), none⟩,
    ⟨(some 6), .mv (.tmp 137), none⟩])
  (.ret))))))))))))⟩

/-- 'hostler/hostlerlaw13.IdleRows' -/
def F5 : AFunc := ⟨149, [.tmp 2],
  .seq (.region [
    ⟨(some 2), .mv (.const (.bool false)), none⟩])
  (.seq (.seq (.region [
    ⟨(some 22), .call 18 [], none⟩,
    ⟨(some 23), .un .not (.tmp 22), none⟩,
    ⟨(some 24), .mv (.tmp 23), none⟩,
    ⟨(some 25), .mv (.tmp 0), (some (24, false))⟩,
    ⟨(some 26), .lenS (.tmp 25), (some (24, false))⟩,
    ⟨(some 27), .bin .gtr (.tmp 26) (.const (.int .i64 40)), (some (24, false))⟩,
    ⟨(some 28), .pick (.tmp 24) (.const (.bool true)) (.tmp 27), none⟩])
  (.cond (.tmp 28)
    (.seq (.region [
      ⟨(some 29), .call 18 [], none⟩,
      ⟨(some 2), .mv (.tmp 29), none⟩])
    (.ret))
    (.skip)))
  (.seq (.region [
    ⟨(some 30), .call 19 [(.const (.int .i64 64)), (.const (.int .i64 64))], none⟩,
    ⟨(some 3), .mv (.tmp 30), none⟩])
  (.seq (.region [
    ⟨(some 4), .mv (.const .nilslice), none⟩,
    ⟨(some 5), .mv (.const .nilslice), none⟩])
  (.seq (.seq (.region [
    ⟨(some 31), .mv (.tmp 0), none⟩,
    ⟨(some 32), .lenS (.tmp 31), none⟩,
    ⟨(some 33), .mv (.const (.int .i64 0)), none⟩])
  (.block 0 (.loop (.seq (.region [
      ⟨(some 34), .bin .lss (.tmp 33) (.tmp 32), none⟩])
    (.seq (.cond (.tmp 34)
      (.skip)
      (.exit 0))
    (.seq (.block 1 (.seq (.region [
      ⟨(some 35), .mv (.tmp 33), none⟩,
      ⟨(some 36), .idxAddr 1 none (.tmp 31) (.tmp 33), none⟩,
      ⟨(some 37), .load1 (.tmp 36), none⟩,
      ⟨(some 6), .mv (.tmp 35), none⟩,
      ⟨(some 7), .mv (.tmp 37), none⟩])
    (.seq (.region [
      ⟨(some 38), .mv (.tmp 7), none⟩,
      ⟨(some 39), .bin .rem (.tmp 38) (.const (.int .u8 64)), none⟩,
      ⟨(some 40), .toInt .i64 (.tmp 39), none⟩,
      ⟨(some 8), .mv (.tmp 40), none⟩])
    (.seq (.region [
      ⟨(some 41), .mv (.tmp 6), none⟩,
      ⟨(some 42), .bin .rem (.tmp 41) (.const (.int .i64 3)), none⟩])
    (.block 2 (.seq (.region [
      ⟨(some 55), .bin .eql (.tmp 42) (.const (.int .i64 0)), none⟩,
      ⟨(some 54), .mv (.tmp 55), none⟩])
    (.cond (.tmp 54)
      (.region [
        ⟨(some 56), .mv (.tmp 3), none⟩,
        ⟨(some 57), .mv (.tmp 8), none⟩,
        ⟨(some 58), .call 20 [(.tmp 56), (.tmp 57)], none⟩])
      (.seq (.region [
        ⟨(some 60), .bin .eql (.tmp 42) (.const (.int .i64 1)), none⟩,
        ⟨(some 59), .mv (.tmp 60), none⟩])
      (.cond (.tmp 59)
        (.seq (.region [
          ⟨(some 61), .mv (.tmp 3), none⟩,
          ⟨(some 62), .mv (.tmp 8), none⟩,
          ⟨(some 63), .call 21 [(.tmp 61), (.tmp 62)], none⟩])
        (.cond (.tmp 63)
          (.region [
            ⟨(some 64), .mv (.tmp 4), none⟩,
            ⟨(some 65), .mv (.tmp 8), none⟩,
            ⟨(some 66), .buildSlice [(.int .i64 0)] 1 [((0, 1), (.tmp 65))], none⟩,
            ⟨(some 67), .append 1 8 [(.int .i64 0)] (.tmp 64) (.tmp 66), none⟩,
            ⟨(some 4), .mv (.tmp 67), none⟩])
          (.skip)))
        (.seq (.region [
          ⟨(some 44), .mv (.tmp 3), none⟩,
          ⟨(some 45), .mv (.tmp 8), none⟩,
          ⟨(some 46), .call 22 [(.tmp 44), (.tmp 45)], none⟩,
          ⟨(some 43), .mv (.tmp 46), none⟩,
          ⟨(some 47), .extract 0 (.tmp 43), none⟩,
          ⟨(some 48), .extract 1 (.tmp 43), none⟩,
          ⟨(some 9), .mv (.tmp 47), none⟩,
          ⟨(some 10), .mv (.tmp 48), none⟩])
        (.seq (.region [
          ⟨(some 49), .mv (.tmp 10), none⟩])
        (.cond (.tmp 49)
          (.region [
            ⟨(some 50), .mv (.tmp 5), none⟩,
            ⟨(some 51), .mv (.tmp 8), none⟩,
            ⟨(some 52), .buildSlice [(.int .i64 0)] 1 [((0, 1), (.tmp 51))], none⟩,
            ⟨(some 53), .append 1 8 [(.int .i64 0)] (.tmp 50) (.tmp 52), none⟩,
            ⟨(some 5), .mv (.tmp 53), none⟩])
          (.skip)))))))))))))
    (.region [
      ⟨(some 68), .bin .add (.tmp 33) (.const (.int .i64 1)), none⟩,
      ⟨(some 33), .mv (.tmp 68), none⟩])))))))
  (.seq (.region [
    ⟨(some 11), .mv (.const (.int .i64 (-1))), none⟩])
  (.seq (.seq (.region [
    ⟨(some 69), .mv (.tmp 3), none⟩,
    ⟨(some 70), .call 23 [(.tmp 69)], none⟩,
    ⟨(some 71), .mv (.const (.int .i64 0)), none⟩])
  (.block 3 (.loop (.seq (.region [
      ⟨(some 72), .bin .lss (.tmp 71) (.tmp 70), none⟩])
    (.seq (.cond (.tmp 72)
      (.skip)
      (.exit 3))
    (.seq (.block 4 (.seq (.region [
      ⟨(some 74), .mv (.tmp 3), none⟩,
      ⟨(some 75), .call 24 [(.tmp 74)], none⟩,
      ⟨(some 73), .mv (.tmp 75), none⟩,
      ⟨(some 76), .extract 0 (.tmp 73), none⟩,
      ⟨(some 77), .extract 1 (.tmp 73), none⟩,
      ⟨(some 12), .mv (.tmp 76), none⟩,
      ⟨(some 13), .mv (.tmp 77), none⟩])
    (.seq (.seq (.region [
      ⟨(some 78), .mv (.tmp 13), none⟩,
      ⟨(some 79), .un .not (.tmp 78), none⟩,
      ⟨(some 80), .mv (.tmp 79), none⟩,
      ⟨(some 81), .mv (.tmp 12), (some (80, false))⟩,
      ⟨(some 82), .mv (.tmp 11), (some (80, false))⟩,
      ⟨(some 83), .bin .leq (.tmp 81) (.tmp 82), (some (80, false))⟩,
      ⟨(some 84), .pick (.tmp 80) (.const (.bool true)) (.tmp 83), none⟩])
    (.cond (.tmp 84)
      (.seq (.region [
        ⟨(some 2), .mv (.const (.bool false)), none⟩])
      (.ret))
      (.skip)))
    (.region [
      ⟨(some 85), .mv (.tmp 12), none⟩,
      ⟨(some 11), .mv (.tmp 85), none⟩]))))
    (.region [
      ⟨(some 86), .bin .add (.tmp 71) (.const (.int .i64 1)), none⟩,
      ⟨(some 71), .mv (.tmp 86), none⟩])))))))
  (.seq (.seq (.region [
    ⟨(some 87), .mv (.tmp 4), none⟩,
    ⟨(some 88), .lenS (.tmp 87), none⟩,
    ⟨(some 89), .mv (.const (.int .i64 0)), none⟩])
  (.block 5 (.loop (.seq (.region [
      ⟨(some 90), .bin .lss (.tmp 89) (.tmp 88), none⟩])
    (.seq (.cond (.tmp 90)
      (.skip)
      (.exit 5))
    (.seq (.block 6 (.seq (.region [
      ⟨(some 91), .idxAddr 1 none (.tmp 87) (.tmp 89), none⟩,
      ⟨(some 92), .load1 (.tmp 91), none⟩,
      ⟨(some 15), .mv (.tmp 92), none⟩])
    (.seq (.region [
      ⟨(some 94), .mv (.tmp 3), none⟩,
      ⟨(some 95), .call 25 [(.tmp 94)], none⟩,
      ⟨(some 93), .mv (.tmp 95), none⟩,
      ⟨(some 96), .extract 0 (.tmp 93), none⟩,
      ⟨(some 97), .extract 1 (.tmp 93), none⟩,
      ⟨(some 16), .mv (.tmp 96), none⟩,
      ⟨(some 17), .mv (.tmp 97), none⟩])
    (.seq (.region [
      ⟨(some 98), .mv (.tmp 17), none⟩,
      ⟨(some 99), .un .not (.tmp 98), none⟩,
      ⟨(some 100), .mv (.tmp 99), none⟩,
      ⟨(some 101), .mv (.tmp 16), (some (100, false))⟩,
      ⟨(some 102), .mv (.tmp 15), (some (100, false))⟩,
      ⟨(some 103), .bin .neq (.tmp 101) (.tmp 102), (some (100, false))⟩,
      ⟨(some 104), .pick (.tmp 100) (.const (.bool true)) (.tmp 103), none⟩])
    (.cond (.tmp 104)
      (.seq (.region [
        ⟨(some 2), .mv (.const (.bool false)), none⟩])
      (.ret))
      (.skip))))))
    (.region [
      ⟨(some 105), .bin .add (.tmp 89) (.const (.int .i64 1)), none⟩,
      ⟨(some 89), .mv (.tmp 105), none⟩])))))))
  (.seq (.seq (.region [
    ⟨(some 106), .mv (.tmp 5), none⟩,
    ⟨(some 107), .lenS (.tmp 106), none⟩,
    ⟨(some 108), .mv (.const (.int .i64 0)), none⟩])
  (.block 7 (.loop (.seq (.region [
      ⟨(some 109), .bin .lss (.tmp 108) (.tmp 107), none⟩])
    (.seq (.cond (.tmp 109)
      (.skip)
      (.exit 7))
    (.seq (.block 8 (.seq (.region [
      ⟨(some 110), .mv (.tmp 108), none⟩,
      ⟨(some 18), .mv (.tmp 110), none⟩])
    (.seq (.region [
      ⟨(some 111), .mv (.tmp 5), none⟩,
      ⟨(some 112), .idxAddr 1 none (.tmp 111) (.const (.int .i64 0)), none⟩,
      ⟨(some 113), .load1 (.tmp 112), none⟩,
      ⟨(some 19), .mv (.tmp 113), none⟩])
    (.seq (.seq (.region [
      ⟨(some 114), .mv (.tmp 18), none⟩,
      ⟨(some 115), .mv (.tmp 5), none⟩,
      ⟨(some 116), .lenS (.tmp 115), none⟩,
      ⟨(some 117), .bin .sub (.tmp 116) (.const (.int .i64 1)), none⟩,
      ⟨(some 118), .bin .lss (.tmp 114) (.tmp 117), none⟩])
    (.cond (.tmp 118)
      (.region [
        ⟨(some 119), .mv (.tmp 5), none⟩,
        ⟨(some 120), .mv (.tmp 5), none⟩,
        ⟨(some 121), .lenS (.tmp 120), none⟩,
        ⟨(some 122), .bin .sub (.tmp 121) (.const (.int .i64 1)), none⟩,
        ⟨(some 123), .mv (.tmp 18), none⟩,
        ⟨(some 124), .bin .sub (.tmp 122) (.tmp 123), none⟩,
        ⟨(some 125), .idxAddr 1 none (.tmp 119) (.tmp 124), none⟩,
        ⟨(some 126), .load1 (.tmp 125), none⟩,
        ⟨(some 19), .mv (.tmp 126), none⟩])
      (.skip)))
    (.seq (.region [
      ⟨(some 128), .mv (.tmp 3), none⟩,
      ⟨(some 129), .call 26 [(.tmp 128)], none⟩,
      ⟨(some 127), .mv (.tmp 129), none⟩,
      ⟨(some 130), .extract 0 (.tmp 127), none⟩,
      ⟨(some 131), .extract 1 (.tmp 127), none⟩,
      ⟨(some 20), .mv (.tmp 130), none⟩,
      ⟨(some 21), .mv (.tmp 131), none⟩])
    (.seq (.region [
      ⟨(some 132), .mv (.tmp 21), none⟩,
      ⟨(some 133), .un .not (.tmp 132), none⟩,
      ⟨(some 134), .mv (.tmp 133), none⟩,
      ⟨(some 135), .mv (.tmp 20), (some (134, false))⟩,
      ⟨(some 136), .mv (.tmp 19), (some (134, false))⟩,
      ⟨(some 137), .bin .neq (.tmp 135) (.tmp 136), (some (134, false))⟩,
      ⟨(some 138), .pick (.tmp 134) (.const (.bool true)) (.tmp 137), none⟩])
    (.cond (.tmp 138)
      (.seq (.region [
        ⟨(some 2), .mv (.const (.bool false)), none⟩])
      (.ret))
      (.skip))))))))
    (.region [
      ⟨(some 139), .bin .add (.tmp 108) (.const (.int .i64 1)), none⟩,
      ⟨(some 108), .mv (.tmp 139), none⟩])))))))
  (.seq (.region [
    ⟨(some 140), .mv (.tmp 3), none⟩,
    ⟨(some 141), .call 23 [(.tmp 140)], none⟩,
    ⟨(some 142), .mv (.tmp 3), none⟩,
    ⟨(some 143), .call 27 [(.tmp 142)], none⟩,
    ⟨(some 144), .bin .add (.tmp 141) (.tmp 143), none⟩,
    ⟨(some 145), .mv (.tmp 3), none⟩,
    ⟨(some 146), .call 28 [(.tmp 145)], none⟩,
    ⟨(some 147), .bin .add (.tmp 144) (.tmp 146), none⟩,
    ⟨(some 148), .bin .eql (.tmp 147) (.const (.int .i64 0)), none⟩,
    ⟨(some 2), .mv (.tmp 148), none⟩])
  (.ret))))))))))⟩

/-- 'hostler/hostlerlaw13.IdleOnce' -/
def F6 : AFunc := ⟨179, [.tmp 2],
  .seq (.region [
    ⟨(some 2), .mv (.const (.bool false)), none⟩])
  (.seq (.seq (.region [
    ⟨(some 23), .call 18 [], none⟩,
    ⟨(some 24), .un .not (.tmp 23), none⟩,
    ⟨(some 25), .mv (.tmp 24), none⟩,
    ⟨(some 26), .mv (.tmp 0), (some (25, false))⟩,
    ⟨(some 27), .lenS (.tmp 26), (some (25, false))⟩,
    ⟨(some 28), .bin .gtr (.tmp 27) (.const (.int .i64 100)), (some (25, false))⟩,
    ⟨(some 29), .pick (.tmp 25) (.const (.bool true)) (.tmp 28), none⟩])
  (.cond (.tmp 29)
    (.seq (.region [
      ⟨(some 30), .call 18 [], none⟩,
      ⟨(some 2), .mv (.tmp 30), none⟩])
    (.ret))
    (.skip)))
  (.seq (.region [
    ⟨(some 31), .call 19 [(.const (.int .i64 8)), (.const (.int .i64 8))], none⟩,
    ⟨(some 3), .mv (.tmp 31), none⟩])
  (.seq (.region [
    ⟨(some 4), .alloc [(.int .i64 0), (.int .i64 0), (.int .i64 0), (.int .i64 0), (.int .i64 0), (.int .i64 0), (.int .i64 0), (.int .i64 0)], none⟩,
    ⟨(some 5), .alloc [(.int .i64 0), (.int .i64 0), (.int .i64 0), (.int .i64 0), (.int .i64 0), (.int .i64 0), (.int .i64 0), (.int .i64 0)], none⟩])
  (.seq (.seq (.region [
    ⟨(some 32), .mv (.tmp 0), none⟩,
    ⟨(some 33), .lenS (.tmp 32), none⟩,
    ⟨(some 34), .mv (.const (.int .i64 0)), none⟩])
  (.block 0 (.loop (.seq (.region [
      ⟨(some 35), .bin .lss (.tmp 34) (.tmp 33), none⟩])
    (.seq (.cond (.tmp 35)
      (.skip)
      (.exit 0))
    (.seq (.block 1 (.seq (.region [
      ⟨(some 36), .idxAddr 1 none (.tmp 32) (.tmp 34), none⟩,
      ⟨(some 37), .load1 (.tmp 36), none⟩,
      ⟨(some 7), .mv (.tmp 37), none⟩])
    (.seq (.region [
      ⟨(some 38), .mv (.tmp 7), none⟩,
      ⟨(some 39), .bin .quo (.tmp 38) (.const (.int .u8 8)), none⟩,
      ⟨(some 40), .toInt .i64 (.tmp 39), none⟩,
      ⟨(some 41), .bin .rem (.tmp 40) (.const (.int .i64 8)), none⟩,
      ⟨(some 8), .mv (.tmp 41), none⟩])
    (.seq (.seq (.region [
      ⟨(some 42), .mv (.tmp 7), none⟩,
      ⟨(some 43), .bin .rem (.tmp 42) (.const (.int .u8 8)), none⟩])
    (.block 2 (.seq (.seq (.region [
      ⟨(some 57), .bin .eql (.tmp 43) (.const (.int .u8 0)), none⟩,
      ⟨(some 56), .mv (.tmp 57), none⟩])
    (.cond (.tmp 56)
      (.skip)
      (.region [
        ⟨(some 58), .bin .eql (.tmp 43) (.const (.int .u8 1)), none⟩,
        ⟨(some 56), .mv (.tmp 58), none⟩])))
    (.cond (.tmp 56)
      (.seq (.region [
        ⟨(some 59), .mv (.tmp 3), none⟩,
        ⟨(some 60), .mv (.tmp 8), none⟩,
        ⟨(some 61), .call 20 [(.tmp 59), (.tmp 60)], none⟩])
      (.cond (.tmp 61)
        (.region [
          ⟨(some 62), .mv (.tmp 8), none⟩,
          ⟨(some 63), .idxAddr 1 (some 8) (.tmp 4) (.tmp 62), none⟩,
          ⟨(some 64), .load1 (.tmp 63), none⟩,
          ⟨(some 65), .bin .add (.tmp 64) (.const (.int .i64 1)), none⟩,
          ⟨(some 66), .idxAddr 1 (some 8) (.tmp 4) (.tmp 62), none⟩,
          ⟨none, .store 1 (.tmp 66) (.tmp 65), none⟩])
        (.skip)))
      (.seq (.region [
        ⟨(some 68), .bin .eql (.tmp 43) (.const (.int .u8 2)), none⟩,
        ⟨(some 67), .mv (.tmp 68), none⟩])
      (.cond (.tmp 67)
        (.seq (.region [
          ⟨(some 69), .mv (.tmp 3), none⟩,
          ⟨(some 70), .mv (.tmp 8), none⟩,
          ⟨(some 71), .call 21 [(.tmp 69), (.tmp 70)], none⟩])
        (.cond (.tmp 71)
          (.region [
            ⟨(some 72), .mv (.tmp 8), none⟩,
            ⟨(some 73), .idxAddr 1 (some 8) (.tmp 4) (.tmp 72), none⟩,
            ⟨(some 74), .load1 (.tmp 73), none⟩,
            ⟨(some 75), .bin .add (.tmp 74) (.const (.int .i64 1)), none⟩,
            ⟨(some 76), .idxAddr 1 (some 8) (.tmp 4) (.tmp 72), none⟩,
            ⟨none, .store 1 (.tmp 76) (.tmp 75), none⟩])
          (.skip)))
        (.seq (.region [
          ⟨(some 78), .bin .eql (.tmp 43) (.const (.int .u8 3)), none⟩,
          ⟨(some 77), .mv (.tmp 78), none⟩])
        (.cond (.tmp 77)
          (.seq (.region [
            ⟨(some 80), .mv (.tmp 3), none⟩,
            ⟨(some 81), .call 24 [(.tmp 80)], none⟩,
            ⟨(some 79), .mv (.tmp 81), none⟩,
            ⟨(some 82), .extract 0 (.tmp 79), none⟩,
            ⟨(some 83), .extract 1 (.tmp 79), none⟩,
            ⟨(some 9), .mv (.tmp 82), none⟩,
            ⟨(some 10), .mv (.tmp 83), none⟩])
          (.seq (.region [
            ⟨(some 84), .mv (.tmp 10), none⟩])
          (.cond (.tmp 84)
            (.region [
              ⟨(some 85), .mv (.tmp 9), none⟩,
              ⟨(some 86), .bin .and (.tmp 85) (.const (.int .i64 7)), none⟩,
              ⟨(some 87), .idxAddr 1 (some 8) (.tmp 4) (.tmp 86), none⟩,
              ⟨(some 88), .load1 (.tmp 87), none⟩,
              ⟨(some 89), .bin .sub (.tmp 88) (.const (.int .i64 1)), none⟩,
              ⟨(some 90), .idxAddr 1 (some 8) (.tmp 4) (.tmp 86), none⟩,
              ⟨none, .store 1 (.tmp 90) (.tmp 89), none⟩])
            (.skip))))
          (.seq (.region [
            ⟨(some 92), .bin .eql (.tmp 43) (.const (.int .u8 4)), none⟩,
            ⟨(some 91), .mv (.tmp 92), none⟩])
          (.cond (.tmp 91)
            (.seq (.region [
              ⟨(some 94), .mv (.tmp 3), none⟩,
              ⟨(some 95), .call 25 [(.tmp 94)], none⟩,
              ⟨(some 93), .mv (.tmp 95), none⟩,
              ⟨(some 96), .extract 0 (.tmp 93), none⟩,
              ⟨(some 97), .extract 1 (.tmp 93), none⟩,
              ⟨(some 11), .mv (.tmp 96), none⟩,
              ⟨(some 12), .mv (.tmp 97), none⟩])
            (.seq (.region [
              ⟨(some 98), .mv (.tmp 12), none⟩])
            (.cond (.tmp 98)
              (.region [
                ⟨(some 99), .mv (.tmp 11), none⟩,
                ⟨(some 100), .bin .and (.tmp 99) (.const (.int .i64 7)), none⟩,
                ⟨(some 101), .idxAddr 1 (some 8) (.tmp 4) (.tmp 100), none⟩,
                ⟨(some 102), .load1 (.tmp 101), none⟩,
                ⟨(some 103), .bin .sub (.tmp 102) (.const (.int .i64 1)), none⟩,
                ⟨(some 104), .idxAddr 1 (some 8) (.tmp 4) (.tmp 100), none⟩,
                ⟨none, .store 1 (.tmp 104) (.tmp 103), none⟩])
              (.skip))))
            (.seq (.seq (.region [
              ⟨(some 106), .bin .eql (.tmp 43) (.const (.int .u8 5)), none⟩,
              ⟨(some 105), .mv (.tmp 106), none⟩])
            (.cond (.tmp 105)
              (.skip)
              (.region [
                ⟨(some 107), .bin .eql (.tmp 43) (.const (.int .u8 6)), none⟩,
                ⟨(some 105), .mv (.tmp 107), none⟩])))
            (.cond (.tmp 105)
              (.seq (.region [
                ⟨(some 109), .mv (.tmp 3), none⟩,
                ⟨(some 110), .mv (.tmp 8), none⟩,
                ⟨(some 111), .call 22 [(.tmp 109), (.tmp 110)], none⟩,
                ⟨(some 108), .mv (.tmp 111), none⟩,
                ⟨(some 112), .extract 0 (.tmp 108), none⟩,
                ⟨(some 113), .extract 1 (.tmp 108), none⟩,
                ⟨(some 13), .mv (.tmp 112), none⟩,
                ⟨(some 14), .mv (.tmp 113), none⟩])
              (.seq (.region [
                ⟨(some 114), .mv (.tmp 14), none⟩])
              (.cond (.tmp 114)
                (.region [
                  ⟨(some 115), .mv (.tmp 8), none⟩,
                  ⟨(some 116), .idxAddr 1 (some 8) (.tmp 5) (.tmp 115), none⟩,
                  ⟨(some 117), .load1 (.tmp 116), none⟩,
                  ⟨(some 118), .bin .add (.tmp 117) (.const (.int .i64 1)), none⟩,
                  ⟨(some 119), .idxAddr 1 (some 8) (.tmp 5) (.tmp 115), none⟩,
                  ⟨none, .store 1 (.tmp 119) (.tmp 118), none⟩])
                (.skip))))
              (.seq (.region [
                ⟨(some 45), .mv (.tmp 3), none⟩,
                ⟨(some 46), .call 26 [(.tmp 45)], none⟩,
                ⟨(some 44), .mv (.tmp 46), none⟩,
                ⟨(some 47), .extract 0 (.tmp 44), none⟩,
                ⟨(some 48), .extract 1 (.tmp 44), none⟩,
                ⟨(some 15), .mv (.tmp 47), none⟩,
                ⟨(some 16), .mv (.tmp 48), none⟩])
              (.seq (.region [
                ⟨(some 49), .mv (.tmp 16), none⟩])
              (.cond (.tmp 49)
                (.region [
                  ⟨(some 50), .mv (.tmp 15), none⟩,
                  ⟨(some 51), .bin .and (.tmp 50) (.const (.int .i64 7)), none⟩,
                  ⟨(some 52), .idxAddr 1 (some 8) (.tmp 5) (.tmp 51), none⟩,
                  ⟨(some 53), .load1 (.tmp 52), none⟩,
                  ⟨(some 54), .bin .sub (.tmp 53) (.const (.int .i64 1)), none⟩,
                  ⟨(some 55), .idxAddr 1 (some 8) (.tmp 5) (.tmp 51), none⟩,
                  ⟨none, .store 1 (.tmp 55) (.tmp 54), none⟩])
                (.skip))))))))))))))))
    (.seq (.region [
      ⟨(some 17), .mv (.const (.int .i64 0)), none⟩,
      ⟨(some 18), .mv (.const (.int .i64 0)), none⟩])
    (.seq (.seq (.region [
      ⟨(some 120), .mv (.const (.int .i64 0)), none⟩])
    (.block 3 (.loop (.seq (.region [
        ⟨(some 121), .bin .lss (.tmp 120) (.const (.int .i64 8)), none⟩])
      (.seq (.cond (.tmp 121)
        (.skip)
        (.exit 3))
      (.seq (.block 4 (.seq (.region [
        ⟨(some 122), .mv (.tmp 120), none⟩,
        ⟨(some 19), .mv (.tmp 122), none⟩])
      (.seq (.seq (.region [
        ⟨(some 123), .mv (.tmp 19), none⟩,
        ⟨(some 124), .idxAddr 1 (some 8) (.tmp 4) (.tmp 123), none⟩,
        ⟨(some 125), .load1 (.tmp 124), none⟩,
        ⟨(some 126), .bin .lss (.tmp 125) (.const (.int .i64 0)), none⟩,
        ⟨(some 127), .mv (.tmp 126), none⟩,
        ⟨(some 128), .mv (.tmp 19), (some (127, false))⟩,
        ⟨(some 129), .idxAddr 1 (some 8) (.tmp 4) (.tmp 128), (some (127, false))⟩,
        ⟨(some 130), .load1 (.tmp 129), (some (127, false))⟩,
        ⟨(some 131), .bin .gtr (.tmp 130) (.const (.int .i64 1)), (some (127, false))⟩,
        ⟨(some 132), .pick (.tmp 127) (.const (.bool true)) (.tmp 131), none⟩,
        ⟨(some 133), .mv (.tmp 132), none⟩,
        ⟨(some 134), .mv (.tmp 19), (some (133, false))⟩,
        ⟨(some 135), .idxAddr 1 (some 8) (.tmp 5) (.tmp 134), (some (133, false))⟩,
        ⟨(some 136), .load1 (.tmp 135), (some (133, false))⟩,
        ⟨(some 137), .bin .lss (.tmp 136) (.const (.int .i64 0)), (some (133, false))⟩,
        ⟨(some 138), .pick (.tmp 133) (.const (.bool true)) (.tmp 137), none⟩,
        ⟨(some 139), .mv (.tmp 138), none⟩,
        ⟨(some 140), .mv (.tmp 19), (some (139, false))⟩,
        ⟨(some 141), .idxAddr 1 (some 8) (.tmp 5) (.tmp 140), (some (139, false))⟩,
        ⟨(some 142), .load1 (.tmp 141), (some (139, false))⟩,
        ⟨(some 143), .bin .gtr (.tmp 142) (.const (.int .i64 1)), (some (139, false))⟩,
        ⟨(some 144), .pick (.tmp 139) (.const (.bool true)) (.tmp 143), none⟩])
      (.cond (.tmp 144)
        (.seq (.region [
          ⟨(some 2), .mv (.const (.bool false)), none⟩])
        (.ret))
        (.skip)))
      (.draw [
        (⟨(some 145), .mv (.tmp 17), none⟩, .still),
        (⟨(some 146), .mv (.tmp 19), none⟩, .still),
        (⟨(some 147), .idxAddr 1 (some 8) (.tmp 4) (.tmp 146), none⟩, .still),
        (⟨(some 148), .load1 (.tmp 147), none⟩, .reads 0 0),
        (⟨(some 149), .bin .add (.tmp 145) (.tmp 148), none⟩, .still),
        (⟨(some 150), .mv (.tmp 18), none⟩, .still),
        (⟨(some 151), .mv (.tmp 19), none⟩, .still),
        (⟨(some 152), .idxAddr 1 (some 8) (.tmp 5) (.tmp 151), none⟩, .still),
        (⟨(some 153), .load1 (.tmp 152), none⟩, .reads 0 0),
        (⟨(some 154), .bin .add (.tmp 150) (.tmp 153), none⟩, .still),
        (⟨(some 17), .mv (.tmp 149), none⟩, .still),
        (⟨(some 18), .mv (.tmp 154), none⟩, .still)]))))
      (.region [
        ⟨(some 155), .bin .add (.tmp 120) (.const (.int .i64 1)), none⟩,
        ⟨(some 120), .mv (.tmp 155), none⟩])))))))
    (.seq (.region [
      ⟨(some 156), .mv (.tmp 3), none⟩,
      ⟨(some 157), .call 28 [(.tmp 156)], none⟩,
      ⟨(some 20), .mv (.tmp 157), none⟩])
    (.seq (.seq (.region [
      ⟨(some 159), .mv (.tmp 3), none⟩,
      ⟨(some 160), .call 29 [(.tmp 159)], none⟩,
      ⟨(some 158), .mv (.tmp 160), none⟩,
      ⟨(some 161), .extract 0 (.tmp 158), none⟩,
      ⟨(some 162), .extract 1 (.tmp 158), none⟩,
      ⟨(some 21), .mv (.tmp 161), none⟩,
      ⟨(some 22), .mv (.tmp 162), none⟩])
    (.seq (.region [
      ⟨(some 163), .mv (.tmp 22), none⟩])
    (.cond (.tmp 163)
      (.region [
        ⟨(some 164), .mv (.tmp 20), none⟩,
        ⟨(some 165), .bin .add (.tmp 164) (.const (.int .i64 1)), none⟩,
        ⟨(some 20), .mv (.tmp 165), none⟩])
      (.skip))))
    (.seq (.region [
      ⟨(some 166), .mv (.tmp 3), none⟩,
      ⟨(some 167), .call 23 [(.tmp 166)], none⟩,
      ⟨(some 168), .mv (.tmp 3), none⟩,
      ⟨(some 169), .call 27 [(.tmp 168)], none⟩,
      ⟨(some 170), .bin .add (.tmp 167) (.tmp 169), none⟩,
      ⟨(some 171), .mv (.tmp 17), none⟩,
      ⟨(some 172), .bin .neq (.tmp 170) (.tmp 171), none⟩,
      ⟨(some 173), .mv (.tmp 172), none⟩,
      ⟨(some 174), .mv (.tmp 20), (some (173, false))⟩,
      ⟨(some 175), .mv (.tmp 18), (some (173, false))⟩,
      ⟨(some 176), .bin .neq (.tmp 174) (.tmp 175), (some (173, false))⟩,
      ⟨(some 177), .pick (.tmp 173) (.const (.bool true)) (.tmp 176), none⟩])
    (.cond (.tmp 177)
      (.seq (.region [
        ⟨(some 2), .mv (.const (.bool false)), none⟩])
      (.ret))
      (.skip)))))))))))
    (.region [
      ⟨(some 178), .bin .add (.tmp 34) (.const (.int .i64 1)), none⟩,
      ⟨(some 34), .mv (.tmp 178), none⟩])))))))
  (.seq (.region [
    ⟨(some 2), .mv (.const (.bool true)), none⟩])
  (.ret))))))⟩

/-- 'hostler/hostlerlaw13.IdlePlays' -/
def F7 : AFunc := ⟨109, [.tmp 6],
  .seq (.region [
    ⟨(some 6), .mv (.const (.bool false)), none⟩])
  (.seq (.seq (.region [
    ⟨(some 14), .call 18 [], none⟩,
    ⟨(some 15), .un .not (.tmp 14), none⟩,
    ⟨(some 16), .mv (.tmp 15), none⟩,
    ⟨(some 17), .mv (.tmp 2), (some (16, false))⟩,
    ⟨(some 18), .lenS (.tmp 17), (some (16, false))⟩,
    ⟨(some 19), .bin .gtr (.tmp 18) (.const (.int .i64 60)), (some (16, false))⟩,
    ⟨(some 20), .pick (.tmp 16) (.const (.bool true)) (.tmp 19), none⟩])
  (.cond (.tmp 20)
    (.seq (.region [
      ⟨(some 21), .call 18 [], none⟩,
      ⟨(some 6), .mv (.tmp 21), none⟩])
    (.ret))
    (.skip)))
  (.seq (.region [
    ⟨(some 22), .mv (.tmp 0), none⟩,
    ⟨(some 23), .mv (.tmp 1), none⟩,
    ⟨(some 24), .call 19 [(.tmp 22), (.tmp 23)], none⟩,
    ⟨(some 25), .mv (.tmp 0), none⟩,
    ⟨(some 26), .mv (.tmp 1), none⟩,
    ⟨(some 27), .call 30 [(.tmp 25), (.tmp 26)], none⟩,
    ⟨(some 8), .alloc [(.int .i64 0), (.int .i64 0), .nilslice, .nilslice, .nilslice, (.int .i64 0)], none⟩,
    ⟨(some 7), .mv (.tmp 24), none⟩,
    ⟨none, .store 6 (.tmp 8) (.tmp 27), none⟩])
  (.seq (.seq (.region [
    ⟨(some 28), .mv (.tmp 2), none⟩,
    ⟨(some 29), .lenS (.tmp 28), none⟩,
    ⟨(some 30), .mv (.const (.int .i64 0)), none⟩])
  (.block 0 (.loop (.seq (.region [
      ⟨(some 31), .bin .lss (.tmp 30) (.tmp 29), none⟩])
    (.seq (.cond (.tmp 31)
      (.skip)
      (.exit 0))
    (.seq (.block 1 (.seq (.region [
      ⟨(some 32), .idxAddr 2 none (.tmp 28) (.tmp 30), none⟩,
      ⟨(some 33), .loadN 2 (.tmp 32), none⟩,
      ⟨(some 10), .alloc [(.int .u8 0), (.int .i64 0)], none⟩,
      ⟨none, .store 2 (.tmp 10) (.tmp 33), none⟩])
    (.seq (.region [
      ⟨(some 11), .mv (.const (.bool false)), none⟩])
    (.seq (.region [
      ⟨(some 35), .mv (.tmp 7), none⟩,
      ⟨(some 36), .loadN 6 (.tmp 8), none⟩,
      ⟨(some 37), .loadN 2 (.tmp 10), none⟩,
      ⟨(some 38), .call 31 [(.tmp 35), (.tmp 36), (.tmp 37)], none⟩,
      ⟨(some 34), .mv (.tmp 38), none⟩,
      ⟨(some 39), .extract 0 (.tmp 34), none⟩,
      ⟨(some 40), .extract 1 (.tmp 34), none⟩,
      ⟨none, .store 6 (.tmp 8) (.tmp 39), none⟩,
      ⟨(some 11), .mv (.tmp 40), none⟩])
    (.seq (.region [
      ⟨(some 42), .mv (.tmp 7), none⟩,
      ⟨(some 43), .call 29 [(.tmp 42)], none⟩,
      ⟨(some 41), .mv (.tmp 43), none⟩,
      ⟨(some 44), .extract 0 (.tmp 41), none⟩,
      ⟨(some 45), .extract 1 (.tmp 41), none⟩,
      ⟨(some 12), .mv (.tmp 44), none⟩,
      ⟨(some 13), .mv (.tmp 45), none⟩])
    (.seq (.draw [
      (⟨(some 46), .mv (.tmp 11), none⟩, .still),
      (⟨(some 47), .un .not (.tmp 46), none⟩, .still),
      (⟨(some 48), .mv (.tmp 47), none⟩, .still),
      (⟨(some 49), .mv (.tmp 7), (some (48, false))⟩, .still),
      (⟨(some 50), .call 23 [(.tmp 49)], (some (48, false))⟩, .loud),
      (⟨(some 51), .fieldAddr 2 (.tmp 8), (some (48, false))⟩, .still),
      (⟨(some 52), .load1 (.tmp 51), (some (48, false))⟩, .reads 0 1),
      (⟨(some 53), .lenS (.tmp 52), (some (48, false))⟩, .still),
      (⟨(some 54), .bin .neq (.tmp 50) (.tmp 53), (some (48, false))⟩, .still),
      (⟨(some 55), .pick (.tmp 48) (.const (.bool true)) (.tmp 54), none⟩, .still),
      (⟨(some 56), .mv (.tmp 55), none⟩, .still),
      (⟨(some 57), .mv (.tmp 7), (some (56, false))⟩, .still),
      (⟨(some 58), .call 27 [(.tmp 57)], (some (56, false))⟩, .loud),
      (⟨(some 59), .fieldAddr 3 (.tmp 8), (some (56, false))⟩, .still),
      (⟨(some 60), .load1 (.tmp 59), (some (56, false))⟩, .reads 1 2),
      (⟨(some 61), .lenS (.tmp 60), (some (56, false))⟩, .still),
      (⟨(some 62), .bin .neq (.tmp 58) (.tmp 61), (some (56, false))⟩, .still),
      (⟨(some 63), .pick (.tmp 56) (.const (.bool true)) (.tmp 62), none⟩, .still),
      (⟨(some 64), .mv (.tmp 63), none⟩, .still),
      (⟨(some 65), .mv (.tmp 7), (some (64, false))⟩, .still),
      (⟨(some 66), .call 28 [(.tmp 65)], (some (64, false))⟩, .loud),
      (⟨(some 67), .fieldAddr 4 (.tmp 8), (some (64, false))⟩, .still),
      (⟨(some 68), .load1 (.tmp 67), (some (64, false))⟩, .reads 2 3),
      (⟨(some 69), .lenS (.tmp 68), (some (64, false))⟩, .still),
      (⟨(some 70), .bin .neq (.tmp 66) (.tmp 69), (some (64, false))⟩, .still),
      (⟨(some 71), .pick (.tmp 64) (.const (.bool true)) (.tmp 70), none⟩, .still),
      (⟨(some 72), .mv (.tmp 71), none⟩, .still),
      (⟨(some 73), .mv (.tmp 13), (some (72, false))⟩, .still),
      (⟨(some 74), .fieldAddr 5 (.tmp 8), (some (72, false))⟩, .still),
      (⟨(some 75), .load1 (.tmp 74), (some (72, false))⟩, .reads 3 3),
      (⟨(some 76), .bin .geq (.tmp 75) (.const (.int .i64 0)), (some (72, false))⟩, .still),
      (⟨(some 77), .eqBool true (.tmp 73) (.tmp 76), (some (72, false))⟩, .still),
      (⟨(some 78), .pick (.tmp 72) (.const (.bool true)) (.tmp 77), none⟩, .still),
      (⟨(some 79), .mv (.tmp 78), none⟩, .still),
      (⟨(some 80), .mv (.tmp 13), (some (79, false))⟩, .still),
      (⟨(some 81), .mv (.tmp 80), (some (79, false))⟩, .still),
      (⟨(some 82), .mv (.tmp 12), (some (81, true))⟩, .still),
      (⟨(some 83), .fieldAddr 5 (.tmp 8), (some (81, true))⟩, .still),
      (⟨(some 84), .load1 (.tmp 83), (some (81, true))⟩, .reads 3 3),
      (⟨(some 85), .bin .neq (.tmp 82) (.tmp 84), (some (81, true))⟩, .still),
      (⟨(some 86), .pick (.tmp 81) (.tmp 85) (.const (.bool false)), (some (79, false))⟩, .still),
      (⟨(some 87), .pick (.tmp 79) (.const (.bool true)) (.tmp 86), none⟩, .still),
      (⟨(some 88), .mv (.tmp 87), none⟩, .still),
      (⟨(some 89), .mv (.tmp 13), (some (88, false))⟩, .still),
      (⟨(some 90), .un .not (.tmp 89), (some (88, false))⟩, .still),
      (⟨(some 91), .mv (.tmp 90), (some (88, false))⟩, .still),
      (⟨(some 92), .mv (.tmp 12), (some (91, true))⟩, .still),
      (⟨(some 93), .bin .neq (.tmp 92) (.const (.int .i64 0)), (some (91, true))⟩, .still),
      (⟨(some 94), .pick (.tmp 91) (.tmp 93) (.const (.bool false)), (some (88, false))⟩, .still),
      (⟨(some 95), .pick (.tmp 88) (.const (.bool true)) (.tmp 94), none⟩, .still),
      (⟨(some 96), .mv (.tmp 95), none⟩, .still),
      (⟨(some 97), .mv (.tmp 7), (some (96, false))⟩, .still),
      (⟨(some 98), .fieldAddr 1 (.tmp 10), (some (96, false))⟩, .still),
      (⟨(some 99), .load1 (.tmp 98), (some (96, false))⟩, .reads 3 3),
      (⟨(some 100), .call 32 [(.tmp 97), (.tmp 99)], (some (96, false))⟩, .loud),
      (⟨(some 101), .fieldAddr 2 (.tmp 8), (some (96, false))⟩, .still),
      (⟨(some 102), .load1 (.tmp 101), (some (96, false))⟩, .reads 3 4),
      (⟨(some 103), .fieldAddr 1 (.tmp 10), (some (96, false))⟩, .still),
      (⟨(some 104), .load1 (.tmp 103), (some (96, false))⟩, .reads 3 4),
      (⟨(some 105), .call 33 [(.tmp 102), (.tmp 104)], (some (96, false))⟩, .loud),
      (⟨(some 106), .eqBool true (.tmp 100) (.tmp 105), (some (96, false))⟩, .still),
      (⟨(some 107), .pick (.tmp 96) (.const (.bool true)) (.tmp 106), none⟩, .still)])
    (.cond (.tmp 107)
      (.seq (.region [
        ⟨(some 6), .mv (.const (.bool false)), none⟩])
      (.ret))
      (.skip))))))))
    (.region [
      ⟨(some 108), .bin .add (.tmp 30) (.const (.int .i64 1)), none⟩,
      ⟨(some 30), .mv (.tmp 108), none⟩])))))))
  (.seq (.region [
    ⟨(some 6), .mv (.const (.bool true)), none⟩])
  (.ret)))))⟩

/-- 'hostler/hostlerlaw02.lives' -/
def F8 : AFunc := ⟨38, [.tmp 0],
  .seq (.region [
    ⟨(some 0), .mv (.const (.bool false)), none⟩])
  (.seq (.region [
    ⟨(some 3), .call 9 [(.const (.int .i64 70))], none⟩,
    ⟨(some 1), .mv (.tmp 3), none⟩])
  (.seq (.seq (.region [
    ⟨(some 4), .mv (.tmp 1), none⟩,
    ⟨(some 5), .cmpNil false 0 (.tmp 4) (.const .nilptr), none⟩,
    ⟨(some 6), .mv (.tmp 5), none⟩,
    ⟨(some 7), .mv (.tmp 1), (some (6, false))⟩,
    ⟨(some 8), .call 10 [(.tmp 7), (.const (.int .i64 3))], (some (6, false))⟩,
    ⟨(some 9), .un .not (.tmp 8), (some (6, false))⟩,
    ⟨(some 10), .pick (.tmp 6) (.const (.bool true)) (.tmp 9), none⟩,
    ⟨(some 11), .mv (.tmp 10), none⟩,
    ⟨(some 12), .mv (.tmp 1), (some (11, false))⟩,
    ⟨(some 13), .call 10 [(.tmp 12), (.const (.int .i64 64))], (some (11, false))⟩,
    ⟨(some 14), .un .not (.tmp 13), (some (11, false))⟩,
    ⟨(some 15), .pick (.tmp 11) (.const (.bool true)) (.tmp 14), none⟩])
  (.cond (.tmp 15)
    (.seq (.region [
      ⟨(some 0), .mv (.const (.bool false)), none⟩])
    (.ret))
    (.skip)))
  (.seq (.region [
    ⟨(some 16), .mv (.tmp 1), none⟩,
    ⟨(some 17), .call 17 [(.tmp 16)], none⟩,
    ⟨(some 2), .mv (.tmp 17), none⟩])
  (.seq (.region [
    ⟨(some 18), .mv (.tmp 2), none⟩,
    ⟨(some 19), .lenS (.tmp 18), none⟩,
    ⟨(some 20), .bin .eql (.tmp 19) (.const (.int .i64 2)), none⟩,
    ⟨(some 21), .mv (.tmp 20), none⟩,
    ⟨(some 22), .mv (.tmp 2), (some (21, true))⟩,
    ⟨(some 23), .idxAddr 1 none (.tmp 22) (.const (.int .i64 0)), (some (21, true))⟩,
    ⟨(some 24), .load1 (.tmp 23), (some (21, true))⟩,
    ⟨(some 25), .bin .eql (.tmp 24) (.const (.int .u64 8)), (some (21, true))⟩,
    ⟨(some 26), .pick (.tmp 21) (.tmp 25) (.const (.bool false)), none⟩,
    ⟨(some 27), .mv (.tmp 26), none⟩,
    ⟨(some 28), .mv (.tmp 2), (some (27, true))⟩,
    ⟨(some 29), .idxAddr 1 none (.tmp 28) (.const (.int .i64 1)), (some (27, true))⟩,
    ⟨(some 30), .load1 (.tmp 29), (some (27, true))⟩,
    ⟨(some 31), .bin .eql (.tmp 30) (.const (.int .u64 1)), (some (27, true))⟩,
    ⟨(some 32), .pick (.tmp 27) (.tmp 31) (.const (.bool false)), none⟩,
    ⟨(some 33), .mv (.tmp 32), none⟩,
    ⟨(some 34), .mv (.tmp 1), (some (33, true))⟩,
    ⟨(some 35), .call 15 [(.tmp 34), (.const (.int .i64 3))], (some (33, true))⟩,
    ⟨(some 36), .bin .eql (.tmp 35) (.const (.int .i64 64)), (some (33, true))⟩,
    ⟨(some 37), .pick (.tmp 33) (.tmp 36) (.const (.bool false)), none⟩,
    ⟨(some 0), .mv (.tmp 37), none⟩])
  (.ret)))))⟩

/-- 'hostler/mask.New' -/
def F9 : AFunc := ⟨14, [.tmp 2],
  .seq (.region [
    ⟨(some 2), .mv (.const .nilptr), none⟩])
  (.seq (.region [
    ⟨(some 3), .mv (.tmp 0), none⟩,
    ⟨(some 4), .max2 (.const (.int .i64 0)) (.tmp 3), none⟩,
    ⟨(some 5), .min2 (.tmp 4) (.const (.int .i64 4096)), none⟩,
    ⟨(some 0), .mv (.tmp 5), none⟩])
  (.seq (.region [
    ⟨(some 6), .mv (.tmp 0), none⟩,
    ⟨(some 7), .mv (.tmp 0), none⟩,
    ⟨(some 8), .bin .add (.tmp 7) (.const (.int .i64 64)), none⟩,
    ⟨(some 9), .bin .sub (.tmp 8) (.const (.int .i64 1)), none⟩,
    ⟨(some 10), .bin .quo (.tmp 9) (.const (.int .i64 64)), none⟩,
    ⟨(some 11), .mkslice 1 8 [(.int .u64 0)] (.tmp 10) (.tmp 10), none⟩,
    ⟨(some 12), .build [(.int .i64 0), .nilslice] [((0, 1), (.tmp 6)), ((1, 1), (.tmp 11))], none⟩,
    ⟨(some 13), .box (.tmp 12), none⟩,
    ⟨(some 2), .mv (.tmp 13), none⟩])
  (.ret)))⟩

/-- '(*hostler/mask.Mask).Put' -/
def F10 : AFunc := ⟨8, [.tmp 4],
  .seq (.region [
    ⟨(some 4), .mv (.const (.bool false)), none⟩])
  (.seq (.region [
    ⟨(some 5), .mv (.tmp 0), none⟩,
    ⟨(some 6), .mv (.tmp 1), none⟩,
    ⟨(some 7), .call 34 [(.tmp 5), (.tmp 6), (.const (.bool false))], none⟩,
    ⟨(some 4), .mv (.tmp 7), none⟩])
  (.ret))⟩

/-- '(*hostler/mask.Mask).Count' -/
def F11 : AFunc := ⟨21, [.tmp 2],
  .seq (.region [
    ⟨(some 2), .mv (.const (.int .i64 0)), none⟩])
  (.seq (.region [
    ⟨(some 3), .mv (.const (.int .i64 0)), none⟩])
  (.seq (.seq (.region [
    ⟨(some 6), .mv (.tmp 0), none⟩,
    ⟨(some 7), .nilCheck (.tmp 6), none⟩,
    ⟨(some 8), .fieldAddr 1 (.tmp 7), none⟩,
    ⟨(some 9), .load1 (.tmp 8), none⟩,
    ⟨(some 10), .lenS (.tmp 9), none⟩,
    ⟨(some 11), .mv (.const (.int .i64 0)), none⟩])
  (.block 0 (.loop (.seq (.region [
      ⟨(some 12), .bin .lss (.tmp 11) (.tmp 10), none⟩])
    (.seq (.cond (.tmp 12)
      (.skip)
      (.exit 0))
    (.seq (.block 1 (.seq (.region [
      ⟨(some 13), .idxAddr 1 none (.tmp 9) (.tmp 11), none⟩,
      ⟨(some 14), .load1 (.tmp 13), none⟩,
      ⟨(some 5), .mv (.tmp 14), none⟩])
    (.region [
      ⟨(some 15), .mv (.tmp 3), none⟩,
      ⟨(some 16), .mv (.tmp 5), none⟩,
      ⟨(some 17), .call 35 [(.tmp 16)], none⟩,
      ⟨(some 18), .bin .add (.tmp 15) (.tmp 17), none⟩,
      ⟨(some 3), .mv (.tmp 18), none⟩])))
    (.region [
      ⟨(some 19), .bin .add (.tmp 11) (.const (.int .i64 1)), none⟩,
      ⟨(some 11), .mv (.tmp 19), none⟩])))))))
  (.seq (.region [
    ⟨(some 20), .mv (.tmp 3), none⟩,
    ⟨(some 2), .mv (.tmp 20), none⟩])
  (.ret))))⟩

/-- '(*hostler/mask.Mask).First' -/
def F12 : AFunc := ⟨5, [.tmp 2],
  .seq (.region [
    ⟨(some 2), .mv (.const (.int .i64 0)), none⟩])
  (.seq (.region [
    ⟨(some 3), .mv (.tmp 0), none⟩,
    ⟨(some 4), .call 15 [(.tmp 3), (.const (.int .i64 (-1)))], none⟩,
    ⟨(some 2), .mv (.tmp 4), none⟩])
  (.ret))⟩

/-- '(*hostler/mask.Mask).Take' -/
def F13 : AFunc := ⟨8, [.tmp 4],
  .seq (.region [
    ⟨(some 4), .mv (.const (.bool false)), none⟩])
  (.seq (.region [
    ⟨(some 5), .mv (.tmp 0), none⟩,
    ⟨(some 6), .mv (.tmp 1), none⟩,
    ⟨(some 7), .call 34 [(.tmp 5), (.tmp 6), (.const (.bool true))], none⟩,
    ⟨(some 4), .mv (.tmp 7), none⟩])
  (.ret))⟩

/-- '(*hostler/mask.Mask).Has' -/
def F14 : AFunc := ⟨30, [.tmp 4],
  .seq (.region [
    ⟨(some 4), .mv (.const (.bool false)), none⟩])
  (.seq (.region [
    ⟨(some 5), .mv (.tmp 1), none⟩,
    ⟨(some 6), .bin .geq (.tmp 5) (.const (.int .i64 0)), none⟩,
    ⟨(some 7), .mv (.tmp 6), none⟩,
    ⟨(some 8), .mv (.tmp 1), (some (7, true))⟩,
    ⟨(some 9), .mv (.tmp 0), (some (7, true))⟩,
    ⟨(some 10), .nilCheck (.tmp 9), (some (7, true))⟩,
    ⟨(some 11), .fieldAddr 0 (.tmp 10), (some (7, true))⟩,
    ⟨(some 12), .load1 (.tmp 11), (some (7, true))⟩,
    ⟨(some 13), .bin .lss (.tmp 8) (.tmp 12), (some (7, true))⟩,
    ⟨(some 14), .pick (.tmp 7) (.tmp 13) (.const (.bool false)), none⟩,
    ⟨(some 15), .mv (.tmp 14), none⟩,
    ⟨(some 16), .mv (.tmp 0), (some (15, true))⟩,
    ⟨(some 17), .nilCheck (.tmp 16), (some (15, true))⟩,
    ⟨(some 18), .fieldAddr 1 (.tmp 17), (some (15, true))⟩,
    ⟨(some 19), .load1 (.tmp 18), (some (15, true))⟩,
    ⟨(some 20), .mv (.tmp 1), (some (15, true))⟩,
    ⟨(some 21), .bin .quo (.tmp 20) (.const (.int .i64 64)), (some (15, true))⟩,
    ⟨(some 22), .idxAddr 1 none (.tmp 19) (.tmp 21), (some (15, true))⟩,
    ⟨(some 23), .load1 (.tmp 22), (some (15, true))⟩,
    ⟨(some 24), .mv (.tmp 1), (some (15, true))⟩,
    ⟨(some 25), .bin .rem (.tmp 24) (.const (.int .i64 64)), (some (15, true))⟩,
    ⟨(some 26), .bin .shr (.tmp 23) (.tmp 25), (some (15, true))⟩,
    ⟨(some 27), .bin .and (.tmp 26) (.const (.int .u64 1)), (some (15, true))⟩,
    ⟨(some 28), .bin .eql (.tmp 27) (.const (.int .u64 1)), (some (15, true))⟩,
    ⟨(some 29), .pick (.tmp 15) (.tmp 28) (.const (.bool false)), none⟩,
    ⟨(some 4), .mv (.tmp 29), none⟩])
  (.ret))⟩

/-- '(*hostler/mask.Mask).Next' -/
def F15 : AFunc := ⟨36, [.tmp 4],
  .seq (.region [
    ⟨(some 4), .mv (.const (.int .i64 0)), none⟩])
  (.seq (.seq (.region [
    ⟨(some 6), .mv (.tmp 1), none⟩,
    ⟨(some 7), .max2 (.tmp 6) (.const (.int .i64 (-1))), none⟩,
    ⟨(some 1), .mv (.tmp 7), none⟩])
  (.block 0 (.loop (.seq (.seq (.region [
      ⟨(some 8), .mv (.tmp 1), none⟩,
      ⟨(some 9), .mv (.tmp 0), none⟩,
      ⟨(some 10), .nilCheck (.tmp 9), none⟩,
      ⟨(some 11), .fieldAddr 0 (.tmp 10), none⟩,
      ⟨(some 12), .load1 (.tmp 11), none⟩,
      ⟨(some 13), .bin .sub (.tmp 12) (.const (.int .i64 1)), none⟩,
      ⟨(some 14), .bin .lss (.tmp 8) (.tmp 13), none⟩])
    (.cond (.tmp 14)
      (.skip)
      (.exit 0)))
    (.block 1 (.seq (.region [
      ⟨(some 15), .mv (.tmp 1), none⟩,
      ⟨(some 16), .bin .add (.tmp 15) (.const (.int .i64 1)), none⟩,
      ⟨(some 1), .mv (.tmp 16), none⟩])
    (.seq (.seq (.region [
      ⟨(some 17), .mv (.tmp 0), none⟩,
      ⟨(some 18), .nilCheck (.tmp 17), none⟩,
      ⟨(some 19), .fieldAddr 1 (.tmp 18), none⟩,
      ⟨(some 20), .load1 (.tmp 19), none⟩,
      ⟨(some 21), .mv (.tmp 1), none⟩,
      ⟨(some 22), .bin .quo (.tmp 21) (.const (.int .i64 64)), none⟩,
      ⟨(some 23), .idxAddr 1 none (.tmp 20) (.tmp 22), none⟩,
      ⟨(some 24), .load1 (.tmp 23), none⟩,
      ⟨(some 25), .mv (.tmp 1), none⟩,
      ⟨(some 26), .bin .rem (.tmp 25) (.const (.int .i64 64)), none⟩,
      ⟨(some 27), .bin .shr (.tmp 24) (.tmp 26), none⟩,
      ⟨(some 5), .mv (.tmp 27), none⟩])
    (.seq (.region [
      ⟨(some 28), .mv (.tmp 5), none⟩,
      ⟨(some 29), .bin .neq (.tmp 28) (.const (.int .u64 0)), none⟩])
    (.cond (.tmp 29)
      (.seq (.region [
        ⟨(some 30), .mv (.tmp 1), none⟩,
        ⟨(some 31), .mv (.tmp 5), none⟩,
        ⟨(some 32), .call 36 [(.tmp 31)], none⟩,
        ⟨(some 33), .bin .add (.tmp 30) (.tmp 32), none⟩,
        ⟨(some 4), .mv (.tmp 33), none⟩])
      (.ret))
      (.skip))))
    (.region [
      ⟨(some 34), .mv (.tmp 1), none⟩,
      ⟨(some 35), .bin .or (.tmp 34) (.const (.int .i64 63)), none⟩,
      ⟨(some 1), .mv (.tmp 35), none⟩]))))))))
  (.seq (.region [
    ⟨(some 4), .mv (.const (.int .i64 (-1))), none⟩])
  (.ret)))⟩

/-- '(*hostler/mask.Mask).Len' -/
def F16 : AFunc := ⟨7, [.tmp 2],
  .seq (.region [
    ⟨(some 2), .mv (.const (.int .i64 0)), none⟩])
  (.seq (.region [
    ⟨(some 3), .mv (.tmp 0), none⟩,
    ⟨(some 4), .nilCheck (.tmp 3), none⟩,
    ⟨(some 5), .fieldAddr 0 (.tmp 4), none⟩,
    ⟨(some 6), .load1 (.tmp 5), none⟩,
    ⟨(some 2), .mv (.tmp 6), none⟩])
  (.ret))⟩

/-- '(*hostler/mask.Mask).Words' -/
def F17 : AFunc := ⟨8, [.tmp 2],
  .seq (.region [
    ⟨(some 2), .mv (.const .nilslice), none⟩])
  (.seq (.region [
    ⟨(some 3), .mv (.tmp 0), none⟩,
    ⟨(some 4), .nilCheck (.tmp 3), none⟩,
    ⟨(some 5), .fieldAddr 1 (.tmp 4), none⟩,
    ⟨(some 6), .load1 (.tmp 5), none⟩,
    ⟨(some 7), .call 37 [(.tmp 6)], none⟩,
    ⟨(some 2), .mv (.tmp 7), none⟩])
  (.ret))⟩

/-- 'hostler/hostlerlaw13.lives' -/
def F18 : AFunc := ⟨69, [.tmp 0],
  .seq (.region [
    ⟨(some 0), .mv (.const (.bool false)), none⟩])
  (.seq (.region [
    ⟨(some 12), .call 19 [(.const (.int .i64 4)), (.const (.int .i64 4))], none⟩,
    ⟨(some 1), .mv (.tmp 12), none⟩])
  (.seq (.seq (.region [
    ⟨(some 13), .mv (.tmp 1), none⟩,
    ⟨(some 14), .cmpNil false 0 (.tmp 13) (.const .nilptr), none⟩])
  (.cond (.tmp 14)
    (.seq (.region [
      ⟨(some 0), .mv (.const (.bool false)), none⟩])
    (.ret))
    (.skip)))
  (.seq (.region [
    ⟨(some 16), .mv (.tmp 1), none⟩,
    ⟨(some 17), .call 22 [(.tmp 16), (.const (.int .i64 2))], none⟩,
    ⟨(some 15), .mv (.tmp 17), none⟩,
    ⟨(some 18), .extract 0 (.tmp 15), none⟩,
    ⟨(some 19), .extract 1 (.tmp 15), none⟩,
    ⟨(some 2), .mv (.tmp 18), none⟩,
    ⟨(some 3), .mv (.tmp 19), none⟩])
  (.seq (.region [
    ⟨(some 21), .mv (.tmp 1), none⟩,
    ⟨(some 22), .call 22 [(.tmp 21), (.const (.int .i64 3))], none⟩,
    ⟨(some 20), .mv (.tmp 22), none⟩,
    ⟨(some 23), .extract 0 (.tmp 20), none⟩,
    ⟨(some 24), .extract 1 (.tmp 20), none⟩,
    ⟨(some 4), .mv (.tmp 23), none⟩,
    ⟨(some 5), .mv (.tmp 24), none⟩])
  (.seq (.region [
    ⟨(some 26), .mv (.tmp 1), none⟩,
    ⟨(some 27), .call 26 [(.tmp 26)], none⟩,
    ⟨(some 25), .mv (.tmp 27), none⟩,
    ⟨(some 28), .extract 0 (.tmp 25), none⟩,
    ⟨(some 29), .extract 1 (.tmp 25), none⟩,
    ⟨(some 6), .mv (.tmp 28), none⟩,
    ⟨(some 7), .mv (.tmp 29), none⟩])
  (.seq (.region [
    ⟨(some 31), .mv (.tmp 1), none⟩,
    ⟨(some 32), .call 26 [(.tmp 31)], none⟩,
    ⟨(some 30), .mv (.tmp 32), none⟩,
    ⟨(some 33), .extract 0 (.tmp 30), none⟩,
    ⟨(some 34), .extract 1 (.tmp 30), none⟩,
    ⟨(some 8), .mv (.tmp 33), none⟩,
    ⟨(some 9), .mv (.tmp 34), none⟩])
  (.seq (.region [
    ⟨(some 36), .mv (.tmp 1), none⟩,
    ⟨(some 37), .call 26 [(.tmp 36)], none⟩,
    ⟨(some 35), .mv (.tmp 37), none⟩,
    ⟨(some 38), .extract 0 (.tmp 35), none⟩,
    ⟨(some 39), .extract 1 (.tmp 35), none⟩,
    ⟨(some 10), .mv (.tmp 38), none⟩,
    ⟨(some 11), .mv (.tmp 39), none⟩])
  (.seq (.region [
    ⟨(some 40), .mv (.tmp 2), none⟩,
    ⟨(some 41), .mv (.tmp 40), none⟩,
    ⟨(some 42), .mv (.tmp 3), (some (41, true))⟩,
    ⟨(some 43), .pick (.tmp 41) (.tmp 42) (.const (.bool false)), none⟩,
    ⟨(some 44), .mv (.tmp 43), none⟩,
    ⟨(some 45), .mv (.tmp 4), (some (44, true))⟩,
    ⟨(some 46), .un .not (.tmp 45), (some (44, true))⟩,
    ⟨(some 47), .pick (.tmp 44) (.tmp 46) (.const (.bool false)), none⟩,
    ⟨(some 48), .mv (.tmp 47), none⟩,
    ⟨(some 49), .mv (.tmp 5), (some (48, true))⟩,
    ⟨(some 50), .pick (.tmp 48) (.tmp 49) (.const (.bool false)), none⟩,
    ⟨(some 51), .mv (.tmp 50), none⟩,
    ⟨(some 52), .mv (.tmp 7), (some (51, true))⟩,
    ⟨(some 53), .pick (.tmp 51) (.tmp 52) (.const (.bool false)), none⟩,
    ⟨(some 54), .mv (.tmp 53), none⟩,
    ⟨(some 55), .mv (.tmp 6), (some (54, true))⟩,
    ⟨(some 56), .bin .eql (.tmp 55) (.const (.int .i64 3)), (some (54, true))⟩,
    ⟨(some 57), .pick (.tmp 54) (.tmp 56) (.const (.bool false)), none⟩,
    ⟨(some 58), .mv (.tmp 57), none⟩,
    ⟨(some 59), .mv (.tmp 9), (some (58, true))⟩,
    ⟨(some 60), .pick (.tmp 58) (.tmp 59) (.const (.bool false)), none⟩,
    ⟨(some 61), .mv (.tmp 60), none⟩,
    ⟨(some 62), .mv (.tmp 8), (some (61, true))⟩,
    ⟨(some 63), .bin .eql (.tmp 62) (.const (.int .i64 2)), (some (61, true))⟩,
    ⟨(some 64), .pick (.tmp 61) (.tmp 63) (.const (.bool false)), none⟩,
    ⟨(some 65), .mv (.tmp 64), none⟩,
    ⟨(some 66), .mv (.tmp 11), (some (65, true))⟩,
    ⟨(some 67), .un .not (.tmp 66), (some (65, true))⟩,
    ⟨(some 68), .pick (.tmp 65) (.tmp 67) (.const (.bool false)), none⟩,
    ⟨(some 0), .mv (.tmp 68), none⟩])
  (.ret)))))))))⟩

/-- 'hostler/idle.New' -/
def F19 : AFunc := ⟨14, [.tmp 4],
  .seq (.region [
    ⟨(some 4), .mv (.const .nilptr), none⟩])
  (.seq (.region [
    ⟨(some 5), .mv (.tmp 0), none⟩,
    ⟨(some 6), .max2 (.const (.int .i64 1)) (.tmp 5), none⟩,
    ⟨(some 7), .min2 (.tmp 6) (.const (.int .i64 64)), none⟩,
    ⟨(some 8), .call 9 [(.tmp 7)], none⟩,
    ⟨(some 9), .mv (.tmp 1), none⟩,
    ⟨(some 10), .max2 (.const (.int .i64 1)) (.tmp 9), none⟩,
    ⟨(some 11), .min2 (.tmp 10) (.const (.int .i64 128)), none⟩,
    ⟨(some 12), .build [.nilptr, .nilslice, .nilslice, (.int .i64 0), (.int .i64 0)] [((0, 1), (.tmp 8)), ((3, 1), (.const (.int .i64 (-1)))), ((4, 1), (.tmp 11))], none⟩,
    ⟨(some 13), .box (.tmp 12), none⟩,
    ⟨(some 4), .mv (.tmp 13), none⟩])
  (.ret))⟩

/-- '(*hostler/idle.Idle).PutP' -/
def F20 : AFunc := ⟨20, [.tmp 4],
  .seq (.region [
    ⟨(some 4), .mv (.const (.bool false)), none⟩])
  (.seq (.region [
    ⟨(some 5), .mv (.tmp 0), none⟩,
    ⟨(some 6), .nilCheck (.tmp 5), none⟩,
    ⟨(some 7), .fieldAddr 1 (.tmp 6), none⟩,
    ⟨(some 8), .load1 (.tmp 7), none⟩,
    ⟨(some 9), .mv (.tmp 1), none⟩,
    ⟨(some 10), .call 38 [(.tmp 8), (.tmp 9)], none⟩,
    ⟨(some 11), .un .not (.tmp 10), none⟩,
    ⟨(some 12), .mv (.tmp 11), none⟩,
    ⟨(some 13), .mv (.tmp 0), (some (12, true))⟩,
    ⟨(some 14), .nilCheck (.tmp 13), (some (12, true))⟩,
    ⟨(some 15), .fieldAddr 0 (.tmp 14), (some (12, true))⟩,
    ⟨(some 16), .load1 (.tmp 15), (some (12, true))⟩,
    ⟨(some 17), .mv (.tmp 1), (some (12, true))⟩,
    ⟨(some 18), .call 10 [(.tmp 16), (.tmp 17)], (some (12, true))⟩,
    ⟨(some 19), .pick (.tmp 12) (.tmp 18) (.const (.bool false)), none⟩,
    ⟨(some 4), .mv (.tmp 19), none⟩])
  (.ret))⟩

/-- '(*hostler/idle.Idle).Pend' -/
def F21 : AFunc := ⟨42, [.tmp 4],
  .seq (.region [
    ⟨(some 4), .mv (.const (.bool false)), none⟩])
  (.seq (.seq (.region [
    ⟨(some 5), .mv (.tmp 1), none⟩,
    ⟨(some 6), .bin .lss (.tmp 5) (.const (.int .i64 0)), none⟩,
    ⟨(some 7), .mv (.tmp 6), none⟩,
    ⟨(some 8), .mv (.tmp 1), (some (7, false))⟩,
    ⟨(some 9), .mv (.tmp 0), (some (7, false))⟩,
    ⟨(some 10), .nilCheck (.tmp 9), (some (7, false))⟩,
    ⟨(some 11), .fieldAddr 0 (.tmp 10), (some (7, false))⟩,
    ⟨(some 12), .load1 (.tmp 11), (some (7, false))⟩,
    ⟨(some 13), .call 16 [(.tmp 12)], (some (7, false))⟩,
    ⟨(some 14), .bin .geq (.tmp 8) (.tmp 13), (some (7, false))⟩,
    ⟨(some 15), .pick (.tmp 7) (.const (.bool true)) (.tmp 14), none⟩,
    ⟨(some 16), .mv (.tmp 15), none⟩,
    ⟨(some 17), .mv (.tmp 0), (some (16, false))⟩,
    ⟨(some 18), .nilCheck (.tmp 17), (some (16, false))⟩,
    ⟨(some 19), .fieldAddr 0 (.tmp 18), (some (16, false))⟩,
    ⟨(some 20), .load1 (.tmp 19), (some (16, false))⟩,
    ⟨(some 21), .mv (.tmp 1), (some (16, false))⟩,
    ⟨(some 22), .call 14 [(.tmp 20), (.tmp 21)], (some (16, false))⟩,
    ⟨(some 23), .pick (.tmp 16) (.const (.bool true)) (.tmp 22), none⟩,
    ⟨(some 24), .mv (.tmp 23), none⟩,
    ⟨(some 25), .mv (.tmp 0), (some (24, false))⟩,
    ⟨(some 26), .nilCheck (.tmp 25), (some (24, false))⟩,
    ⟨(some 27), .fieldAddr 1 (.tmp 26), (some (24, false))⟩,
    ⟨(some 28), .load1 (.tmp 27), (some (24, false))⟩,
    ⟨(some 29), .mv (.tmp 1), (some (24, false))⟩,
    ⟨(some 30), .call 38 [(.tmp 28), (.tmp 29)], (some (24, false))⟩,
    ⟨(some 31), .pick (.tmp 24) (.const (.bool true)) (.tmp 30), none⟩])
  (.cond (.tmp 31)
    (.seq (.region [
      ⟨(some 4), .mv (.const (.bool false)), none⟩])
    (.ret))
    (.skip)))
  (.seq (.region [
    ⟨(some 32), .mv (.tmp 0), none⟩,
    ⟨(some 33), .mv (.tmp 0), none⟩,
    ⟨(some 34), .nilCheck (.tmp 33), none⟩,
    ⟨(some 35), .fieldAddr 1 (.tmp 34), none⟩,
    ⟨(some 36), .load1 (.tmp 35), none⟩,
    ⟨(some 37), .mv (.tmp 1), none⟩,
    ⟨(some 38), .buildSlice [(.int .i64 0)] 1 [((0, 1), (.tmp 37))], none⟩,
    ⟨(some 39), .append 1 8 [(.int .i64 0)] (.tmp 36) (.tmp 38), none⟩,
    ⟨(some 40), .nilCheck (.tmp 32), none⟩,
    ⟨(some 41), .fieldAddr 1 (.tmp 40), none⟩,
    ⟨none, .store 1 (.tmp 41) (.tmp 39), none⟩])
  (.seq (.region [
    ⟨(some 4), .mv (.const (.bool true)), none⟩])
  (.ret))))⟩

/-- '(*hostler/idle.Idle).Stop' -/
def F22 : AFunc := ⟨53, [.tmp 4, .tmp 5],
  .seq (.region [
    ⟨(some 4), .mv (.const (.bool false)), none⟩,
    ⟨(some 5), .mv (.const (.bool false)), none⟩])
  (.seq (.block 0 (.seq (.region [
    ⟨(some 7), .mv (.tmp 1), none⟩,
    ⟨(some 8), .bin .lss (.tmp 7) (.const (.int .i64 0)), none⟩,
    ⟨(some 9), .mv (.tmp 8), none⟩,
    ⟨(some 10), .mv (.tmp 1), (some (9, false))⟩,
    ⟨(some 11), .mv (.tmp 0), (some (9, false))⟩,
    ⟨(some 12), .nilCheck (.tmp 11), (some (9, false))⟩,
    ⟨(some 13), .fieldAddr 4 (.tmp 12), (some (9, false))⟩,
    ⟨(some 14), .load1 (.tmp 13), (some (9, false))⟩,
    ⟨(some 15), .bin .geq (.tmp 10) (.tmp 14), (some (9, false))⟩,
    ⟨(some 16), .pick (.tmp 9) (.const (.bool true)) (.tmp 15), none⟩,
    ⟨(some 17), .mv (.tmp 16), none⟩,
    ⟨(some 18), .mv (.tmp 1), (some (17, false))⟩,
    ⟨(some 19), .mv (.tmp 0), (some (17, false))⟩,
    ⟨(some 20), .nilCheck (.tmp 19), (some (17, false))⟩,
    ⟨(some 21), .fieldAddr 3 (.tmp 20), (some (17, false))⟩,
    ⟨(some 22), .load1 (.tmp 21), (some (17, false))⟩,
    ⟨(some 23), .bin .eql (.tmp 18) (.tmp 22), (some (17, false))⟩,
    ⟨(some 24), .pick (.tmp 17) (.const (.bool true)) (.tmp 23), none⟩,
    ⟨(some 25), .mv (.tmp 24), none⟩,
    ⟨(some 26), .mv (.tmp 0), (some (25, false))⟩,
    ⟨(some 27), .nilCheck (.tmp 26), (some (25, false))⟩,
    ⟨(some 28), .fieldAddr 2 (.tmp 27), (some (25, false))⟩,
    ⟨(some 29), .load1 (.tmp 28), (some (25, false))⟩,
    ⟨(some 30), .mv (.tmp 1), (some (25, false))⟩,
    ⟨(some 31), .call 38 [(.tmp 29), (.tmp 30)], (some (25, false))⟩,
    ⟨(some 32), .pick (.tmp 25) (.const (.bool true)) (.tmp 31), none⟩,
    ⟨(some 6), .mv (.tmp 32), none⟩])
  (.cond (.tmp 6)
    (.seq (.region [
      ⟨(some 4), .mv (.const (.bool false)), none⟩,
      ⟨(some 5), .mv (.const (.bool false)), none⟩])
    (.ret))
    (.seq (.region [
      ⟨(some 34), .mv (.tmp 0), none⟩,
      ⟨(some 35), .nilCheck (.tmp 34), none⟩,
      ⟨(some 36), .fieldAddr 3 (.tmp 35), none⟩,
      ⟨(some 37), .load1 (.tmp 36), none⟩,
      ⟨(some 38), .bin .eql (.tmp 37) (.const (.int .i64 (-1))), none⟩,
      ⟨(some 33), .mv (.tmp 38), none⟩])
    (.cond (.tmp 33)
      (.seq (.region [
        ⟨(some 39), .mv (.tmp 0), none⟩,
        ⟨(some 40), .mv (.tmp 1), none⟩,
        ⟨(some 41), .nilCheck (.tmp 39), none⟩,
        ⟨(some 42), .fieldAddr 3 (.tmp 41), none⟩,
        ⟨none, .store 1 (.tmp 42) (.tmp 40), none⟩])
      (.seq (.region [
        ⟨(some 4), .mv (.const (.bool true)), none⟩,
        ⟨(some 5), .mv (.const (.bool true)), none⟩])
      (.ret)))
      (.skip))))))
  (.seq (.region [
    ⟨(some 43), .mv (.tmp 0), none⟩,
    ⟨(some 44), .mv (.tmp 0), none⟩,
    ⟨(some 45), .nilCheck (.tmp 44), none⟩,
    ⟨(some 46), .fieldAddr 2 (.tmp 45), none⟩,
    ⟨(some 47), .load1 (.tmp 46), none⟩,
    ⟨(some 48), .mv (.tmp 1), none⟩,
    ⟨(some 49), .buildSlice [(.int .i64 0)] 1 [((0, 1), (.tmp 48))], none⟩,
    ⟨(some 50), .append 1 8 [(.int .i64 0)] (.tmp 47) (.tmp 49), none⟩,
    ⟨(some 51), .nilCheck (.tmp 43), none⟩,
    ⟨(some 52), .fieldAddr 2 (.tmp 51), none⟩,
    ⟨none, .store 1 (.tmp 52) (.tmp 50), none⟩])
  (.seq (.region [
    ⟨(some 4), .mv (.const (.bool false)), none⟩,
    ⟨(some 5), .mv (.const (.bool true)), none⟩])
  (.ret))))⟩

/-- '(*hostler/idle.Idle).CountP' -/
def F23 : AFunc := ⟨8, [.tmp 2],
  .seq (.region [
    ⟨(some 2), .mv (.const (.int .i64 0)), none⟩])
  (.seq (.region [
    ⟨(some 3), .mv (.tmp 0), none⟩,
    ⟨(some 4), .nilCheck (.tmp 3), none⟩,
    ⟨(some 5), .fieldAddr 0 (.tmp 4), none⟩,
    ⟨(some 6), .load1 (.tmp 5), none⟩,
    ⟨(some 7), .call 11 [(.tmp 6)], none⟩,
    ⟨(some 2), .mv (.tmp 7), none⟩])
  (.ret))⟩

/-- '(*hostler/idle.Idle).TakeP' -/
def F24 : AFunc := ⟨18, [.tmp 2, .tmp 3],
  .seq (.region [
    ⟨(some 2), .mv (.const (.int .i64 0)), none⟩,
    ⟨(some 3), .mv (.const (.bool false)), none⟩])
  (.seq (.region [
    ⟨(some 5), .mv (.tmp 0), none⟩,
    ⟨(some 6), .nilCheck (.tmp 5), none⟩,
    ⟨(some 7), .fieldAddr 0 (.tmp 6), none⟩,
    ⟨(some 8), .load1 (.tmp 7), none⟩,
    ⟨(some 9), .call 12 [(.tmp 8)], none⟩,
    ⟨(some 4), .mv (.tmp 9), none⟩])
  (.seq (.region [
    ⟨(some 10), .mv (.tmp 4), none⟩,
    ⟨(some 11), .max2 (.const (.int .i64 0)) (.tmp 10), none⟩,
    ⟨(some 12), .mv (.tmp 0), none⟩,
    ⟨(some 13), .nilCheck (.tmp 12), none⟩,
    ⟨(some 14), .fieldAddr 0 (.tmp 13), none⟩,
    ⟨(some 15), .load1 (.tmp 14), none⟩,
    ⟨(some 16), .mv (.tmp 4), none⟩,
    ⟨(some 17), .call 13 [(.tmp 15), (.tmp 16)], none⟩,
    ⟨(some 2), .mv (.tmp 11), none⟩,
    ⟨(some 3), .mv (.tmp 17), none⟩])
  (.ret)))⟩

/-- '(*hostler/idle.Idle).TakePending' -/
def F25 : AFunc := ⟨26, [.tmp 2, .tmp 3],
  .seq (.region [
    ⟨(some 2), .mv (.const (.int .i64 0)), none⟩,
    ⟨(some 3), .mv (.const (.bool false)), none⟩])
  (.seq (.seq (.region [
    ⟨(some 5), .mv (.tmp 0), none⟩,
    ⟨(some 6), .nilCheck (.tmp 5), none⟩,
    ⟨(some 7), .fieldAddr 1 (.tmp 6), none⟩,
    ⟨(some 8), .load1 (.tmp 7), none⟩,
    ⟨(some 9), .lenS (.tmp 8), none⟩,
    ⟨(some 10), .bin .eql (.tmp 9) (.const (.int .i64 0)), none⟩])
  (.cond (.tmp 10)
    (.seq (.region [
      ⟨(some 2), .mv (.const (.int .i64 0)), none⟩,
      ⟨(some 3), .mv (.const (.bool false)), none⟩])
    (.ret))
    (.skip)))
  (.seq (.region [
    ⟨(some 11), .mv (.tmp 0), none⟩,
    ⟨(some 12), .nilCheck (.tmp 11), none⟩,
    ⟨(some 13), .fieldAddr 1 (.tmp 12), none⟩,
    ⟨(some 14), .load1 (.tmp 13), none⟩,
    ⟨(some 15), .idxAddr 1 none (.tmp 14) (.const (.int .i64 0)), none⟩,
    ⟨(some 16), .load1 (.tmp 15), none⟩,
    ⟨(some 4), .mv (.tmp 16), none⟩])
  (.seq (.region [
    ⟨(some 17), .mv (.tmp 0), none⟩,
    ⟨(some 18), .mv (.tmp 0), none⟩,
    ⟨(some 19), .nilCheck (.tmp 18), none⟩,
    ⟨(some 20), .fieldAddr 1 (.tmp 19), none⟩,
    ⟨(some 21), .load1 (.tmp 20), none⟩,
    ⟨(some 22), .call 39 [(.tmp 21), (.const (.int .i64 0)), (.const (.int .i64 1))], none⟩,
    ⟨(some 23), .nilCheck (.tmp 17), none⟩,
    ⟨(some 24), .fieldAddr 1 (.tmp 23), none⟩,
    ⟨none, .store 1 (.tmp 24) (.tmp 22), none⟩])
  (.seq (.region [
    ⟨(some 25), .mv (.tmp 4), none⟩,
    ⟨(some 2), .mv (.tmp 25), none⟩,
    ⟨(some 3), .mv (.const (.bool true)), none⟩])
  (.ret)))))⟩

/-- '(*hostler/idle.Idle).TakeM' -/
def F26 : AFunc := ⟨44, [.tmp 2, .tmp 3],
  .seq (.region [
    ⟨(some 2), .mv (.const (.int .i64 0)), none⟩,
    ⟨(some 3), .mv (.const (.bool false)), none⟩])
  (.seq (.seq (.region [
    ⟨(some 8), .mv (.tmp 0), none⟩,
    ⟨(some 9), .nilCheck (.tmp 8), none⟩,
    ⟨(some 10), .fieldAddr 2 (.tmp 9), none⟩,
    ⟨(some 11), .load1 (.tmp 10), none⟩,
    ⟨(some 12), .lenS (.tmp 11), none⟩,
    ⟨(some 4), .mv (.tmp 12), none⟩])
  (.seq (.region [
    ⟨(some 13), .mv (.tmp 4), none⟩,
    ⟨(some 14), .bin .gtr (.tmp 13) (.const (.int .i64 0)), none⟩])
  (.cond (.tmp 14)
    (.seq (.region [
      ⟨(some 15), .mv (.tmp 0), none⟩,
      ⟨(some 16), .nilCheck (.tmp 15), none⟩,
      ⟨(some 17), .fieldAddr 2 (.tmp 16), none⟩,
      ⟨(some 18), .load1 (.tmp 17), none⟩,
      ⟨(some 19), .mv (.tmp 4), none⟩,
      ⟨(some 20), .bin .sub (.tmp 19) (.const (.int .i64 1)), none⟩,
      ⟨(some 21), .idxAddr 1 none (.tmp 18) (.tmp 20), none⟩,
      ⟨(some 22), .load1 (.tmp 21), none⟩,
      ⟨(some 5), .mv (.tmp 22), none⟩])
    (.seq (.region [
      ⟨(some 23), .mv (.tmp 0), none⟩,
      ⟨(some 24), .mv (.tmp 0), none⟩,
      ⟨(some 25), .nilCheck (.tmp 24), none⟩,
      ⟨(some 26), .fieldAddr 2 (.tmp 25), none⟩,
      ⟨(some 27), .load1 (.tmp 26), none⟩,
      ⟨(some 28), .mv (.tmp 4), none⟩,
      ⟨(some 29), .bin .sub (.tmp 28) (.const (.int .i64 1)), none⟩,
      ⟨(some 30), .slc 1 none (.tmp 27) none (some (.tmp 29)) none, none⟩,
      ⟨(some 31), .nilCheck (.tmp 23), none⟩,
      ⟨(some 32), .fieldAddr 2 (.tmp 31), none⟩,
      ⟨none, .store 1 (.tmp 32) (.tmp 30), none⟩])
    (.seq (.region [
      ⟨(some 33), .mv (.tmp 5), none⟩,
      ⟨(some 2), .mv (.tmp 33), none⟩,
      ⟨(some 3), .mv (.const (.bool true)), none⟩])
    (.ret))))
    (.skip))))
  (.seq (.region [
    ⟨(some 35), .mv (.tmp 0), none⟩,
    ⟨(some 36), .call 29 [(.tmp 35)], none⟩,
    ⟨(some 34), .mv (.tmp 36), none⟩,
    ⟨(some 37), .extract 0 (.tmp 34), none⟩,
    ⟨(some 38), .extract 1 (.tmp 34), none⟩,
    ⟨(some 6), .mv (.tmp 37), none⟩,
    ⟨(some 7), .mv (.tmp 38), none⟩])
  (.seq (.region [
    ⟨(some 39), .mv (.tmp 0), none⟩,
    ⟨(some 40), .nilCheck (.tmp 39), none⟩,
    ⟨(some 41), .fieldAddr 3 (.tmp 40), none⟩,
    ⟨none, .store 1 (.tmp 41) (.const (.int .i64 (-1))), none⟩])
  (.seq (.region [
    ⟨(some 42), .mv (.tmp 6), none⟩,
    ⟨(some 43), .mv (.tmp 7), none⟩,
    ⟨(some 2), .mv (.tmp 42), none⟩,
    ⟨(some 3), .mv (.tmp 43), none⟩])
  (.ret)))))⟩

/-- '(*hostler/idle.Idle).Pending' -/
def F27 : AFunc := ⟨8, [.tmp 2],
  .seq (.region [
    ⟨(some 2), .mv (.const (.int .i64 0)), none⟩])
  (.seq (.region [
    ⟨(some 3), .mv (.tmp 0), none⟩,
    ⟨(some 4), .nilCheck (.tmp 3), none⟩,
    ⟨(some 5), .fieldAddr 1 (.tmp 4), none⟩,
    ⟨(some 6), .load1 (.tmp 5), none⟩,
    ⟨(some 7), .lenS (.tmp 6), none⟩,
    ⟨(some 2), .mv (.tmp 7), none⟩])
  (.ret))⟩

/-- '(*hostler/idle.Idle).CountM' -/
def F28 : AFunc := ⟨8, [.tmp 2],
  .seq (.region [
    ⟨(some 2), .mv (.const (.int .i64 0)), none⟩])
  (.seq (.region [
    ⟨(some 3), .mv (.tmp 0), none⟩,
    ⟨(some 4), .nilCheck (.tmp 3), none⟩,
    ⟨(some 5), .fieldAddr 2 (.tmp 4), none⟩,
    ⟨(some 6), .load1 (.tmp 5), none⟩,
    ⟨(some 7), .lenS (.tmp 6), none⟩,
    ⟨(some 2), .mv (.tmp 7), none⟩])
  (.ret))⟩

/-- '(*hostler/idle.Idle).Poller' -/
def F29 : AFunc := ⟨14, [.tmp 2, .tmp 3],
  .seq (.region [
    ⟨(some 2), .mv (.const (.int .i64 0)), none⟩,
    ⟨(some 3), .mv (.const (.bool false)), none⟩])
  (.seq (.draw [
    (⟨(some 4), .mv (.tmp 0), none⟩, .still),
    (⟨(some 5), .nilCheck (.tmp 4), none⟩, .still),
    (⟨(some 6), .fieldAddr 3 (.tmp 5), none⟩, .still),
    (⟨(some 7), .load1 (.tmp 6), none⟩, .reads 0 0),
    (⟨(some 8), .max2 (.const (.int .i64 0)) (.tmp 7), none⟩, .still),
    (⟨(some 9), .mv (.tmp 0), none⟩, .still),
    (⟨(some 10), .nilCheck (.tmp 9), none⟩, .still),
    (⟨(some 11), .fieldAddr 3 (.tmp 10), none⟩, .still),
    (⟨(some 12), .load1 (.tmp 11), none⟩, .reads 0 0),
    (⟨(some 13), .bin .neq (.tmp 12) (.const (.int .i64 (-1))), none⟩, .still),
    (⟨(some 2), .mv (.tmp 8), none⟩, .still),
    (⟨(some 3), .mv (.tmp 13), none⟩, .still)])
  (.ret))⟩

/-- 'hostler/hostlerref13.New' -/
def F30 : AFunc := ⟨10, [.cellN 4 6],
  .seq (.region [
    ⟨(some 4), .alloc [(.int .i64 0), (.int .i64 0), .nilslice, .nilslice, .nilslice, (.int .i64 0)], none⟩])
  (.seq (.region [
    ⟨(some 5), .mv (.tmp 0), none⟩,
    ⟨(some 6), .call 40 [(.tmp 5), (.const (.int .i64 64))], none⟩,
    ⟨(some 7), .mv (.tmp 1), none⟩,
    ⟨(some 8), .call 40 [(.tmp 7), (.const (.int .i64 128))], none⟩,
    ⟨(some 9), .build [(.int .i64 0), (.int .i64 0), .nilslice, .nilslice, .nilslice, (.int .i64 0)] [((0, 1), (.tmp 6)), ((1, 1), (.tmp 8)), ((5, 1), (.const (.int .i64 (-1))))], none⟩,
    ⟨none, .store 6 (.tmp 4) (.tmp 9), none⟩])
  (.ret))⟩

/-- 'hostler/hostlerlaw13.do' -/
def F31 : AFunc := ⟨193, [.cellN 6 6, .tmp 7],
  .seq (.region [
    ⟨(some 4), .box (.tmp 1), none⟩,
    ⟨(some 5), .box (.tmp 2), none⟩,
    ⟨(some 6), .alloc [(.int .i64 0), (.int .i64 0), .nilslice, .nilslice, .nilslice, (.int .i64 0)], none⟩,
    ⟨(some 7), .mv (.const (.bool false)), none⟩])
  (.seq (.seq (.region [
    ⟨(some 34), .fieldAddr 0 (.tmp 5), none⟩,
    ⟨(some 35), .load1 (.tmp 34), none⟩,
    ⟨(some 36), .bin .rem (.tmp 35) (.const (.int .u8 9)), none⟩])
  (.block 0 (.seq (.region [
    ⟨(some 38), .bin .eql (.tmp 36) (.const (.int .u8 0)), none⟩,
    ⟨(some 37), .mv (.tmp 38), none⟩])
  (.cond (.tmp 37)
    (.seq (.region [
      ⟨(some 40), .loadN 6 (.tmp 4), none⟩,
      ⟨(some 41), .fieldAddr 1 (.tmp 5), none⟩,
      ⟨(some 42), .load1 (.tmp 41), none⟩,
      ⟨(some 43), .call 41 [(.tmp 40), (.tmp 42)], none⟩,
      ⟨(some 39), .mv (.tmp 43), none⟩,
      ⟨(some 44), .extract 0 (.tmp 39), none⟩,
      ⟨(some 45), .extract 1 (.tmp 39), none⟩,
      ⟨(some 8), .alloc [(.int .i64 0), (.int .i64 0), .nilslice, .nilslice, .nilslice, (.int .i64 0)], none⟩,
      ⟨none, .store 6 (.tmp 8) (.tmp 44), none⟩,
      ⟨(some 9), .mv (.tmp 45), none⟩])
    (.seq (.draw [
      (⟨(some 46), .loadN 6 (.tmp 8), none⟩, .reads 0 1),
      (⟨(some 47), .mv (.tmp 0), none⟩, .still),
      (⟨(some 48), .fieldAddr 1 (.tmp 5), none⟩, .still),
      (⟨(some 49), .load1 (.tmp 48), none⟩, .reads 0 0),
      (⟨(some 50), .call 20 [(.tmp 47), (.tmp 49)], none⟩, .loud),
      (⟨(some 51), .mv (.tmp 9), none⟩, .still),
      (⟨(some 52), .eqBool false (.tmp 50) (.tmp 51), none⟩, .still),
      (⟨none, .store 6 (.tmp 6) (.tmp 46), none⟩, .loud),
      (⟨(some 7), .mv (.tmp 52), none⟩, .still)])
    (.ret)))
    (.seq (.region [
      ⟨(some 54), .bin .eql (.tmp 36) (.const (.int .u8 1)), none⟩,
      ⟨(some 53), .mv (.tmp 54), none⟩])
    (.cond (.tmp 53)
      (.seq (.region [
        ⟨(some 56), .loadN 6 (.tmp 4), none⟩,
        ⟨(some 57), .call 42 [(.tmp 56)], none⟩,
        ⟨(some 55), .mv (.tmp 57), none⟩,
        ⟨(some 58), .extract 0 (.tmp 55), none⟩,
        ⟨(some 59), .extract 1 (.tmp 55), none⟩,
        ⟨(some 60), .extract 2 (.tmp 55), none⟩,
        ⟨(some 10), .alloc [(.int .i64 0), (.int .i64 0), .nilslice, .nilslice, .nilslice, (.int .i64 0)], none⟩,
        ⟨none, .store 6 (.tmp 10) (.tmp 58), none⟩,
        ⟨(some 11), .mv (.tmp 59), none⟩,
        ⟨(some 12), .mv (.tmp 60), none⟩])
      (.seq (.region [
        ⟨(some 62), .mv (.tmp 0), none⟩,
        ⟨(some 63), .call 24 [(.tmp 62)], none⟩,
        ⟨(some 61), .mv (.tmp 63), none⟩,
        ⟨(some 64), .extract 0 (.tmp 61), none⟩,
        ⟨(some 65), .extract 1 (.tmp 61), none⟩,
        ⟨(some 13), .mv (.tmp 64), none⟩,
        ⟨(some 14), .mv (.tmp 65), none⟩])
      (.seq (.region [
        ⟨(some 66), .loadN 6 (.tmp 10), none⟩,
        ⟨(some 67), .mv (.tmp 13), none⟩,
        ⟨(some 68), .mv (.tmp 11), none⟩,
        ⟨(some 69), .bin .eql (.tmp 67) (.tmp 68), none⟩,
        ⟨(some 70), .mv (.tmp 69), none⟩,
        ⟨(some 71), .mv (.tmp 14), (some (70, true))⟩,
        ⟨(some 72), .mv (.tmp 12), (some (70, true))⟩,
        ⟨(some 73), .eqBool false (.tmp 71) (.tmp 72), (some (70, true))⟩,
        ⟨(some 74), .pick (.tmp 70) (.tmp 73) (.const (.bool false)), none⟩,
        ⟨none, .store 6 (.tmp 6) (.tmp 66), none⟩,
        ⟨(some 7), .mv (.tmp 74), none⟩])
      (.ret))))
      (.seq (.region [
        ⟨(some 76), .bin .eql (.tmp 36) (.const (.int .u8 2)), none⟩,
        ⟨(some 75), .mv (.tmp 76), none⟩])
      (.cond (.tmp 75)
        (.seq (.region [
          ⟨(some 78), .loadN 6 (.tmp 4), none⟩,
          ⟨(some 79), .fieldAddr 1 (.tmp 5), none⟩,
          ⟨(some 80), .load1 (.tmp 79), none⟩,
          ⟨(some 81), .call 43 [(.tmp 78), (.tmp 80)], none⟩,
          ⟨(some 77), .mv (.tmp 81), none⟩,
          ⟨(some 82), .extract 0 (.tmp 77), none⟩,
          ⟨(some 83), .extract 1 (.tmp 77), none⟩,
          ⟨(some 15), .alloc [(.int .i64 0), (.int .i64 0), .nilslice, .nilslice, .nilslice, (.int .i64 0)], none⟩,
          ⟨none, .store 6 (.tmp 15) (.tmp 82), none⟩,
          ⟨(some 16), .mv (.tmp 83), none⟩])
        (.seq (.draw [
          (⟨(some 84), .loadN 6 (.tmp 15), none⟩, .reads 0 1),
          (⟨(some 85), .mv (.tmp 0), none⟩, .still),
          (⟨(some 86), .fieldAddr 1 (.tmp 5), none⟩, .still),
          (⟨(some 87), .load1 (.tmp 86), none⟩, .reads 0 0),
          (⟨(some 88), .call 21 [(.tmp 85), (.tmp 87)], none⟩, .loud),
          (⟨(some 89), .mv (.tmp 16), none⟩, .still),
          (⟨(some 90), .eqBool false (.tmp 88) (.tmp 89), none⟩, .still),
          (⟨none, .store 6 (.tmp 6) (.tmp 84), none⟩, .loud),
          (⟨(some 7), .mv (.tmp 90), none⟩, .still)])
        (.ret)))
        (.seq (.region [
          ⟨(some 92), .bin .eql (.tmp 36) (.const (.int .u8 3)), none⟩,
          ⟨(some 91), .mv (.tmp 92), none⟩])
        (.cond (.tmp 91)
          (.seq (.region [
            ⟨(some 94), .loadN 6 (.tmp 4), none⟩,
            ⟨(some 95), .call 44 [(.tmp 94)], none⟩,
            ⟨(some 93), .mv (.tmp 95), none⟩,
            ⟨(some 96), .extract 0 (.tmp 93), none⟩,
            ⟨(some 97), .extract 1 (.tmp 93), none⟩,
            ⟨(some 98), .extract 2 (.tmp 93), none⟩,
            ⟨(some 17), .alloc [(.int .i64 0), (.int .i64 0), .nilslice, .nilslice, .nilslice, (.int .i64 0)], none⟩,
            ⟨none, .store 6 (.tmp 17) (.tmp 96), none⟩,
            ⟨(some 18), .mv (.tmp 97), none⟩,
            ⟨(some 19), .mv (.tmp 98), none⟩])
          (.seq (.region [
            ⟨(some 100), .mv (.tmp 0), none⟩,
            ⟨(some 101), .call 25 [(.tmp 100)], none⟩,
            ⟨(some 99), .mv (.tmp 101), none⟩,
            ⟨(some 102), .extract 0 (.tmp 99), none⟩,
            ⟨(some 103), .extract 1 (.tmp 99), none⟩,
            ⟨(some 20), .mv (.tmp 102), none⟩,
            ⟨(some 21), .mv (.tmp 103), none⟩])
          (.seq (.region [
            ⟨(some 104), .loadN 6 (.tmp 17), none⟩,
            ⟨(some 105), .mv (.tmp 20), none⟩,
            ⟨(some 106), .mv (.tmp 18), none⟩,
            ⟨(some 107), .bin .eql (.tmp 105) (.tmp 106), none⟩,
            ⟨(some 108), .mv (.tmp 107), none⟩,
            ⟨(some 109), .mv (.tmp 21), (some (108, true))⟩,
            ⟨(some 110), .mv (.tmp 19), (some (108, true))⟩,
            ⟨(some 111), .eqBool false (.tmp 109) (.tmp 110), (some (108, true))⟩,
            ⟨(some 112), .pick (.tmp 108) (.tmp 111) (.const (.bool false)), none⟩,
            ⟨none, .store 6 (.tmp 6) (.tmp 104), none⟩,
            ⟨(some 7), .mv (.tmp 112), none⟩])
          (.ret))))
          (.seq (.region [
            ⟨(some 114), .bin .eql (.tmp 36) (.const (.int .u8 6)), none⟩,
            ⟨(some 113), .mv (.tmp 114), none⟩])
          (.cond (.tmp 113)
            (.seq (.region [
              ⟨(some 116), .loadN 6 (.tmp 4), none⟩,
              ⟨(some 117), .call 45 [(.tmp 116)], none⟩,
              ⟨(some 115), .mv (.tmp 117), none⟩,
              ⟨(some 118), .extract 0 (.tmp 115), none⟩,
              ⟨(some 119), .extract 1 (.tmp 115), none⟩,
              ⟨(some 120), .extract 2 (.tmp 115), none⟩,
              ⟨(some 22), .alloc [(.int .i64 0), (.int .i64 0), .nilslice, .nilslice, .nilslice, (.int .i64 0)], none⟩,
              ⟨none, .store 6 (.tmp 22) (.tmp 118), none⟩,
              ⟨(some 23), .mv (.tmp 119), none⟩,
              ⟨(some 24), .mv (.tmp 120), none⟩])
            (.seq (.region [
              ⟨(some 122), .mv (.tmp 0), none⟩,
              ⟨(some 123), .call 26 [(.tmp 122)], none⟩,
              ⟨(some 121), .mv (.tmp 123), none⟩,
              ⟨(some 124), .extract 0 (.tmp 121), none⟩,
              ⟨(some 125), .extract 1 (.tmp 121), none⟩,
              ⟨(some 25), .mv (.tmp 124), none⟩,
              ⟨(some 26), .mv (.tmp 125), none⟩])
            (.seq (.region [
              ⟨(some 126), .loadN 6 (.tmp 22), none⟩,
              ⟨(some 127), .mv (.tmp 25), none⟩,
              ⟨(some 128), .mv (.tmp 23), none⟩,
              ⟨(some 129), .bin .eql (.tmp 127) (.tmp 128), none⟩,
              ⟨(some 130), .mv (.tmp 129), none⟩,
              ⟨(some 131), .mv (.tmp 26), (some (130, true))⟩,
              ⟨(some 132), .mv (.tmp 24), (some (130, true))⟩,
              ⟨(some 133), .eqBool false (.tmp 131) (.tmp 132), (some (130, true))⟩,
              ⟨(some 134), .pick (.tmp 130) (.tmp 133) (.const (.bool false)), none⟩,
              ⟨none, .store 6 (.tmp 6) (.tmp 126), none⟩,
              ⟨(some 7), .mv (.tmp 134), none⟩])
            (.ret))))
            (.seq (.region [
              ⟨(some 136), .bin .eql (.tmp 36) (.const (.int .u8 7)), none⟩,
              ⟨(some 135), .mv (.tmp 136), none⟩])
            (.cond (.tmp 135)
              (.seq (.region [
                ⟨(some 137), .fieldAddr 5 (.tmp 4), none⟩,
                ⟨(some 138), .load1 (.tmp 137), none⟩,
                ⟨(some 139), .bin .geq (.tmp 138) (.const (.int .i64 0)), none⟩,
                ⟨(some 140), .mv (.tmp 139), none⟩,
                ⟨(some 141), .fieldAddr 5 (.tmp 4), (some (140, true))⟩,
                ⟨(some 142), .load1 (.tmp 141), (some (140, true))⟩,
                ⟨(some 143), .fieldAddr 1 (.tmp 5), (some (140, true))⟩,
                ⟨(some 144), .load1 (.tmp 143), (some (140, true))⟩,
                ⟨(some 145), .bin .eql (.tmp 142) (.tmp 144), (some (140, true))⟩,
                ⟨(some 146), .pick (.tmp 140) (.tmp 145) (.const (.bool false)), none⟩,
                ⟨(some 27), .mv (.tmp 146), none⟩])
              (.seq (.seq (.region [
                ⟨(some 147), .mv (.tmp 27), none⟩])
              (.cond (.tmp 147)
                (.region [
                  ⟨(some 148), .fieldAddr 5 (.tmp 4), none⟩,
                  ⟨none, .store 1 (.tmp 148) (.const (.int .i64 (-1))), none⟩])
                (.skip)))
              (.seq (.draw [
                (⟨(some 149), .loadN 6 (.tmp 4), none⟩, .reads 0 1),
                (⟨(some 150), .mv (.tmp 0), none⟩, .still),
                (⟨(some 151), .fieldAddr 1 (.tmp 5), none⟩, .still),
                (⟨(some 152), .load1 (.tmp 151), none⟩, .reads 0 0),
                (⟨(some 153), .call 46 [(.tmp 150), (.tmp 152)], none⟩, .loud),
                (⟨(some 154), .mv (.tmp 27), none⟩, .still),
                (⟨(some 155), .eqBool false (.tmp 153) (.tmp 154), none⟩, .still),
                (⟨none, .store 6 (.tmp 6) (.tmp 149), none⟩, .loud),
                (⟨(some 7), .mv (.tmp 155), none⟩, .still)])
              (.ret))))
              (.seq (.region [
                ⟨(some 157), .bin .eql (.tmp 36) (.const (.int .u8 8)), none⟩,
                ⟨(some 156), .mv (.tmp 157), none⟩])
              (.cond (.tmp 156)
                (.seq (.region [
                  ⟨(some 158), .mv (.tmp 0), none⟩,
                  ⟨(some 159), .call 47 [(.tmp 158)], none⟩,
                  ⟨(some 28), .mv (.tmp 159), none⟩])
                (.seq (.region [
                  ⟨(some 160), .mv (.tmp 28), none⟩,
                  ⟨(some 161), .call 24 [(.tmp 160)], none⟩])
                (.seq (.region [
                  ⟨(some 162), .mv (.tmp 28), none⟩,
                  ⟨(some 163), .call 26 [(.tmp 162)], none⟩])
                (.seq (.region [
                  ⟨(some 164), .mv (.tmp 28), none⟩,
                  ⟨(some 165), .call 21 [(.tmp 164), (.const (.int .i64 0))], none⟩])
                (.seq (.region [
                  ⟨(some 166), .mv (.tmp 28), none⟩,
                  ⟨(some 167), .call 22 [(.tmp 166), (.const (.int .i64 0))], none⟩])
                (.seq (.region [
                  ⟨(some 168), .loadN 6 (.tmp 4), none⟩,
                  ⟨none, .store 6 (.tmp 6) (.tmp 168), none⟩,
                  ⟨(some 7), .mv (.const (.bool true)), none⟩])
                (.ret)))))))
                (.skip)))))))))))))))))
  (.seq (.region [
    ⟨(some 170), .loadN 6 (.tmp 4), none⟩,
    ⟨(some 171), .fieldAddr 1 (.tmp 5), none⟩,
    ⟨(some 172), .load1 (.tmp 171), none⟩,
    ⟨(some 173), .call 48 [(.tmp 170), (.tmp 172)], none⟩,
    ⟨(some 169), .mv (.tmp 173), none⟩,
    ⟨(some 174), .extract 0 (.tmp 169), none⟩,
    ⟨(some 175), .extract 1 (.tmp 169), none⟩,
    ⟨(some 176), .extract 2 (.tmp 169), none⟩,
    ⟨(some 29), .alloc [(.int .i64 0), (.int .i64 0), .nilslice, .nilslice, .nilslice, (.int .i64 0)], none⟩,
    ⟨none, .store 6 (.tmp 29) (.tmp 174), none⟩,
    ⟨(some 30), .mv (.tmp 175), none⟩,
    ⟨(some 31), .mv (.tmp 176), none⟩])
  (.seq (.region [
    ⟨(some 178), .mv (.tmp 0), none⟩,
    ⟨(some 179), .fieldAddr 1 (.tmp 5), none⟩,
    ⟨(some 180), .load1 (.tmp 179), none⟩,
    ⟨(some 181), .call 22 [(.tmp 178), (.tmp 180)], none⟩,
    ⟨(some 177), .mv (.tmp 181), none⟩,
    ⟨(some 182), .extract 0 (.tmp 177), none⟩,
    ⟨(some 183), .extract 1 (.tmp 177), none⟩,
    ⟨(some 32), .mv (.tmp 182), none⟩,
    ⟨(some 33), .mv (.tmp 183), none⟩])
  (.seq (.region [
    ⟨(some 184), .loadN 6 (.tmp 29), none⟩,
    ⟨(some 185), .mv (.tmp 32), none⟩,
    ⟨(some 186), .mv (.tmp 30), none⟩,
    ⟨(some 187), .eqBool false (.tmp 185) (.tmp 186), none⟩,
    ⟨(some 188), .mv (.tmp 187), none⟩,
    ⟨(some 189), .mv (.tmp 33), (some (188, true))⟩,
    ⟨(some 190), .mv (.tmp 31), (some (188, true))⟩,
    ⟨(some 191), .eqBool false (.tmp 189) (.tmp 190), (some (188, true))⟩,
    ⟨(some 192), .pick (.tmp 188) (.tmp 191) (.const (.bool false)), none⟩,
    ⟨none, .store 6 (.tmp 6) (.tmp 184), none⟩,
    ⟨(some 7), .mv (.tmp 192), none⟩])
  (.ret)))))⟩

/-- '(*hostler/idle.Idle).HasP' -/
def F32 : AFunc := ⟨11, [.tmp 4],
  .seq (.region [
    ⟨(some 4), .mv (.const (.bool false)), none⟩])
  (.seq (.region [
    ⟨(some 5), .mv (.tmp 0), none⟩,
    ⟨(some 6), .nilCheck (.tmp 5), none⟩,
    ⟨(some 7), .fieldAddr 0 (.tmp 6), none⟩,
    ⟨(some 8), .load1 (.tmp 7), none⟩,
    ⟨(some 9), .mv (.tmp 1), none⟩,
    ⟨(some 10), .call 14 [(.tmp 8), (.tmp 9)], none⟩,
    ⟨(some 4), .mv (.tmp 10), none⟩])
  (.ret))⟩

/-- 'hostler/hostlerref13.In' -/
def F33 : AFunc := ⟨17, [.tmp 4],
  .seq (.region [
    ⟨(some 4), .mv (.const (.bool false)), none⟩])
  (.seq (.seq (.region [
    ⟨(some 7), .mv (.tmp 0), none⟩,
    ⟨(some 8), .lenS (.tmp 7), none⟩,
    ⟨(some 9), .mv (.const (.int .i64 0)), none⟩])
  (.block 0 (.loop (.seq (.region [
      ⟨(some 10), .bin .lss (.tmp 9) (.tmp 8), none⟩])
    (.seq (.cond (.tmp 10)
      (.skip)
      (.exit 0))
    (.seq (.block 1 (.seq (.region [
      ⟨(some 11), .idxAddr 1 none (.tmp 7) (.tmp 9), none⟩,
      ⟨(some 12), .load1 (.tmp 11), none⟩,
      ⟨(some 6), .mv (.tmp 12), none⟩])
    (.seq (.region [
      ⟨(some 13), .mv (.tmp 6), none⟩,
      ⟨(some 14), .mv (.tmp 1), none⟩,
      ⟨(some 15), .bin .eql (.tmp 13) (.tmp 14), none⟩])
    (.cond (.tmp 15)
      (.seq (.region [
        ⟨(some 4), .mv (.const (.bool true)), none⟩])
      (.ret))
      (.skip)))))
    (.region [
      ⟨(some 16), .bin .add (.tmp 9) (.const (.int .i64 1)), none⟩,
      ⟨(some 9), .mv (.tmp 16), none⟩])))))))
  (.seq (.region [
    ⟨(some 4), .mv (.const (.bool false)), none⟩])
  (.ret)))⟩

/-- '(*hostler/mask.Mask).turn' -/
def F34 : AFunc := ⟨37, [.tmp 6],
  .seq (.region [
    ⟨(some 6), .mv (.const (.bool false)), none⟩])
  (.seq (.seq (.region [
    ⟨(some 7), .mv (.tmp 1), none⟩,
    ⟨(some 8), .bin .lss (.tmp 7) (.const (.int .i64 0)), none⟩,
    ⟨(some 9), .mv (.tmp 8), none⟩,
    ⟨(some 10), .mv (.tmp 1), (some (9, false))⟩,
    ⟨(some 11), .mv (.tmp 0), (some (9, false))⟩,
    ⟨(some 12), .nilCheck (.tmp 11), (some (9, false))⟩,
    ⟨(some 13), .fieldAddr 0 (.tmp 12), (some (9, false))⟩,
    ⟨(some 14), .load1 (.tmp 13), (some (9, false))⟩,
    ⟨(some 15), .bin .geq (.tmp 10) (.tmp 14), (some (9, false))⟩,
    ⟨(some 16), .pick (.tmp 9) (.const (.bool true)) (.tmp 15), none⟩,
    ⟨(some 17), .mv (.tmp 16), none⟩,
    ⟨(some 18), .mv (.tmp 0), (some (17, false))⟩,
    ⟨(some 19), .mv (.tmp 1), (some (17, false))⟩,
    ⟨(some 20), .call 14 [(.tmp 18), (.tmp 19)], (some (17, false))⟩,
    ⟨(some 21), .mv (.tmp 2), (some (17, false))⟩,
    ⟨(some 22), .eqBool true (.tmp 20) (.tmp 21), (some (17, false))⟩,
    ⟨(some 23), .pick (.tmp 17) (.const (.bool true)) (.tmp 22), none⟩])
  (.cond (.tmp 23)
    (.seq (.region [
      ⟨(some 6), .mv (.const (.bool false)), none⟩])
    (.ret))
    (.skip)))
  (.seq (.draw [
    (⟨(some 24), .mv (.tmp 0), none⟩, .still),
    (⟨(some 25), .nilCheck (.tmp 24), none⟩, .still),
    (⟨(some 26), .fieldAddr 1 (.tmp 25), none⟩, .still),
    (⟨(some 27), .load1 (.tmp 26), none⟩, .reads 0 0),
    (⟨(some 28), .mv (.tmp 1), none⟩, .still),
    (⟨(some 29), .bin .quo (.tmp 28) (.const (.int .i64 64)), none⟩, .still),
    (⟨(some 30), .idxAddr 1 none (.tmp 27) (.tmp 29), none⟩, .still),
    (⟨(some 31), .load1 (.tmp 30), none⟩, .reads 0 0),
    (⟨(some 32), .mv (.tmp 1), none⟩, .still),
    (⟨(some 33), .bin .rem (.tmp 32) (.const (.int .i64 64)), none⟩, .still),
    (⟨(some 34), .bin .shl (.const (.int .u64 1)) (.tmp 33), none⟩, .still),
    (⟨(some 35), .bin .xor (.tmp 31) (.tmp 34), none⟩, .still),
    (⟨(some 36), .idxAddr 1 none (.tmp 27) (.tmp 29), none⟩, .still),
    (⟨none, .store 1 (.tmp 36) (.tmp 35), none⟩, .loud)])
  (.seq (.region [
    ⟨(some 6), .mv (.const (.bool true)), none⟩])
  (.ret))))⟩

/-- 'math/bits.OnesCount64' -/
def F35 : AFunc := ⟨35, [.tmp 2],
  .seq (.region [
    ⟨(some 2), .mv (.const (.int .i64 0)), none⟩])
  (.seq (.region [
    ⟨(some 3), .mv (.tmp 0), none⟩,
    ⟨(some 4), .bin .shr (.tmp 3) (.const (.int .u64 1)), none⟩,
    ⟨(some 5), .bin .and (.tmp 4) (.const (.int .u64 6148914691236517205)), none⟩,
    ⟨(some 6), .mv (.tmp 0), none⟩,
    ⟨(some 7), .bin .and (.tmp 6) (.const (.int .u64 6148914691236517205)), none⟩,
    ⟨(some 8), .bin .add (.tmp 5) (.tmp 7), none⟩,
    ⟨(some 0), .mv (.tmp 8), none⟩])
  (.seq (.region [
    ⟨(some 9), .mv (.tmp 0), none⟩,
    ⟨(some 10), .bin .shr (.tmp 9) (.const (.int .u64 2)), none⟩,
    ⟨(some 11), .bin .and (.tmp 10) (.const (.int .u64 3689348814741910323)), none⟩,
    ⟨(some 12), .mv (.tmp 0), none⟩,
    ⟨(some 13), .bin .and (.tmp 12) (.const (.int .u64 3689348814741910323)), none⟩,
    ⟨(some 14), .bin .add (.tmp 11) (.tmp 13), none⟩,
    ⟨(some 0), .mv (.tmp 14), none⟩])
  (.seq (.region [
    ⟨(some 15), .mv (.tmp 0), none⟩,
    ⟨(some 16), .bin .shr (.tmp 15) (.const (.int .u64 4)), none⟩,
    ⟨(some 17), .mv (.tmp 0), none⟩,
    ⟨(some 18), .bin .add (.tmp 16) (.tmp 17), none⟩,
    ⟨(some 19), .bin .and (.tmp 18) (.const (.int .u64 1085102592571150095)), none⟩,
    ⟨(some 0), .mv (.tmp 19), none⟩])
  (.seq (.region [
    ⟨(some 20), .mv (.tmp 0), none⟩,
    ⟨(some 21), .mv (.tmp 0), none⟩,
    ⟨(some 22), .bin .shr (.tmp 21) (.const (.int .u64 8)), none⟩,
    ⟨(some 23), .bin .add (.tmp 20) (.tmp 22), none⟩,
    ⟨(some 0), .mv (.tmp 23), none⟩])
  (.seq (.region [
    ⟨(some 24), .mv (.tmp 0), none⟩,
    ⟨(some 25), .mv (.tmp 0), none⟩,
    ⟨(some 26), .bin .shr (.tmp 25) (.const (.int .u64 16)), none⟩,
    ⟨(some 27), .bin .add (.tmp 24) (.tmp 26), none⟩,
    ⟨(some 0), .mv (.tmp 27), none⟩])
  (.seq (.region [
    ⟨(some 28), .mv (.tmp 0), none⟩,
    ⟨(some 29), .mv (.tmp 0), none⟩,
    ⟨(some 30), .bin .shr (.tmp 29) (.const (.int .u64 32)), none⟩,
    ⟨(some 31), .bin .add (.tmp 28) (.tmp 30), none⟩,
    ⟨(some 0), .mv (.tmp 31), none⟩])
  (.seq (.region [
    ⟨(some 32), .mv (.tmp 0), none⟩,
    ⟨(some 33), .toInt .i64 (.tmp 32), none⟩,
    ⟨(some 34), .bin .and (.tmp 33) (.const (.int .i64 127)), none⟩,
    ⟨(some 2), .mv (.tmp 34), none⟩])
  (.ret))))))))⟩

/-- 'math/bits.TrailingZeros64' -/
def F36 : AFunc := ⟨14, [.tmp 2],
  .seq (.region [
    ⟨(some 2), .mv (.const (.int .i64 0)), none⟩])
  (.seq (.seq (.region [
    ⟨(some 3), .mv (.tmp 0), none⟩,
    ⟨(some 4), .bin .eql (.tmp 3) (.const (.int .u64 0)), none⟩])
  (.cond (.tmp 4)
    (.seq (.region [
      ⟨(some 2), .mv (.const (.int .i64 64)), none⟩])
    (.ret))
    (.skip)))
  (.seq (.region [
    ⟨(some 5), .mv (.tmp 0), none⟩,
    ⟨(some 6), .mv (.tmp 0), none⟩,
    ⟨(some 7), .un .neg (.tmp 6), none⟩,
    ⟨(some 8), .bin .and (.tmp 5) (.tmp 7), none⟩,
    ⟨(some 9), .bin .mul (.tmp 8) (.const (.int .u64 285870213051353865)), none⟩,
    ⟨(some 10), .bin .shr (.tmp 9) (.const (.int .u64 58)), none⟩,
    ⟨(some 11), .idxAddr 1 (some 64) (.glob 0) (.tmp 10), none⟩,
    ⟨(some 12), .load1 (.tmp 11), none⟩,
    ⟨(some 13), .toInt .i64 (.tmp 12), none⟩,
    ⟨(some 2), .mv (.tmp 13), none⟩])
  (.ret)))⟩

/-- 'slices.Clone[[]uint64,uint64]' -/
def F37 : AFunc := ⟨8, [.tmp 2],
  .seq (.region [
    ⟨(some 2), .mv (.const .nilslice), none⟩])
  (.seq (.seq (.region [
    ⟨(some 3), .mv (.tmp 0), none⟩,
    ⟨(some 4), .cmpNil false 1 (.tmp 3) (.const .nilslice), none⟩])
  (.cond (.tmp 4)
    (.seq (.region [
      ⟨(some 2), .mv (.const .nilslice), none⟩])
    (.ret))
    (.skip)))
  (.seq (.region [
    ⟨(some 5), .buildSlice [] 0 [], none⟩,
    ⟨(some 6), .mv (.tmp 0), none⟩,
    ⟨(some 7), .append 1 8 [(.int .u64 0)] (.tmp 5) (.tmp 6), none⟩,
    ⟨(some 2), .mv (.tmp 7), none⟩])
  (.ret)))⟩

/-- 'slices.Contains[[]int,int]' -/
def F38 : AFunc := ⟨9, [.tmp 4],
  .seq (.region [
    ⟨(some 4), .mv (.const (.bool false)), none⟩])
  (.seq (.region [
    ⟨(some 5), .mv (.tmp 0), none⟩,
    ⟨(some 6), .mv (.tmp 1), none⟩,
    ⟨(some 7), .call 49 [(.tmp 5), (.tmp 6)], none⟩,
    ⟨(some 8), .bin .geq (.tmp 7) (.const (.int .i64 0)), none⟩,
    ⟨(some 4), .mv (.tmp 8), none⟩])
  (.ret))⟩

/-- 'slices.Delete[[]int,int]' -/
def F39 : AFunc := ⟨33, [.tmp 6],
  .seq (.region [
    ⟨(some 6), .mv (.const .nilslice), none⟩])
  (.seq (.region [
    ⟨(some 8), .mv (.tmp 0), none⟩,
    ⟨(some 9), .mv (.tmp 1), none⟩,
    ⟨(some 10), .mv (.tmp 2), none⟩,
    ⟨(some 11), .mv (.tmp 0), none⟩,
    ⟨(some 12), .lenS (.tmp 11), none⟩,
    ⟨(some 13), .slc 1 none (.tmp 8) (some (.tmp 9)) (some (.tmp 10)) (some (.tmp 12)), none⟩])
  (.seq (.seq (.region [
    ⟨(some 14), .mv (.tmp 1), none⟩,
    ⟨(some 15), .mv (.tmp 2), none⟩,
    ⟨(some 16), .bin .eql (.tmp 14) (.tmp 15), none⟩])
  (.cond (.tmp 16)
    (.seq (.region [
      ⟨(some 17), .mv (.tmp 0), none⟩,
      ⟨(some 6), .mv (.tmp 17), none⟩])
    (.ret))
    (.skip)))
  (.seq (.region [
    ⟨(some 18), .mv (.tmp 0), none⟩,
    ⟨(some 19), .lenS (.tmp 18), none⟩,
    ⟨(some 7), .mv (.tmp 19), none⟩])
  (.seq (.draw [
    (⟨(some 20), .mv (.tmp 0), none⟩, .still),
    (⟨(some 21), .mv (.tmp 1), none⟩, .still),
    (⟨(some 22), .slc 1 none (.tmp 20) none (some (.tmp 21)) none, none⟩, .reads 0 0),
    (⟨(some 23), .mv (.tmp 0), none⟩, .still),
    (⟨(some 24), .mv (.tmp 2), none⟩, .still),
    (⟨(some 25), .slc 1 none (.tmp 23) (some (.tmp 24)) none none, none⟩, .reads 0 0),
    (⟨(some 26), .append 1 8 [(.int .i64 0)] (.tmp 22) (.tmp 25), none⟩, .loud),
    (⟨(some 0), .mv (.tmp 26), none⟩, .still)])
  (.seq (.region [
    ⟨(some 27), .mv (.tmp 0), none⟩,
    ⟨(some 28), .mv (.tmp 0), none⟩,
    ⟨(some 29), .lenS (.tmp 28), none⟩,
    ⟨(some 30), .mv (.tmp 7), none⟩,
    ⟨(some 31), .slc 1 none (.tmp 27) (some (.tmp 29)) (some (.tmp 30)) none, none⟩,
    ⟨none, .clearS 1 [(.int .i64 0)] (.tmp 31), none⟩])
  (.seq (.region [
    ⟨(some 32), .mv (.tmp 0), none⟩,
    ⟨(some 6), .mv (.tmp 32), none⟩])
  (.ret)))))))⟩

/-- 'hostler/hostlerref13.within' -/
def F40 : AFunc := ⟨12, [.tmp 4],
  .seq (.region [
    ⟨(some 4), .mv (.const (.int .i64 0)), none⟩])
  (.seq (.seq (.region [
    ⟨(some 5), .mv (.tmp 0), none⟩,
    ⟨(some 6), .bin .lss (.tmp 5) (.const (.int .i64 1)), none⟩])
  (.cond (.tmp 6)
    (.seq (.region [
      ⟨(some 4), .mv (.const (.int .i64 1)), none⟩])
    (.ret))
    (.skip)))
  (.seq (.seq (.region [
    ⟨(some 7), .mv (.tmp 0), none⟩,
    ⟨(some 8), .mv (.tmp 1), none⟩,
    ⟨(some 9), .bin .gtr (.tmp 7) (.tmp 8), none⟩])
  (.cond (.tmp 9)
    (.seq (.region [
      ⟨(some 10), .mv (.tmp 1), none⟩,
      ⟨(some 4), .mv (.tmp 10), none⟩])
    (.ret))
    (.skip)))
  (.seq (.region [
    ⟨(some 11), .mv (.tmp 0), none⟩,
    ⟨(some 4), .mv (.tmp 11), none⟩])
  (.ret))))⟩

/-- 'hostler/hostlerref13.PutP' -/
def F41 : AFunc := ⟨20, [.cellN 4 6, .tmp 5],
  .seq (.region [
    ⟨(some 2), .box (.tmp 0), none⟩,
    ⟨(some 4), .alloc [(.int .i64 0), (.int .i64 0), .nilslice, .nilslice, .nilslice, (.int .i64 0)], none⟩,
    ⟨(some 5), .mv (.const (.bool false)), none⟩])
  (.seq (.seq (.region [
    ⟨(some 6), .loadN 6 (.tmp 2), none⟩,
    ⟨(some 7), .mv (.tmp 1), none⟩,
    ⟨(some 8), .call 50 [(.tmp 6), (.tmp 7)], none⟩,
    ⟨(some 9), .un .not (.tmp 8), none⟩])
  (.cond (.tmp 9)
    (.seq (.region [
      ⟨(some 10), .loadN 6 (.tmp 2), none⟩,
      ⟨none, .store 6 (.tmp 4) (.tmp 10), none⟩,
      ⟨(some 5), .mv (.const (.bool false)), none⟩])
    (.ret))
    (.skip)))
  (.seq (.region [
    ⟨(some 11), .buildSlice [] 0 [], none⟩,
    ⟨(some 12), .fieldAddr 2 (.tmp 2), none⟩,
    ⟨(some 13), .load1 (.tmp 12), none⟩,
    ⟨(some 14), .append 1 8 [(.int .i64 0)] (.tmp 11) (.tmp 13), none⟩,
    ⟨(some 15), .mv (.tmp 1), none⟩,
    ⟨(some 16), .buildSlice [(.int .i64 0)] 1 [((0, 1), (.tmp 15))], none⟩,
    ⟨(some 17), .append 1 8 [(.int .i64 0)] (.tmp 14) (.tmp 16), none⟩,
    ⟨(some 18), .fieldAddr 2 (.tmp 2), none⟩,
    ⟨none, .store 1 (.tmp 18) (.tmp 17), none⟩])
  (.seq (.region [
    ⟨(some 19), .loadN 6 (.tmp 2), none⟩,
    ⟨none, .store 6 (.tmp 4) (.tmp 19), none⟩,
    ⟨(some 5), .mv (.const (.bool true)), none⟩])
  (.ret))))⟩

/-- 'hostler/hostlerref13.TakeP' -/
def F42 : AFunc := ⟨35, [.cellN 2 6, .tmp 3, .tmp 4],
  .seq (.region [
    ⟨(some 1), .box (.tmp 0), none⟩,
    ⟨(some 2), .alloc [(.int .i64 0), (.int .i64 0), .nilslice, .nilslice, .nilslice, (.int .i64 0)], none⟩,
    ⟨(some 3), .mv (.const (.int .i64 0)), none⟩,
    ⟨(some 4), .mv (.const (.bool false)), none⟩])
  (.seq (.seq (.region [
    ⟨(some 8), .fieldAddr 2 (.tmp 1), none⟩,
    ⟨(some 9), .load1 (.tmp 8), none⟩,
    ⟨(some 10), .lenS (.tmp 9), none⟩,
    ⟨(some 11), .bin .eql (.tmp 10) (.const (.int .i64 0)), none⟩])
  (.cond (.tmp 11)
    (.seq (.region [
      ⟨(some 12), .loadN 6 (.tmp 1), none⟩,
      ⟨none, .store 6 (.tmp 2) (.tmp 12), none⟩,
      ⟨(some 3), .mv (.const (.int .i64 0)), none⟩,
      ⟨(some 4), .mv (.const (.bool false)), none⟩])
    (.ret))
    (.skip)))
  (.seq (.region [
    ⟨(some 13), .fieldAddr 2 (.tmp 1), none⟩,
    ⟨(some 14), .load1 (.tmp 13), none⟩,
    ⟨(some 15), .idxAddr 1 none (.tmp 14) (.const (.int .i64 0)), none⟩,
    ⟨(some 16), .load1 (.tmp 15), none⟩,
    ⟨(some 5), .mv (.tmp 16), none⟩])
  (.seq (.seq (.region [
    ⟨(some 17), .fieldAddr 2 (.tmp 1), none⟩,
    ⟨(some 18), .load1 (.tmp 17), none⟩,
    ⟨(some 19), .lenS (.tmp 18), none⟩,
    ⟨(some 20), .mv (.const (.int .i64 0)), none⟩])
  (.block 0 (.loop (.seq (.region [
      ⟨(some 21), .bin .lss (.tmp 20) (.tmp 19), none⟩])
    (.seq (.cond (.tmp 21)
      (.skip)
      (.exit 0))
    (.seq (.block 1 (.seq (.region [
      ⟨(some 22), .idxAddr 1 none (.tmp 18) (.tmp 20), none⟩,
      ⟨(some 23), .load1 (.tmp 22), none⟩,
      ⟨(some 7), .mv (.tmp 23), none⟩])
    (.region [
      ⟨(some 24), .mv (.tmp 5), none⟩,
      ⟨(some 25), .mv (.tmp 7), none⟩,
      ⟨(some 26), .min2 (.tmp 24) (.tmp 25), none⟩,
      ⟨(some 5), .mv (.tmp 26), none⟩])))
    (.region [
      ⟨(some 27), .bin .add (.tmp 20) (.const (.int .i64 1)), none⟩,
      ⟨(some 20), .mv (.tmp 27), none⟩])))))))
  (.seq (.region [
    ⟨(some 28), .fieldAddr 2 (.tmp 1), none⟩,
    ⟨(some 29), .load1 (.tmp 28), none⟩,
    ⟨(some 30), .mv (.tmp 5), none⟩,
    ⟨(some 31), .call 51 [(.tmp 29), (.tmp 30)], none⟩,
    ⟨(some 32), .fieldAddr 2 (.tmp 1), none⟩,
    ⟨none, .store 1 (.tmp 32) (.tmp 31), none⟩])
  (.seq (.region [
    ⟨(some 33), .loadN 6 (.tmp 1), none⟩,
    ⟨(some 34), .mv (.tmp 5), none⟩,
    ⟨none, .store 6 (.tmp 2) (.tmp 33), none⟩,
    ⟨(some 3), .mv (.tmp 34), none⟩,
    ⟨(some 4), .mv (.const (.bool true)), none⟩])
  (.ret))))))⟩

/-- 'hostler/hostlerref13.Pend' -/
def F43 : AFunc := ⟨20, [.cellN 4 6, .tmp 5],
  .seq (.region [
    ⟨(some 2), .box (.tmp 0), none⟩,
    ⟨(some 4), .alloc [(.int .i64 0), (.int .i64 0), .nilslice, .nilslice, .nilslice, (.int .i64 0)], none⟩,
    ⟨(some 5), .mv (.const (.bool false)), none⟩])
  (.seq (.seq (.region [
    ⟨(some 6), .loadN 6 (.tmp 2), none⟩,
    ⟨(some 7), .mv (.tmp 1), none⟩,
    ⟨(some 8), .call 50 [(.tmp 6), (.tmp 7)], none⟩,
    ⟨(some 9), .un .not (.tmp 8), none⟩])
  (.cond (.tmp 9)
    (.seq (.region [
      ⟨(some 10), .loadN 6 (.tmp 2), none⟩,
      ⟨none, .store 6 (.tmp 4) (.tmp 10), none⟩,
      ⟨(some 5), .mv (.const (.bool false)), none⟩])
    (.ret))
    (.skip)))
  (.seq (.region [
    ⟨(some 11), .buildSlice [] 0 [], none⟩,
    ⟨(some 12), .fieldAddr 3 (.tmp 2), none⟩,
    ⟨(some 13), .load1 (.tmp 12), none⟩,
    ⟨(some 14), .append 1 8 [(.int .i64 0)] (.tmp 11) (.tmp 13), none⟩,
    ⟨(some 15), .mv (.tmp 1), none⟩,
    ⟨(some 16), .buildSlice [(.int .i64 0)] 1 [((0, 1), (.tmp 15))], none⟩,
    ⟨(some 17), .append 1 8 [(.int .i64 0)] (.tmp 14) (.tmp 16), none⟩,
    ⟨(some 18), .fieldAddr 3 (.tmp 2), none⟩,
    ⟨none, .store 1 (.tmp 18) (.tmp 17), none⟩])
  (.seq (.region [
    ⟨(some 19), .loadN 6 (.tmp 2), none⟩,
    ⟨none, .store 6 (.tmp 4) (.tmp 19), none⟩,
    ⟨(some 5), .mv (.const (.bool true)), none⟩])
  (.ret))))⟩

/-- 'hostler/hostlerref13.TakePending' -/
def F44 : AFunc := ⟨22, [.cellN 2 6, .tmp 3, .tmp 4],
  .seq (.region [
    ⟨(some 1), .box (.tmp 0), none⟩,
    ⟨(some 2), .alloc [(.int .i64 0), (.int .i64 0), .nilslice, .nilslice, .nilslice, (.int .i64 0)], none⟩,
    ⟨(some 3), .mv (.const (.int .i64 0)), none⟩,
    ⟨(some 4), .mv (.const (.bool false)), none⟩])
  (.seq (.seq (.region [
    ⟨(some 6), .fieldAddr 3 (.tmp 1), none⟩,
    ⟨(some 7), .load1 (.tmp 6), none⟩,
    ⟨(some 8), .lenS (.tmp 7), none⟩,
    ⟨(some 9), .bin .eql (.tmp 8) (.const (.int .i64 0)), none⟩])
  (.cond (.tmp 9)
    (.seq (.region [
      ⟨(some 10), .loadN 6 (.tmp 1), none⟩,
      ⟨none, .store 6 (.tmp 2) (.tmp 10), none⟩,
      ⟨(some 3), .mv (.const (.int .i64 0)), none⟩,
      ⟨(some 4), .mv (.const (.bool false)), none⟩])
    (.ret))
    (.skip)))
  (.seq (.region [
    ⟨(some 11), .fieldAddr 3 (.tmp 1), none⟩,
    ⟨(some 12), .load1 (.tmp 11), none⟩,
    ⟨(some 13), .idxAddr 1 none (.tmp 12) (.const (.int .i64 0)), none⟩,
    ⟨(some 14), .load1 (.tmp 13), none⟩,
    ⟨(some 5), .mv (.tmp 14), none⟩])
  (.seq (.region [
    ⟨(some 15), .fieldAddr 3 (.tmp 1), none⟩,
    ⟨(some 16), .load1 (.tmp 15), none⟩,
    ⟨(some 17), .mv (.tmp 5), none⟩,
    ⟨(some 18), .call 51 [(.tmp 16), (.tmp 17)], none⟩,
    ⟨(some 19), .fieldAddr 3 (.tmp 1), none⟩,
    ⟨none, .store 1 (.tmp 19) (.tmp 18), none⟩])
  (.seq (.region [
    ⟨(some 20), .loadN 6 (.tmp 1), none⟩,
    ⟨(some 21), .mv (.tmp 5), none⟩,
    ⟨none, .store 6 (.tmp 2) (.tmp 20), none⟩,
    ⟨(some 3), .mv (.tmp 21), none⟩,
    ⟨(some 4), .mv (.const (.bool true)), none⟩])
  (.ret)))))⟩

/-- 'hostler/hostlerref13.TakeM' -/
def F45 : AFunc := ⟨35, [.cellN 2 6, .tmp 3, .tmp 4],
  .seq (.region [
    ⟨(some 1), .box (.tmp 0), none⟩,
    ⟨(some 2), .alloc [(.int .i64 0), (.int .i64 0), .nilslice, .nilslice, .nilslice, (.int .i64 0)], none⟩,
    ⟨(some 3), .mv (.const (.int .i64 0)), none⟩,
    ⟨(some 4), .mv (.const (.bool false)), none⟩])
  (.seq (.seq (.region [
    ⟨(some 7), .fieldAddr 4 (.tmp 1), none⟩,
    ⟨(some 8), .load1 (.tmp 7), none⟩,
    ⟨(some 9), .lenS (.tmp 8), none⟩,
    ⟨(some 10), .bin .gtr (.tmp 9) (.const (.int .i64 0)), none⟩])
  (.cond (.tmp 10)
    (.seq (.region [
      ⟨(some 11), .fieldAddr 4 (.tmp 1), none⟩,
      ⟨(some 12), .load1 (.tmp 11), none⟩,
      ⟨(some 13), .fieldAddr 4 (.tmp 1), none⟩,
      ⟨(some 14), .load1 (.tmp 13), none⟩,
      ⟨(some 15), .lenS (.tmp 14), none⟩,
      ⟨(some 16), .bin .sub (.tmp 15) (.const (.int .i64 1)), none⟩,
      ⟨(some 17), .idxAddr 1 none (.tmp 12) (.tmp 16), none⟩,
      ⟨(some 18), .load1 (.tmp 17), none⟩,
      ⟨(some 5), .mv (.tmp 18), none⟩])
    (.seq (.region [
      ⟨(some 19), .fieldAddr 4 (.tmp 1), none⟩,
      ⟨(some 20), .load1 (.tmp 19), none⟩,
      ⟨(some 21), .mv (.tmp 5), none⟩,
      ⟨(some 22), .call 51 [(.tmp 20), (.tmp 21)], none⟩,
      ⟨(some 23), .fieldAddr 4 (.tmp 1), none⟩,
      ⟨none, .store 1 (.tmp 23) (.tmp 22), none⟩])
    (.seq (.region [
      ⟨(some 24), .loadN 6 (.tmp 1), none⟩,
      ⟨(some 25), .mv (.tmp 5), none⟩,
      ⟨none, .store 6 (.tmp 2) (.tmp 24), none⟩,
      ⟨(some 3), .mv (.tmp 25), none⟩,
      ⟨(some 4), .mv (.const (.bool true)), none⟩])
    (.ret))))
    (.skip)))
  (.seq (.seq (.region [
    ⟨(some 26), .fieldAddr 5 (.tmp 1), none⟩,
    ⟨(some 27), .load1 (.tmp 26), none⟩,
    ⟨(some 28), .bin .lss (.tmp 27) (.const (.int .i64 0)), none⟩])
  (.cond (.tmp 28)
    (.seq (.region [
      ⟨(some 29), .loadN 6 (.tmp 1), none⟩,
      ⟨none, .store 6 (.tmp 2) (.tmp 29), none⟩,
      ⟨(some 3), .mv (.const (.int .i64 0)), none⟩,
      ⟨(some 4), .mv (.const (.bool false)), none⟩])
    (.ret))
    (.skip)))
  (.seq (.region [
    ⟨(some 30), .fieldAddr 5 (.tmp 1), none⟩,
    ⟨(some 31), .load1 (.tmp 30), none⟩,
    ⟨(some 6), .mv (.tmp 31), none⟩])
  (.seq (.region [
    ⟨(some 32), .fieldAddr 5 (.tmp 1), none⟩,
    ⟨none, .store 1 (.tmp 32) (.const (.int .i64 (-1))), none⟩])
  (.seq (.region [
    ⟨(some 33), .loadN 6 (.tmp 1), none⟩,
    ⟨(some 34), .mv (.tmp 6), none⟩,
    ⟨none, .store 6 (.tmp 2) (.tmp 33), none⟩,
    ⟨(some 3), .mv (.tmp 34), none⟩,
    ⟨(some 4), .mv (.const (.bool true)), none⟩])
  (.ret))))))⟩

/-- '(*hostler/idle.Idle).Leave' -/
def F46 : AFunc := ⟨18, [.tmp 4],
  .seq (.region [
    ⟨(some 4), .mv (.const (.bool false)), none⟩])
  (.seq (.seq (.region [
    ⟨(some 5), .mv (.tmp 1), none⟩,
    ⟨(some 6), .bin .lss (.tmp 5) (.const (.int .i64 0)), none⟩,
    ⟨(some 7), .mv (.tmp 6), none⟩,
    ⟨(some 8), .mv (.tmp 1), (some (7, false))⟩,
    ⟨(some 9), .mv (.tmp 0), (some (7, false))⟩,
    ⟨(some 10), .nilCheck (.tmp 9), (some (7, false))⟩,
    ⟨(some 11), .fieldAddr 3 (.tmp 10), (some (7, false))⟩,
    ⟨(some 12), .load1 (.tmp 11), (some (7, false))⟩,
    ⟨(some 13), .bin .neq (.tmp 8) (.tmp 12), (some (7, false))⟩,
    ⟨(some 14), .pick (.tmp 7) (.const (.bool true)) (.tmp 13), none⟩])
  (.cond (.tmp 14)
    (.seq (.region [
      ⟨(some 4), .mv (.const (.bool false)), none⟩])
    (.ret))
    (.skip)))
  (.seq (.region [
    ⟨(some 15), .mv (.tmp 0), none⟩,
    ⟨(some 16), .nilCheck (.tmp 15), none⟩,
    ⟨(some 17), .fieldAddr 3 (.tmp 16), none⟩,
    ⟨none, .store 1 (.tmp 17) (.const (.int .i64 (-1))), none⟩])
  (.seq (.region [
    ⟨(some 4), .mv (.const (.bool true)), none⟩])
  (.ret))))⟩

/-- '(*hostler/idle.Idle).Copy' -/
def F47 : AFunc := ⟨28, [.tmp 2],
  .seq (.region [
    ⟨(some 2), .mv (.const .nilptr), none⟩])
  (.seq (.draw [
    (⟨(some 3), .mv (.tmp 0), none⟩, .still),
    (⟨(some 4), .nilCheck (.tmp 3), none⟩, .still),
    (⟨(some 5), .fieldAddr 0 (.tmp 4), none⟩, .still),
    (⟨(some 6), .load1 (.tmp 5), none⟩, .reads 0 0),
    (⟨(some 7), .call 52 [(.tmp 6)], none⟩, .loud),
    (⟨(some 8), .mv (.tmp 0), none⟩, .still),
    (⟨(some 9), .nilCheck (.tmp 8), none⟩, .still),
    (⟨(some 10), .fieldAddr 1 (.tmp 9), none⟩, .still),
    (⟨(some 11), .load1 (.tmp 10), none⟩, .reads 0 1),
    (⟨(some 12), .call 53 [(.tmp 11)], none⟩, .loud),
    (⟨(some 13), .mv (.tmp 0), none⟩, .still),
    (⟨(some 14), .nilCheck (.tmp 13), none⟩, .still),
    (⟨(some 15), .fieldAddr 2 (.tmp 14), none⟩, .still),
    (⟨(some 16), .load1 (.tmp 15), none⟩, .reads 0 2),
    (⟨(some 17), .call 53 [(.tmp 16)], none⟩, .loud),
    (⟨(some 18), .mv (.tmp 0), none⟩, .still),
    (⟨(some 19), .nilCheck (.tmp 18), none⟩, .still),
    (⟨(some 20), .fieldAddr 3 (.tmp 19), none⟩, .still),
    (⟨(some 21), .load1 (.tmp 20), none⟩, .reads 0 3),
    (⟨(some 22), .mv (.tmp 0), none⟩, .still),
    (⟨(some 23), .nilCheck (.tmp 22), none⟩, .still),
    (⟨(some 24), .fieldAddr 4 (.tmp 23), none⟩, .still),
    (⟨(some 25), .load1 (.tmp 24), none⟩, .reads 0 3),
    (⟨(some 26), .build [.nilptr, .nilslice, .nilslice, (.int .i64 0), (.int .i64 0)] [((0, 1), (.tmp 7)), ((1, 1), (.tmp 12)), ((2, 1), (.tmp 17)), ((3, 1), (.tmp 21)), ((4, 1), (.tmp 25))], none⟩, .still),
    (⟨(some 27), .box (.tmp 26), none⟩, .loud),
    (⟨(some 2), .mv (.tmp 27), none⟩, .still)])
  (.ret))⟩

/-- 'hostler/hostlerref13.Stop' -/
def F48 : AFunc := ⟨43, [.cellN 4 6, .tmp 5, .tmp 6],
  .seq (.region [
    ⟨(some 2), .box (.tmp 0), none⟩,
    ⟨(some 4), .alloc [(.int .i64 0), (.int .i64 0), .nilslice, .nilslice, .nilslice, (.int .i64 0)], none⟩,
    ⟨(some 5), .mv (.const (.bool false)), none⟩,
    ⟨(some 6), .mv (.const (.bool false)), none⟩])
  (.seq (.seq (.region [
    ⟨(some 7), .mv (.tmp 1), none⟩,
    ⟨(some 8), .bin .lss (.tmp 7) (.const (.int .i64 0)), none⟩,
    ⟨(some 9), .mv (.tmp 8), none⟩,
    ⟨(some 10), .mv (.tmp 1), (some (9, false))⟩,
    ⟨(some 11), .fieldAddr 1 (.tmp 2), (some (9, false))⟩,
    ⟨(some 12), .load1 (.tmp 11), (some (9, false))⟩,
    ⟨(some 13), .bin .geq (.tmp 10) (.tmp 12), (some (9, false))⟩,
    ⟨(some 14), .pick (.tmp 9) (.const (.bool true)) (.tmp 13), none⟩,
    ⟨(some 15), .mv (.tmp 14), none⟩,
    ⟨(some 16), .mv (.tmp 1), (some (15, false))⟩,
    ⟨(some 17), .fieldAddr 5 (.tmp 2), (some (15, false))⟩,
    ⟨(some 18), .load1 (.tmp 17), (some (15, false))⟩,
    ⟨(some 19), .bin .eql (.tmp 16) (.tmp 18), (some (15, false))⟩,
    ⟨(some 20), .pick (.tmp 15) (.const (.bool true)) (.tmp 19), none⟩,
    ⟨(some 21), .mv (.tmp 20), none⟩,
    ⟨(some 22), .fieldAddr 4 (.tmp 2), (some (21, false))⟩,
    ⟨(some 23), .load1 (.tmp 22), (some (21, false))⟩,
    ⟨(some 24), .mv (.tmp 1), (some (21, false))⟩,
    ⟨(some 25), .call 33 [(.tmp 23), (.tmp 24)], (some (21, false))⟩,
    ⟨(some 26), .pick (.tmp 21) (.const (.bool true)) (.tmp 25), none⟩])
  (.cond (.tmp 26)
    (.seq (.region [
      ⟨(some 27), .loadN 6 (.tmp 2), none⟩,
      ⟨none, .store 6 (.tmp 4) (.tmp 27), none⟩,
      ⟨(some 5), .mv (.const (.bool false)), none⟩,
      ⟨(some 6), .mv (.const (.bool false)), none⟩])
    (.ret))
    (.skip)))
  (.seq (.seq (.region [
    ⟨(some 28), .fieldAddr 5 (.tmp 2), none⟩,
    ⟨(some 29), .load1 (.tmp 28), none⟩,
    ⟨(some 30), .bin .lss (.tmp 29) (.const (.int .i64 0)), none⟩])
  (.cond (.tmp 30)
    (.seq (.region [
      ⟨(some 31), .mv (.tmp 1), none⟩,
      ⟨(some 32), .fieldAddr 5 (.tmp 2), none⟩,
      ⟨none, .store 1 (.tmp 32) (.tmp 31), none⟩])
    (.seq (.region [
      ⟨(some 33), .loadN 6 (.tmp 2), none⟩,
      ⟨none, .store 6 (.tmp 4) (.tmp 33), none⟩,
      ⟨(some 5), .mv (.const (.bool true)), none⟩,
      ⟨(some 6), .mv (.const (.bool true)), none⟩])
    (.ret)))
    (.skip)))
  (.seq (.region [
    ⟨(some 34), .buildSlice [] 0 [], none⟩,
    ⟨(some 35), .fieldAddr 4 (.tmp 2), none⟩,
    ⟨(some 36), .load1 (.tmp 35), none⟩,
    ⟨(some 37), .append 1 8 [(.int .i64 0)] (.tmp 34) (.tmp 36), none⟩,
    ⟨(some 38), .mv (.tmp 1), none⟩,
    ⟨(some 39), .buildSlice [(.int .i64 0)] 1 [((0, 1), (.tmp 38))], none⟩,
    ⟨(some 40), .append 1 8 [(.int .i64 0)] (.tmp 37) (.tmp 39), none⟩,
    ⟨(some 41), .fieldAddr 4 (.tmp 2), none⟩,
    ⟨none, .store 1 (.tmp 41) (.tmp 40), none⟩])
  (.seq (.region [
    ⟨(some 42), .loadN 6 (.tmp 2), none⟩,
    ⟨none, .store 6 (.tmp 4) (.tmp 42), none⟩,
    ⟨(some 5), .mv (.const (.bool false)), none⟩,
    ⟨(some 6), .mv (.const (.bool true)), none⟩])
  (.ret)))))⟩

/-- 'slices.Index[[]int,int]' -/
def F49 : AFunc := ⟨19, [.tmp 4],
  .seq (.region [
    ⟨(some 4), .mv (.const (.int .i64 0)), none⟩])
  (.seq (.seq (.region [
    ⟨(some 6), .mv (.tmp 0), none⟩,
    ⟨(some 7), .lenS (.tmp 6), none⟩,
    ⟨(some 8), .mv (.const (.int .i64 0)), none⟩])
  (.block 0 (.loop (.seq (.region [
      ⟨(some 9), .bin .lss (.tmp 8) (.tmp 7), none⟩])
    (.seq (.cond (.tmp 9)
      (.skip)
      (.exit 0))
    (.seq (.block 1 (.seq (.region [
      ⟨(some 10), .mv (.tmp 8), none⟩,
      ⟨(some 5), .mv (.tmp 10), none⟩])
    (.seq (.region [
      ⟨(some 11), .mv (.tmp 1), none⟩,
      ⟨(some 12), .mv (.tmp 0), none⟩,
      ⟨(some 13), .mv (.tmp 5), none⟩,
      ⟨(some 14), .idxAddr 1 none (.tmp 12) (.tmp 13), none⟩,
      ⟨(some 15), .load1 (.tmp 14), none⟩,
      ⟨(some 16), .bin .eql (.tmp 11) (.tmp 15), none⟩])
    (.cond (.tmp 16)
      (.seq (.region [
        ⟨(some 17), .mv (.tmp 5), none⟩,
        ⟨(some 4), .mv (.tmp 17), none⟩])
      (.ret))
      (.skip)))))
    (.region [
      ⟨(some 18), .bin .add (.tmp 8) (.const (.int .i64 1)), none⟩,
      ⟨(some 8), .mv (.tmp 18), none⟩])))))))
  (.seq (.region [
    ⟨(some 4), .mv (.const (.int .i64 (-1))), none⟩])
  (.ret)))⟩

/-- 'hostler/hostlerref13.free' -/
def F50 : AFunc := ⟨27, [.tmp 4],
  .seq (.region [
    ⟨(some 2), .box (.tmp 0), none⟩,
    ⟨(some 4), .mv (.const (.bool false)), none⟩])
  (.seq (.region [
    ⟨(some 5), .mv (.tmp 1), none⟩,
    ⟨(some 6), .bin .geq (.tmp 5) (.const (.int .i64 0)), none⟩,
    ⟨(some 7), .mv (.tmp 6), none⟩,
    ⟨(some 8), .mv (.tmp 1), (some (7, true))⟩,
    ⟨(some 9), .fieldAddr 0 (.tmp 2), (some (7, true))⟩,
    ⟨(some 10), .load1 (.tmp 9), (some (7, true))⟩,
    ⟨(some 11), .bin .lss (.tmp 8) (.tmp 10), (some (7, true))⟩,
    ⟨(some 12), .pick (.tmp 7) (.tmp 11) (.const (.bool false)), none⟩,
    ⟨(some 13), .mv (.tmp 12), none⟩,
    ⟨(some 14), .fieldAddr 2 (.tmp 2), (some (13, true))⟩,
    ⟨(some 15), .load1 (.tmp 14), (some (13, true))⟩,
    ⟨(some 16), .mv (.tmp 1), (some (13, true))⟩,
    ⟨(some 17), .call 33 [(.tmp 15), (.tmp 16)], (some (13, true))⟩,
    ⟨(some 18), .un .not (.tmp 17), (some (13, true))⟩,
    ⟨(some 19), .pick (.tmp 13) (.tmp 18) (.const (.bool false)), none⟩,
    ⟨(some 20), .mv (.tmp 19), none⟩,
    ⟨(some 21), .fieldAddr 3 (.tmp 2), (some (20, true))⟩,
    ⟨(some 22), .load1 (.tmp 21), (some (20, true))⟩,
    ⟨(some 23), .mv (.tmp 1), (some (20, true))⟩,
    ⟨(some 24), .call 33 [(.tmp 22), (.tmp 23)], (some (20, true))⟩,
    ⟨(some 25), .un .not (.tmp 24), (some (20, true))⟩,
    ⟨(some 26), .pick (.tmp 20) (.tmp 25) (.const (.bool false)), none⟩,
    ⟨(some 4), .mv (.tmp 26), none⟩])
  (.ret))⟩

/-- 'hostler/hostlerref13.Less' -/
def F51 : AFunc := ⟨23, [.tmp 4],
  .seq (.region [
    ⟨(some 4), .mv (.const .nilslice), none⟩])
  (.seq (.region [
    ⟨(some 5), .mv (.const .nilslice), none⟩])
  (.seq (.seq (.region [
    ⟨(some 8), .mv (.tmp 0), none⟩,
    ⟨(some 9), .lenS (.tmp 8), none⟩,
    ⟨(some 10), .mv (.const (.int .i64 0)), none⟩])
  (.block 0 (.loop (.seq (.region [
      ⟨(some 11), .bin .lss (.tmp 10) (.tmp 9), none⟩])
    (.seq (.cond (.tmp 11)
      (.skip)
      (.exit 0))
    (.seq (.block 1 (.seq (.region [
      ⟨(some 12), .idxAddr 1 none (.tmp 8) (.tmp 10), none⟩,
      ⟨(some 13), .load1 (.tmp 12), none⟩,
      ⟨(some 7), .mv (.tmp 13), none⟩])
    (.seq (.region [
      ⟨(some 14), .mv (.tmp 7), none⟩,
      ⟨(some 15), .mv (.tmp 1), none⟩,
      ⟨(some 16), .bin .neq (.tmp 14) (.tmp 15), none⟩])
    (.cond (.tmp 16)
      (.region [
        ⟨(some 17), .mv (.tmp 5), none⟩,
        ⟨(some 18), .mv (.tmp 7), none⟩,
        ⟨(some 19), .buildSlice [(.int .i64 0)] 1 [((0, 1), (.tmp 18))], none⟩,
        ⟨(some 20), .append 1 8 [(.int .i64 0)] (.tmp 17) (.tmp 19), none⟩,
        ⟨(some 5), .mv (.tmp 20), none⟩])
      (.skip)))))
    (.region [
      ⟨(some 21), .bin .add (.tmp 10) (.const (.int .i64 1)), none⟩,
      ⟨(some 10), .mv (.tmp 21), none⟩])))))))
  (.seq (.region [
    ⟨(some 22), .mv (.tmp 5), none⟩,
    ⟨(some 4), .mv (.tmp 22), none⟩])
  (.ret))))⟩

/-- '(*hostler/mask.Mask).Copy' -/
def F52 : AFunc := ⟨14, [.tmp 2],
  .seq (.region [
    ⟨(some 2), .mv (.const .nilptr), none⟩])
  (.seq (.draw [
    (⟨(some 3), .mv (.tmp 0), none⟩, .still),
    (⟨(some 4), .nilCheck (.tmp 3), none⟩, .still),
    (⟨(some 5), .fieldAddr 0 (.tmp 4), none⟩, .still),
    (⟨(some 6), .load1 (.tmp 5), none⟩, .reads 0 1),
    (⟨(some 7), .mv (.tmp 0), none⟩, .still),
    (⟨(some 8), .nilCheck (.tmp 7), none⟩, .still),
    (⟨(some 9), .fieldAddr 1 (.tmp 8), none⟩, .still),
    (⟨(some 10), .load1 (.tmp 9), none⟩, .reads 0 0),
    (⟨(some 11), .call 37 [(.tmp 10)], none⟩, .loud),
    (⟨(some 12), .build [(.int .i64 0), .nilslice] [((0, 1), (.tmp 6)), ((1, 1), (.tmp 11))], none⟩, .still),
    (⟨(some 13), .box (.tmp 12), none⟩, .loud),
    (⟨(some 2), .mv (.tmp 13), none⟩, .still)])
  (.ret))⟩

/-- 'slices.Clone[[]int,int]' -/
def F53 : AFunc := ⟨8, [.tmp 2],
  .seq (.region [
    ⟨(some 2), .mv (.const .nilslice), none⟩])
  (.seq (.seq (.region [
    ⟨(some 3), .mv (.tmp 0), none⟩,
    ⟨(some 4), .cmpNil false 1 (.tmp 3) (.const .nilslice), none⟩])
  (.cond (.tmp 4)
    (.seq (.region [
      ⟨(some 2), .mv (.const .nilslice), none⟩])
    (.ret))
    (.skip)))
  (.seq (.region [
    ⟨(some 5), .buildSlice [] 0 [], none⟩,
    ⟨(some 6), .mv (.tmp 0), none⟩,
    ⟨(some 7), .append 1 8 [(.int .i64 0)] (.tmp 5) (.tmp 6), none⟩,
    ⟨(some 2), .mv (.tmp 7), none⟩])
  (.ret)))⟩

/-- 'gosem.cut.vars' -/
def F73 : AFunc := ⟨1, [],
  .region [
    ⟨(some 0), .build [(.int .u8 0), (.int .u8 0), (.int .u8 0), (.int .u8 0), (.int .u8 0), (.int .u8 0), (.int .u8 0), (.int .u8 0), (.int .u8 0), (.int .u8 0), (.int .u8 0), (.int .u8 0), (.int .u8 0), (.int .u8 0), (.int .u8 0), (.int .u8 0), (.int .u8 0), (.int .u8 0), (.int .u8 0), (.int .u8 0), (.int .u8 0), (.int .u8 0), (.int .u8 0), (.int .u8 0), (.int .u8 0), (.int .u8 0), (.int .u8 0), (.int .u8 0), (.int .u8 0), (.int .u8 0), (.int .u8 0), (.int .u8 0), (.int .u8 0), (.int .u8 0), (.int .u8 0), (.int .u8 0), (.int .u8 0), (.int .u8 0), (.int .u8 0), (.int .u8 0), (.int .u8 0), (.int .u8 0), (.int .u8 0), (.int .u8 0), (.int .u8 0), (.int .u8 0), (.int .u8 0), (.int .u8 0), (.int .u8 0), (.int .u8 0), (.int .u8 0), (.int .u8 0), (.int .u8 0), (.int .u8 0), (.int .u8 0), (.int .u8 0), (.int .u8 0), (.int .u8 0), (.int .u8 0), (.int .u8 0), (.int .u8 0), (.int .u8 0), (.int .u8 0), (.int .u8 0)] [((0, 1), (.const (.int .u8 0))), ((1, 1), (.const (.int .u8 1))), ((2, 1), (.const (.int .u8 56))), ((3, 1), (.const (.int .u8 2))), ((4, 1), (.const (.int .u8 57))), ((5, 1), (.const (.int .u8 49))), ((6, 1), (.const (.int .u8 28))), ((7, 1), (.const (.int .u8 3))), ((8, 1), (.const (.int .u8 61))), ((9, 1), (.const (.int .u8 58))), ((10, 1), (.const (.int .u8 42))), ((11, 1), (.const (.int .u8 50))), ((12, 1), (.const (.int .u8 38))), ((13, 1), (.const (.int .u8 29))), ((14, 1), (.const (.int .u8 17))), ((15, 1), (.const (.int .u8 4))), ((16, 1), (.const (.int .u8 62))), ((17, 1), (.const (.int .u8 47))), ((18, 1), (.const (.int .u8 59))), ((19, 1), (.const (.int .u8 36))), ((20, 1), (.const (.int .u8 45))), ((21, 1), (.const (.int .u8 43))), ((22, 1), (.const (.int .u8 51))), ((23, 1), (.const (.int .u8 22))), ((24, 1), (.const (.int .u8 53))), ((25, 1), (.const (.int .u8 39))), ((26, 1), (.const (.int .u8 33))), ((27, 1), (.const (.int .u8 30))), ((28, 1), (.const (.int .u8 24))), ((29, 1), (.const (.int .u8 18))), ((30, 1), (.const (.int .u8 12))), ((31, 1), (.const (.int .u8 5))), ((32, 1), (.const (.int .u8 63))), ((33, 1), (.const (.int .u8 55))), ((34, 1), (.const (.int .u8 48))), ((35, 1), (.const (.int .u8 27))), ((36, 1), (.const (.int .u8 60))), ((37, 1), (.const (.int .u8 41))), ((38, 1), (.const (.int .u8 37))), ((39, 1), (.const (.int .u8 16))), ((40, 1), (.const (.int .u8 46))), ((41, 1), (.const (.int .u8 35))), ((42, 1), (.const (.int .u8 44))), ((43, 1), (.const (.int .u8 21))), ((44, 1), (.const (.int .u8 52))), ((45, 1), (.const (.int .u8 32))), ((46, 1), (.const (.int .u8 23))), ((47, 1), (.const (.int .u8 11))), ((48, 1), (.const (.int .u8 54))), ((49, 1), (.const (.int .u8 26))), ((50, 1), (.const (.int .u8 40))), ((51, 1), (.const (.int .u8 15))), ((52, 1), (.const (.int .u8 34))), ((53, 1), (.const (.int .u8 20))), ((54, 1), (.const (.int .u8 31))), ((55, 1), (.const (.int .u8 10))), ((56, 1), (.const (.int .u8 25))), ((57, 1), (.const (.int .u8 14))), ((58, 1), (.const (.int .u8 19))), ((59, 1), (.const (.int .u8 9))), ((60, 1), (.const (.int .u8 13))), ((61, 1), (.const (.int .u8 8))), ((62, 1), (.const (.int .u8 7))), ((63, 1), (.const (.int .u8 6)))], none⟩,
    ⟨none, .store 64 (.glob 0) (.tmp 0), none⟩]⟩

def T : ATable := fun f => match f with
  | 3 => some F3
  | 4 => some F4
  | 5 => some F5
  | 6 => some F6
  | 7 => some F7
  | 8 => some F8
  | 9 => some F9
  | 10 => some F10
  | 11 => some F11
  | 12 => some F12
  | 13 => some F13
  | 14 => some F14
  | 15 => some F15
  | 16 => some F16
  | 17 => some F17
  | 18 => some F18
  | 19 => some F19
  | 20 => some F20
  | 21 => some F21
  | 22 => some F22
  | 23 => some F23
  | 24 => some F24
  | 25 => some F25
  | 26 => some F26
  | 27 => some F27
  | 28 => some F28
  | 29 => some F29
  | 30 => some F30
  | 31 => some F31
  | 32 => some F32
  | 33 => some F33
  | 34 => some F34
  | 35 => some F35
  | 36 => some F36
  | 37 => some F37
  | 38 => some F38
  | 39 => some F39
  | 40 => some F40
  | 41 => some F41
  | 42 => some F42
  | 43 => some F43
  | 44 => some F44
  | 45 => some F45
  | 46 => some F46
  | 47 => some F47
  | 48 => some F48
  | 49 => some F49
  | 50 => some F50
  | 51 => some F51
  | 52 => some F52
  | 53 => some F53
  | 73 => some F73
  | _ => none

theorem T_3 : T 3 = some F3 := rfl
theorem T_4 : T 4 = some F4 := rfl
theorem T_5 : T 5 = some F5 := rfl
theorem T_6 : T 6 = some F6 := rfl
theorem T_7 : T 7 = some F7 := rfl
theorem T_8 : T 8 = some F8 := rfl
theorem T_9 : T 9 = some F9 := rfl
theorem T_10 : T 10 = some F10 := rfl
theorem T_11 : T 11 = some F11 := rfl
theorem T_12 : T 12 = some F12 := rfl
theorem T_13 : T 13 = some F13 := rfl
theorem T_14 : T 14 = some F14 := rfl
theorem T_15 : T 15 = some F15 := rfl
theorem T_16 : T 16 = some F16 := rfl
theorem T_17 : T 17 = some F17 := rfl
theorem T_18 : T 18 = some F18 := rfl
theorem T_19 : T 19 = some F19 := rfl
theorem T_20 : T 20 = some F20 := rfl
theorem T_21 : T 21 = some F21 := rfl
theorem T_22 : T 22 = some F22 := rfl
theorem T_23 : T 23 = some F23 := rfl
theorem T_24 : T 24 = some F24 := rfl
theorem T_25 : T 25 = some F25 := rfl
theorem T_26 : T 26 = some F26 := rfl
theorem T_27 : T 27 = some F27 := rfl
theorem T_28 : T 28 = some F28 := rfl
theorem T_29 : T 29 = some F29 := rfl
theorem T_30 : T 30 = some F30 := rfl
theorem T_31 : T 31 = some F31 := rfl
theorem T_32 : T 32 = some F32 := rfl
theorem T_33 : T 33 = some F33 := rfl
theorem T_34 : T 34 = some F34 := rfl
theorem T_35 : T 35 = some F35 := rfl
theorem T_36 : T 36 = some F36 := rfl
theorem T_37 : T 37 = some F37 := rfl
theorem T_38 : T 38 = some F38 := rfl
theorem T_39 : T 39 = some F39 := rfl
theorem T_40 : T 40 = some F40 := rfl
theorem T_41 : T 41 = some F41 := rfl
theorem T_42 : T 42 = some F42 := rfl
theorem T_43 : T 43 = some F43 := rfl
theorem T_44 : T 44 = some F44 := rfl
theorem T_45 : T 45 = some F45 := rfl
theorem T_46 : T 46 = some F46 := rfl
theorem T_47 : T 47 = some F47 := rfl
theorem T_48 : T 48 = some F48 := rfl
theorem T_49 : T 49 = some F49 := rfl
theorem T_50 : T 50 = some F50 := rfl
theorem T_51 : T 51 = some F51 := rfl
theorem T_52 : T 52 = some F52 := rfl
theorem T_53 : T 53 = some F53 := rfl
theorem T_73 : T 73 = some F73 := rfl

set_option maxRecDepth 100000 in
theorem comp_3 : compFunc Tryd.prog 1 Tryd.f3 = some F3 := by kernel_rfl
set_option maxRecDepth 100000 in
theorem comp_4 : compFunc Tryd.prog 1 Tryd.f4 = some F4 := by kernel_rfl
set_option maxRecDepth 100000 in
theorem comp_5 : compFunc Tryd.prog 1 Tryd.f5 = some F5 := by kernel_rfl
set_option maxRecDepth 100000 in
theorem comp_6 : compFunc Tryd.prog 1 Tryd.f6 = some F6 := by kernel_rfl
set_option maxRecDepth 100000 in
theorem comp_7 : compFunc Tryd.prog 1 Tryd.f7 = some F7 := by kernel_rfl
set_option maxRecDepth 100000 in
theorem comp_8 : compFunc Tryd.prog 1 Tryd.f8 = some F8 := by kernel_rfl
set_option maxRecDepth 100000 in
theorem comp_9 : compFunc Tryd.prog 1 Tryd.f9 = some F9 := by kernel_rfl
set_option maxRecDepth 100000 in
theorem comp_10 : compFunc Tryd.prog 1 Tryd.f10 = some F10 := by kernel_rfl
set_option maxRecDepth 100000 in
theorem comp_11 : compFunc Tryd.prog 1 Tryd.f11 = some F11 := by kernel_rfl
set_option maxRecDepth 100000 in
theorem comp_12 : compFunc Tryd.prog 1 Tryd.f12 = some F12 := by kernel_rfl
set_option maxRecDepth 100000 in
theorem comp_13 : compFunc Tryd.prog 1 Tryd.f13 = some F13 := by kernel_rfl
set_option maxRecDepth 100000 in
theorem comp_14 : compFunc Tryd.prog 1 Tryd.f14 = some F14 := by kernel_rfl
set_option maxRecDepth 100000 in
theorem comp_15 : compFunc Tryd.prog 1 Tryd.f15 = some F15 := by kernel_rfl
set_option maxRecDepth 100000 in
theorem comp_16 : compFunc Tryd.prog 1 Tryd.f16 = some F16 := by kernel_rfl
set_option maxRecDepth 100000 in
theorem comp_17 : compFunc Tryd.prog 1 Tryd.f17 = some F17 := by kernel_rfl
set_option maxRecDepth 100000 in
theorem comp_18 : compFunc Tryd.prog 1 Tryd.f18 = some F18 := by kernel_rfl
set_option maxRecDepth 100000 in
theorem comp_19 : compFunc Tryd.prog 1 Tryd.f19 = some F19 := by kernel_rfl
set_option maxRecDepth 100000 in
theorem comp_20 : compFunc Tryd.prog 1 Tryd.f20 = some F20 := by kernel_rfl
set_option maxRecDepth 100000 in
theorem comp_21 : compFunc Tryd.prog 1 Tryd.f21 = some F21 := by kernel_rfl
set_option maxRecDepth 100000 in
theorem comp_22 : compFunc Tryd.prog 1 Tryd.f22 = some F22 := by kernel_rfl
set_option maxRecDepth 100000 in
theorem comp_23 : compFunc Tryd.prog 1 Tryd.f23 = some F23 := by kernel_rfl
set_option maxRecDepth 100000 in
theorem comp_24 : compFunc Tryd.prog 1 Tryd.f24 = some F24 := by kernel_rfl
set_option maxRecDepth 100000 in
theorem comp_25 : compFunc Tryd.prog 1 Tryd.f25 = some F25 := by kernel_rfl
set_option maxRecDepth 100000 in
theorem comp_26 : compFunc Tryd.prog 1 Tryd.f26 = some F26 := by kernel_rfl
set_option maxRecDepth 100000 in
theorem comp_27 : compFunc Tryd.prog 1 Tryd.f27 = some F27 := by kernel_rfl
set_option maxRecDepth 100000 in
theorem comp_28 : compFunc Tryd.prog 1 Tryd.f28 = some F28 := by kernel_rfl
set_option maxRecDepth 100000 in
theorem comp_29 : compFunc Tryd.prog 1 Tryd.f29 = some F29 := by kernel_rfl
set_option maxRecDepth 100000 in
theorem comp_30 : compFunc Tryd.prog 1 Tryd.f30 = some F30 := by kernel_rfl
set_option maxRecDepth 100000 in
theorem comp_31 : compFunc Tryd.prog 1 Tryd.f31 = some F31 := by kernel_rfl
set_option maxRecDepth 100000 in
theorem comp_32 : compFunc Tryd.prog 1 Tryd.f32 = some F32 := by kernel_rfl
set_option maxRecDepth 100000 in
theorem comp_33 : compFunc Tryd.prog 1 Tryd.f33 = some F33 := by kernel_rfl
set_option maxRecDepth 100000 in
theorem comp_34 : compFunc Tryd.prog 1 Tryd.f34 = some F34 := by kernel_rfl
set_option maxRecDepth 100000 in
theorem comp_35 : compFunc Tryd.prog 1 Tryd.f35 = some F35 := by kernel_rfl
set_option maxRecDepth 100000 in
theorem comp_36 : compFunc Tryd.prog 1 Tryd.f36 = some F36 := by kernel_rfl
set_option maxRecDepth 100000 in
theorem comp_37 : compFunc Tryd.prog 1 Tryd.f37 = some F37 := by kernel_rfl
set_option maxRecDepth 100000 in
theorem comp_38 : compFunc Tryd.prog 1 Tryd.f38 = some F38 := by kernel_rfl
set_option maxRecDepth 100000 in
theorem comp_39 : compFunc Tryd.prog 1 Tryd.f39 = some F39 := by kernel_rfl
set_option maxRecDepth 100000 in
theorem comp_40 : compFunc Tryd.prog 1 Tryd.f40 = some F40 := by kernel_rfl
set_option maxRecDepth 100000 in
theorem comp_41 : compFunc Tryd.prog 1 Tryd.f41 = some F41 := by kernel_rfl
set_option maxRecDepth 100000 in
theorem comp_42 : compFunc Tryd.prog 1 Tryd.f42 = some F42 := by kernel_rfl
set_option maxRecDepth 100000 in
theorem comp_43 : compFunc Tryd.prog 1 Tryd.f43 = some F43 := by kernel_rfl
set_option maxRecDepth 100000 in
theorem comp_44 : compFunc Tryd.prog 1 Tryd.f44 = some F44 := by kernel_rfl
set_option maxRecDepth 100000 in
theorem comp_45 : compFunc Tryd.prog 1 Tryd.f45 = some F45 := by kernel_rfl
set_option maxRecDepth 100000 in
theorem comp_46 : compFunc Tryd.prog 1 Tryd.f46 = some F46 := by kernel_rfl
set_option maxRecDepth 100000 in
theorem comp_47 : compFunc Tryd.prog 1 Tryd.f47 = some F47 := by kernel_rfl
set_option maxRecDepth 100000 in
theorem comp_48 : compFunc Tryd.prog 1 Tryd.f48 = some F48 := by kernel_rfl
set_option maxRecDepth 100000 in
theorem comp_49 : compFunc Tryd.prog 1 Tryd.f49 = some F49 := by kernel_rfl
set_option maxRecDepth 100000 in
theorem comp_50 : compFunc Tryd.prog 1 Tryd.f50 = some F50 := by kernel_rfl
set_option maxRecDepth 100000 in
theorem comp_51 : compFunc Tryd.prog 1 Tryd.f51 = some F51 := by kernel_rfl
set_option maxRecDepth 100000 in
theorem comp_52 : compFunc Tryd.prog 1 Tryd.f52 = some F52 := by kernel_rfl
set_option maxRecDepth 100000 in
theorem comp_53 : compFunc Tryd.prog 1 Tryd.f53 = some F53 := by kernel_rfl
set_option maxRecDepth 100000 in
theorem comp_73 : compFunc Tryd.prog 1 Tryd.f73 = some F73 := by kernel_rfl
theorem in_3 : F3.body.within F3.ntmps = true := by kernel_rfl
theorem in_4 : F4.body.within F4.ntmps = true := by kernel_rfl
theorem in_5 : F5.body.within F5.ntmps = true := by kernel_rfl
theorem in_6 : F6.body.within F6.ntmps = true := by kernel_rfl
theorem in_7 : F7.body.within F7.ntmps = true := by kernel_rfl
theorem in_8 : F8.body.within F8.ntmps = true := by kernel_rfl
theorem in_9 : F9.body.within F9.ntmps = true := by kernel_rfl
theorem in_10 : F10.body.within F10.ntmps = true := by kernel_rfl
theorem in_11 : F11.body.within F11.ntmps = true := by kernel_rfl
theorem in_12 : F12.body.within F12.ntmps = true := by kernel_rfl
theorem in_13 : F13.body.within F13.ntmps = true := by kernel_rfl
theorem in_14 : F14.body.within F14.ntmps = true := by kernel_rfl
theorem in_15 : F15.body.within F15.ntmps = true := by kernel_rfl
theorem in_16 : F16.body.within F16.ntmps = true := by kernel_rfl
theorem in_17 : F17.body.within F17.ntmps = true := by kernel_rfl
theorem in_18 : F18.body.within F18.ntmps = true := by kernel_rfl
theorem in_19 : F19.body.within F19.ntmps = true := by kernel_rfl
theorem in_20 : F20.body.within F20.ntmps = true := by kernel_rfl
theorem in_21 : F21.body.within F21.ntmps = true := by kernel_rfl
theorem in_22 : F22.body.within F22.ntmps = true := by kernel_rfl
theorem in_23 : F23.body.within F23.ntmps = true := by kernel_rfl
theorem in_24 : F24.body.within F24.ntmps = true := by kernel_rfl
theorem in_25 : F25.body.within F25.ntmps = true := by kernel_rfl
theorem in_26 : F26.body.within F26.ntmps = true := by kernel_rfl
theorem in_27 : F27.body.within F27.ntmps = true := by kernel_rfl
theorem in_28 : F28.body.within F28.ntmps = true := by kernel_rfl
theorem in_29 : F29.body.within F29.ntmps = true := by kernel_rfl
theorem in_30 : F30.body.within F30.ntmps = true := by kernel_rfl
theorem in_31 : F31.body.within F31.ntmps = true := by kernel_rfl
theorem in_32 : F32.body.within F32.ntmps = true := by kernel_rfl
theorem in_33 : F33.body.within F33.ntmps = true := by kernel_rfl
theorem in_34 : F34.body.within F34.ntmps = true := by kernel_rfl
theorem in_35 : F35.body.within F35.ntmps = true := by kernel_rfl
theorem in_36 : F36.body.within F36.ntmps = true := by kernel_rfl
theorem in_37 : F37.body.within F37.ntmps = true := by kernel_rfl
theorem in_38 : F38.body.within F38.ntmps = true := by kernel_rfl
theorem in_39 : F39.body.within F39.ntmps = true := by kernel_rfl
theorem in_40 : F40.body.within F40.ntmps = true := by kernel_rfl
theorem in_41 : F41.body.within F41.ntmps = true := by kernel_rfl
theorem in_42 : F42.body.within F42.ntmps = true := by kernel_rfl
theorem in_43 : F43.body.within F43.ntmps = true := by kernel_rfl
theorem in_44 : F44.body.within F44.ntmps = true := by kernel_rfl
theorem in_45 : F45.body.within F45.ntmps = true := by kernel_rfl
theorem in_46 : F46.body.within F46.ntmps = true := by kernel_rfl
theorem in_47 : F47.body.within F47.ntmps = true := by kernel_rfl
theorem in_48 : F48.body.within F48.ntmps = true := by kernel_rfl
theorem in_49 : F49.body.within F49.ntmps = true := by kernel_rfl
theorem in_50 : F50.body.within F50.ntmps = true := by kernel_rfl
theorem in_51 : F51.body.within F51.ntmps = true := by kernel_rfl
theorem in_52 : F52.body.within F52.ntmps = true := by kernel_rfl
theorem in_53 : F53.body.within F53.ntmps = true := by kernel_rfl
theorem in_73 : F73.body.within F73.ntmps = true := by kernel_rfl

theorem table_in : TableIn T := by
  intro f F h
  unfold T at h
  split at h
  · cases h; exact in_3
  · cases h; exact in_4
  · cases h; exact in_5
  · cases h; exact in_6
  · cases h; exact in_7
  · cases h; exact in_8
  · cases h; exact in_9
  · cases h; exact in_10
  · cases h; exact in_11
  · cases h; exact in_12
  · cases h; exact in_13
  · cases h; exact in_14
  · cases h; exact in_15
  · cases h; exact in_16
  · cases h; exact in_17
  · cases h; exact in_18
  · cases h; exact in_19
  · cases h; exact in_20
  · cases h; exact in_21
  · cases h; exact in_22
  · cases h; exact in_23
  · cases h; exact in_24
  · cases h; exact in_25
  · cases h; exact in_26
  · cases h; exact in_27
  · cases h; exact in_28
  · cases h; exact in_29
  · cases h; exact in_30
  · cases h; exact in_31
  · cases h; exact in_32
  · cases h; exact in_33
  · cases h; exact in_34
  · cases h; exact in_35
  · cases h; exact in_36
  · cases h; exact in_37
  · cases h; exact in_38
  · cases h; exact in_39
  · cases h; exact in_40
  · cases h; exact in_41
  · cases h; exact in_42
  · cases h; exact in_43
  · cases h; exact in_44
  · cases h; exact in_45
  · cases h; exact in_46
  · cases h; exact in_47
  · cases h; exact in_48
  · cases h; exact in_49
  · cases h; exact in_50
  · cases h; exact in_51
  · cases h; exact in_52
  · cases h; exact in_53
  · cases h; exact in_73
  · cases h

theorem table_ok : TableOk Tryd.prog 1 T := by
  intro f F h
  unfold T at h
  split at h
  · cases h; exact ⟨Tryd.f3, Tryd.func3, comp_3⟩
  · cases h; exact ⟨Tryd.f4, Tryd.func4, comp_4⟩
  · cases h; exact ⟨Tryd.f5, Tryd.func5, comp_5⟩
  · cases h; exact ⟨Tryd.f6, Tryd.func6, comp_6⟩
  · cases h; exact ⟨Tryd.f7, Tryd.func7, comp_7⟩
  · cases h; exact ⟨Tryd.f8, Tryd.func8, comp_8⟩
  · cases h; exact ⟨Tryd.f9, Tryd.func9, comp_9⟩
  · cases h; exact ⟨Tryd.f10, Tryd.func10, comp_10⟩
  · cases h; exact ⟨Tryd.f11, Tryd.func11, comp_11⟩
  · cases h; exact ⟨Tryd.f12, Tryd.func12, comp_12⟩
  · cases h; exact ⟨Tryd.f13, Tryd.func13, comp_13⟩
  · cases h; exact ⟨Tryd.f14, Tryd.func14, comp_14⟩
  · cases h; exact ⟨Tryd.f15, Tryd.func15, comp_15⟩
  · cases h; exact ⟨Tryd.f16, Tryd.func16, comp_16⟩
  · cases h; exact ⟨Tryd.f17, Tryd.func17, comp_17⟩
  · cases h; exact ⟨Tryd.f18, Tryd.func18, comp_18⟩
  · cases h; exact ⟨Tryd.f19, Tryd.func19, comp_19⟩
  · cases h; exact ⟨Tryd.f20, Tryd.func20, comp_20⟩
  · cases h; exact ⟨Tryd.f21, Tryd.func21, comp_21⟩
  · cases h; exact ⟨Tryd.f22, Tryd.func22, comp_22⟩
  · cases h; exact ⟨Tryd.f23, Tryd.func23, comp_23⟩
  · cases h; exact ⟨Tryd.f24, Tryd.func24, comp_24⟩
  · cases h; exact ⟨Tryd.f25, Tryd.func25, comp_25⟩
  · cases h; exact ⟨Tryd.f26, Tryd.func26, comp_26⟩
  · cases h; exact ⟨Tryd.f27, Tryd.func27, comp_27⟩
  · cases h; exact ⟨Tryd.f28, Tryd.func28, comp_28⟩
  · cases h; exact ⟨Tryd.f29, Tryd.func29, comp_29⟩
  · cases h; exact ⟨Tryd.f30, Tryd.func30, comp_30⟩
  · cases h; exact ⟨Tryd.f31, Tryd.func31, comp_31⟩
  · cases h; exact ⟨Tryd.f32, Tryd.func32, comp_32⟩
  · cases h; exact ⟨Tryd.f33, Tryd.func33, comp_33⟩
  · cases h; exact ⟨Tryd.f34, Tryd.func34, comp_34⟩
  · cases h; exact ⟨Tryd.f35, Tryd.func35, comp_35⟩
  · cases h; exact ⟨Tryd.f36, Tryd.func36, comp_36⟩
  · cases h; exact ⟨Tryd.f37, Tryd.func37, comp_37⟩
  · cases h; exact ⟨Tryd.f38, Tryd.func38, comp_38⟩
  · cases h; exact ⟨Tryd.f39, Tryd.func39, comp_39⟩
  · cases h; exact ⟨Tryd.f40, Tryd.func40, comp_40⟩
  · cases h; exact ⟨Tryd.f41, Tryd.func41, comp_41⟩
  · cases h; exact ⟨Tryd.f42, Tryd.func42, comp_42⟩
  · cases h; exact ⟨Tryd.f43, Tryd.func43, comp_43⟩
  · cases h; exact ⟨Tryd.f44, Tryd.func44, comp_44⟩
  · cases h; exact ⟨Tryd.f45, Tryd.func45, comp_45⟩
  · cases h; exact ⟨Tryd.f46, Tryd.func46, comp_46⟩
  · cases h; exact ⟨Tryd.f47, Tryd.func47, comp_47⟩
  · cases h; exact ⟨Tryd.f48, Tryd.func48, comp_48⟩
  · cases h; exact ⟨Tryd.f49, Tryd.func49, comp_49⟩
  · cases h; exact ⟨Tryd.f50, Tryd.func50, comp_50⟩
  · cases h; exact ⟨Tryd.f51, Tryd.func51, comp_51⟩
  · cases h; exact ⟨Tryd.f52, Tryd.func52, comp_52⟩
  · cases h; exact ⟨Tryd.f53, Tryd.func53, comp_53⟩
  · cases h; exact ⟨Tryd.f73, Tryd.func73, comp_73⟩
  · cases h

end Go.Proofs.YtkceclemfhbclaaDoor.Ev
