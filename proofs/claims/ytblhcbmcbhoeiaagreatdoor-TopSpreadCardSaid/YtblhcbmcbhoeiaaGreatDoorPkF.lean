/- Texts of the proof of one statement, part 6: each as it stood by itself. -/
import Derived.Test.YtblhcbmcbhoeiaaGreatDoorChecked
import Derived.KernelRfl
import Derived.Test.YtblhcbmcbhoeiaaGreatDoorPkE

section
/- The program's functions as the evaluator takes them, printed by a program of this repository (PrintTab.lean, mktab.py), part 1. -/
namespace Go.Proofs.YtblhcbmcbhoeiaaGreatDoor.Ev
open Go

/-- 'hostler/hostlertop.TopPong' -/
def F4 : AFunc := ⟨57, [.tmp 2],
  .seq (.region [
    ⟨(some 2), .mv (.const (.bool false)), none⟩])
  (.seq (.seq (.region [
    ⟨(some 6), .call 8 [], none⟩,
    ⟨(some 7), .un .not (.tmp 6), none⟩])
  (.cond (.tmp 7)
    (.seq (.region [
      ⟨(some 2), .mv (.const (.bool false)), none⟩])
    (.ret))
    (.skip)))
  (.seq (.region [
    ⟨(some 9), .mv (.tmp 0), none⟩,
    ⟨(some 10), .bin .rem (.tmp 9) (.const (.int .u8 3)), none⟩,
    ⟨(some 11), .toInt .i64 (.tmp 10), none⟩,
    ⟨(some 12), .bin .add (.const (.int .i64 1)) (.tmp 11), none⟩,
    ⟨(some 13), .build [(.int .i64 0), (.int .i64 0), (.int .i64 0)] [((0, 1), (.const (.int .i64 1))), ((1, 1), (.tmp 12)), ((2, 1), (.const (.int .i64 3)))], none⟩,
    ⟨(some 14), .call 20 [(.tmp 13)], none⟩,
    ⟨(some 8), .mv (.tmp 14), none⟩,
    ⟨(some 15), .extract 0 (.tmp 8), none⟩,
    ⟨(some 16), .extract 1 (.tmp 8), none⟩,
    ⟨(some 3), .mv (.tmp 15), none⟩,
    ⟨(some 4), .mv (.tmp 16), none⟩])
  (.seq (.seq (.region [
    ⟨(some 17), .mv (.tmp 4), none⟩,
    ⟨(some 18), .bin .neq (.tmp 17) (.const (.int .i64 0)), none⟩,
    ⟨(some 19), .mv (.tmp 18), none⟩,
    ⟨(some 20), .mv (.tmp 3), (some (19, false))⟩,
    ⟨(some 21), .cmpNil false 0 (.tmp 20) (.const .nilptr), (some (19, false))⟩,
    ⟨(some 22), .pick (.tmp 19) (.const (.bool true)) (.tmp 21), none⟩])
  (.cond (.tmp 22)
    (.seq (.region [
      ⟨(some 2), .mv (.const (.bool false)), none⟩])
    (.ret))
    (.skip)))
  (.seq (.region [
    ⟨(some 23), .mv (.tmp 3), none⟩,
    ⟨(some 24), .call 21 [(.tmp 23)], none⟩])
  (.seq (.region [
    ⟨(some 25), .mv (.tmp 3), none⟩,
    ⟨(some 26), .build [(.int .u8 0), (.int .u8 0), (.int .i64 0), (.int .i64 0), (.int .i64 0)] [((1, 1), (.const (.int .u8 4))), ((3, 1), (.const (.int .i64 2)))], none⟩,
    ⟨(some 27), .call 10 [(.tmp 25), (.tmp 26)], none⟩])
  (.seq (.region [
    ⟨(some 28), .mv (.tmp 3), none⟩,
    ⟨(some 29), .call 21 [(.tmp 28)], none⟩])
  (.seq (.region [
    ⟨(some 30), .mv (.tmp 3), none⟩,
    ⟨(some 31), .build [(.int .u8 0), (.int .u8 0), (.int .i64 0), (.int .i64 0), (.int .i64 0)] [((1, 1), (.const (.int .u8 4))), ((3, 1), (.const (.int .i64 1)))], none⟩,
    ⟨(some 32), .call 10 [(.tmp 30), (.tmp 31)], none⟩])
  (.seq (.region [
    ⟨(some 33), .mv (.tmp 3), none⟩,
    ⟨(some 34), .call 21 [(.tmp 33)], none⟩])
  (.seq (.seq (.region [
    ⟨(some 35), .mv (.const (.int .i64 0)), none⟩])
  (.block 0 (.loop (.seq (.region [
      ⟨(some 36), .bin .lss (.tmp 35) (.const (.int .i64 60)), none⟩])
    (.seq (.cond (.tmp 36)
      (.skip)
      (.exit 0))
    (.seq (.block 1 (.seq (.region [
      ⟨(some 37), .mv (.tmp 3), none⟩,
      ⟨(some 38), .call 22 [(.tmp 37), (.const (.int .i64 0))], none⟩,
      ⟨(some 39), .field1 2 (.tmp 38), none⟩,
      ⟨(some 5), .mv (.tmp 39), none⟩])
    (.seq (.seq (.region [
      ⟨(some 40), .mv (.tmp 5), none⟩,
      ⟨(some 41), .bin .eql (.tmp 40) (.const (.int .i64 2)), none⟩])
    (.cond (.tmp 41)
      (.seq (.region [
        ⟨(some 2), .mv (.const (.bool true)), none⟩])
      (.ret))
      (.skip)))
    (.seq (.seq (.region [
      ⟨(some 42), .mv (.tmp 5), none⟩,
      ⟨(some 43), .bin .lss (.tmp 42) (.const (.int .i64 0)), none⟩])
    (.cond (.tmp 43)
      (.seq (.region [
        ⟨(some 2), .mv (.const (.bool false)), none⟩])
      (.ret))
      (.skip)))
    (.seq (.region [
      ⟨(some 44), .mv (.tmp 3), none⟩,
      ⟨(some 45), .mv (.tmp 5), none⟩,
      ⟨(some 46), .bin .sub (.const (.int .i64 1)) (.tmp 45), none⟩,
      ⟨(some 47), .build [(.int .u8 0), (.int .u8 0), (.int .i64 0), (.int .i64 0), (.int .i64 0)] [((1, 1), (.const (.int .u8 5))), ((3, 1), (.tmp 46))], none⟩,
      ⟨(some 48), .call 10 [(.tmp 44), (.tmp 47)], none⟩])
    (.seq (.region [
      ⟨(some 49), .mv (.tmp 3), none⟩,
      ⟨(some 50), .call 21 [(.tmp 49)], none⟩])
    (.seq (.region [
      ⟨(some 51), .mv (.tmp 3), none⟩,
      ⟨(some 52), .build [(.int .u8 0), (.int .u8 0), (.int .i64 0), (.int .i64 0), (.int .i64 0)] [((1, 1), (.const (.int .u8 2)))], none⟩,
      ⟨(some 53), .call 10 [(.tmp 51), (.tmp 52)], none⟩])
    (.region [
      ⟨(some 54), .mv (.tmp 3), none⟩,
      ⟨(some 55), .call 21 [(.tmp 54)], none⟩]))))))))
    (.region [
      ⟨(some 56), .bin .add (.tmp 35) (.const (.int .i64 1)), none⟩,
      ⟨(some 35), .mv (.tmp 56), none⟩])))))))
  (.seq (.region [
    ⟨(some 2), .mv (.const (.bool false)), none⟩])
  (.ret))))))))))), none⟩
set_option maxRecDepth 100000 in
theorem comp_4 : compFunc Tryz.prog 4 Tryz.f4 = some F4 := by kernel_rfl
theorem in_4 : F4.body.within F4.ntmps = true := by kernel_rfl

/-- 'hostler/hostlertop.TopSpread' -/
def F5 : AFunc := ⟨81, [.tmp 4],
  .seq (.region [
    ⟨(some 4), .mv (.const (.bool false)), none⟩])
  (.seq (.seq (.region [
    ⟨(some 12), .call 8 [], none⟩,
    ⟨(some 13), .un .not (.tmp 12), none⟩])
  (.cond (.tmp 13)
    (.seq (.region [
      ⟨(some 4), .mv (.const (.bool false)), none⟩])
    (.ret))
    (.skip)))
  (.seq (.region [
    ⟨(some 14), .mv (.tmp 0), none⟩,
    ⟨(some 15), .bin .rem (.tmp 14) (.const (.int .u8 8)), none⟩,
    ⟨(some 16), .toInt .i64 (.tmp 15), none⟩,
    ⟨(some 17), .bin .add (.const (.int .i64 1)) (.tmp 16), none⟩,
    ⟨(some 18), .build [(.int .i64 0), (.int .i64 0), (.int .i64 0)] [((0, 1), (.tmp 17)), ((2, 1), (.const (.int .i64 8)))], none⟩,
    ⟨(some 5), .alloc [(.int .i64 0), (.int .i64 0), (.int .i64 0)], none⟩,
    ⟨none, .store 3 (.tmp 5) (.tmp 18), none⟩])
  (.seq (.region [
    ⟨(some 19), .fieldAddr 0 (.tmp 5), none⟩,
    ⟨(some 20), .load1 (.tmp 19), none⟩,
    ⟨(some 21), .mv (.tmp 1), none⟩,
    ⟨(some 22), .bin .rem (.tmp 21) (.const (.int .u8 4)), none⟩,
    ⟨(some 23), .toInt .i64 (.tmp 22), none⟩,
    ⟨(some 24), .bin .add (.tmp 20) (.tmp 23), none⟩,
    ⟨(some 25), .fieldAddr 1 (.tmp 5), none⟩,
    ⟨none, .store 1 (.tmp 25) (.tmp 24), none⟩])
  (.seq (.region [
    ⟨(some 27), .loadN 3 (.tmp 5), none⟩,
    ⟨(some 28), .call 20 [(.tmp 27)], none⟩,
    ⟨(some 26), .mv (.tmp 28), none⟩,
    ⟨(some 29), .extract 0 (.tmp 26), none⟩,
    ⟨(some 30), .extract 1 (.tmp 26), none⟩,
    ⟨(some 6), .mv (.tmp 29), none⟩,
    ⟨(some 7), .mv (.tmp 30), none⟩])
  (.seq (.seq (.region [
    ⟨(some 31), .mv (.tmp 7), none⟩,
    ⟨(some 32), .bin .neq (.tmp 31) (.const (.int .i64 0)), none⟩,
    ⟨(some 33), .mv (.tmp 32), none⟩,
    ⟨(some 34), .mv (.tmp 6), (some (33, false))⟩,
    ⟨(some 35), .cmpNil false 0 (.tmp 34) (.const .nilptr), (some (33, false))⟩,
    ⟨(some 36), .pick (.tmp 33) (.const (.bool true)) (.tmp 35), none⟩])
  (.cond (.tmp 36)
    (.seq (.region [
      ⟨(some 4), .mv (.const (.bool false)), none⟩])
    (.ret))
    (.skip)))
  (.seq (.region [
    ⟨(some 37), .mv (.tmp 6), none⟩,
    ⟨(some 38), .call 21 [(.tmp 37)], none⟩])
  (.seq (.seq (.region [
    ⟨(some 8), .mv (.const (.int .i64 1)), none⟩])
  (.block 0 (.loop (.seq (.seq (.region [
      ⟨(some 39), .mv (.tmp 8), none⟩,
      ⟨(some 40), .fieldAddr 0 (.tmp 5), none⟩,
      ⟨(some 41), .load1 (.tmp 40), none⟩,
      ⟨(some 42), .bin .lss (.tmp 39) (.tmp 41), none⟩])
    (.cond (.tmp 42)
      (.skip)
      (.exit 0)))
    (.seq (.block 1 (.seq (.seq (.region [
      ⟨(some 45), .mv (.const (.int .i64 0)), none⟩])
    (.block 2 (.loop (.seq (.region [
        ⟨(some 46), .bin .lss (.tmp 45) (.const (.int .i64 60)), none⟩])
      (.seq (.cond (.tmp 46)
        (.skip)
        (.exit 2))
      (.seq (.block 3 (.seq (.seq (.region [
        ⟨(some 47), .mv (.tmp 6), none⟩,
        ⟨(some 48), .call 22 [(.tmp 47), (.const (.int .i64 0))], none⟩,
        ⟨(some 49), .field1 0 (.tmp 48), none⟩,
        ⟨(some 50), .bin .eql (.tmp 49) (.const (.int .i64 0)), none⟩])
      (.cond (.tmp 50)
        (.exit 2)
        (.skip)))
      (.region [
        ⟨(some 51), .mv (.tmp 6), none⟩,
        ⟨(some 52), .build [(.int .u8 0), (.int .u8 0), (.int .i64 0), (.int .i64 0), (.int .i64 0)] [], none⟩,
        ⟨(some 53), .call 10 [(.tmp 51), (.tmp 52)], none⟩])))
      (.region [
        ⟨(some 54), .bin .add (.tmp 45) (.const (.int .i64 1)), none⟩,
        ⟨(some 45), .mv (.tmp 54), none⟩])))))))
    (.seq (.region [
      ⟨(some 55), .mv (.tmp 6), none⟩,
      ⟨(some 56), .mv (.tmp 8), none⟩,
      ⟨(some 57), .build [(.int .u8 0), (.int .u8 0), (.int .i64 0), (.int .i64 0), (.int .i64 0)] [((1, 1), (.const (.int .u8 4))), ((3, 1), (.tmp 56))], none⟩,
      ⟨(some 58), .call 10 [(.tmp 55), (.tmp 57)], none⟩,
      ⟨(some 59), .un .not (.tmp 58), none⟩])
    (.cond (.tmp 59)
      (.seq (.region [
        ⟨(some 4), .mv (.const (.bool false)), none⟩])
      (.ret))
      (.skip)))))
    (.region [
      ⟨(some 43), .mv (.tmp 8), none⟩,
      ⟨(some 44), .bin .add (.tmp 43) (.const (.int .i64 1)), none⟩,
      ⟨(some 8), .mv (.tmp 44), none⟩]))))))
  (.seq (.seq (.region [
    ⟨(some 61), .mv (.tmp 6), none⟩,
    ⟨(some 62), .call 21 [(.tmp 61)], none⟩,
    ⟨(some 60), .mv (.tmp 62), none⟩,
    ⟨(some 63), .extract 0 (.tmp 60), none⟩,
    ⟨(some 64), .extract 1 (.tmp 60), none⟩,
    ⟨(some 9), .mv (.tmp 63), none⟩,
    ⟨(some 10), .mv (.tmp 64), none⟩])
  (.seq (.region [
    ⟨(some 65), .mv (.tmp 10), none⟩,
    ⟨(some 66), .un .not (.tmp 65), none⟩])
  (.cond (.tmp 66)
    (.seq (.region [
      ⟨(some 4), .mv (.const (.bool false)), none⟩])
    (.ret))
    (.skip))))
  (.seq (.seq (.region [
    ⟨(some 67), .fieldAddr 0 (.tmp 5), none⟩,
    ⟨(some 68), .load1 (.tmp 67), none⟩,
    ⟨(some 69), .mv (.const (.int .i64 0)), none⟩])
  (.block 4 (.loop (.seq (.region [
      ⟨(some 70), .bin .lss (.tmp 69) (.tmp 68), none⟩])
    (.seq (.cond (.tmp 70)
      (.skip)
      (.exit 4))
    (.seq (.block 5 (.seq (.region [
      ⟨(some 71), .mv (.tmp 69), none⟩,
      ⟨(some 11), .mv (.tmp 71), none⟩])
    (.seq (.region [
      ⟨(some 72), .mv (.tmp 6), none⟩,
      ⟨(some 73), .mv (.tmp 11), none⟩,
      ⟨(some 74), .call 23 [(.tmp 72), (.tmp 73)], none⟩,
      ⟨(some 75), .bin .neq (.tmp 74) (.const (.int .u64 2)), none⟩])
    (.cond (.tmp 75)
      (.seq (.region [
        ⟨(some 4), .mv (.const (.bool false)), none⟩])
      (.ret))
      (.skip)))))
    (.region [
      ⟨(some 76), .bin .add (.tmp 69) (.const (.int .i64 1)), none⟩,
      ⟨(some 69), .mv (.tmp 76), none⟩])))))))
  (.seq (.region [
    ⟨(some 77), .mv (.tmp 6), none⟩,
    ⟨(some 78), .call 13 [(.tmp 77)], none⟩,
    ⟨(some 79), .call 14 [(.tmp 78)], none⟩,
    ⟨(some 80), .bin .eql (.tmp 79) (.const (.int .i64 0)), none⟩,
    ⟨(some 4), .mv (.tmp 80), none⟩])
  (.ret))))))))))), none⟩
set_option maxRecDepth 100000 in
theorem comp_5 : compFunc Tryz.prog 4 Tryz.f5 = some F5 := by kernel_rfl
theorem in_5 : F5.body.within F5.ntmps = true := by kernel_rfl

/-- 'hostler/hostlertop.lives' -/
def F8 : AFunc := ⟨45, [.tmp 0],
  .seq (.region [
    ⟨(some 0), .mv (.const (.bool false)), none⟩])
  (.seq (.seq (.region [
    ⟨(some 5), .call 29 [], none⟩,
    ⟨(some 6), .un .not (.tmp 5), none⟩])
  (.cond (.tmp 6)
    (.seq (.region [
      ⟨(some 0), .mv (.const (.bool false)), none⟩])
    (.ret))
    (.skip)))
  (.seq (.region [
    ⟨(some 8), .build [(.int .i64 0), (.int .i64 0), (.int .i64 0)] [((0, 1), (.const (.int .i64 2))), ((1, 1), (.const (.int .i64 2))), ((2, 1), (.const (.int .i64 2)))], none⟩,
    ⟨(some 9), .call 20 [(.tmp 8)], none⟩,
    ⟨(some 7), .mv (.tmp 9), none⟩,
    ⟨(some 10), .extract 0 (.tmp 7), none⟩,
    ⟨(some 11), .extract 1 (.tmp 7), none⟩,
    ⟨(some 1), .mv (.tmp 10), none⟩,
    ⟨(some 2), .mv (.tmp 11), none⟩])
  (.seq (.seq (.region [
    ⟨(some 12), .mv (.tmp 2), none⟩,
    ⟨(some 13), .bin .neq (.tmp 12) (.const (.int .i64 0)), none⟩,
    ⟨(some 14), .mv (.tmp 13), none⟩,
    ⟨(some 15), .mv (.tmp 1), (some (14, false))⟩,
    ⟨(some 16), .cmpNil false 0 (.tmp 15) (.const .nilptr), (some (14, false))⟩,
    ⟨(some 17), .pick (.tmp 14) (.const (.bool true)) (.tmp 16), none⟩])
  (.cond (.tmp 17)
    (.seq (.region [
      ⟨(some 0), .mv (.const (.bool false)), none⟩])
    (.ret))
    (.skip)))
  (.seq (.region [
    ⟨(some 18), .mv (.tmp 1), none⟩,
    ⟨(some 19), .call 21 [(.tmp 18)], none⟩])
  (.seq (.region [
    ⟨(some 20), .mv (.tmp 1), none⟩,
    ⟨(some 21), .build [(.int .u8 0), (.int .u8 0), (.int .i64 0), (.int .i64 0), (.int .i64 0)] [((1, 1), (.const (.int .u8 4))), ((3, 1), (.const (.int .i64 1)))], none⟩,
    ⟨(some 22), .call 10 [(.tmp 20), (.tmp 21)], none⟩])
  (.seq (.region [
    ⟨(some 24), .mv (.tmp 1), none⟩,
    ⟨(some 25), .call 21 [(.tmp 24)], none⟩,
    ⟨(some 23), .mv (.tmp 25), none⟩,
    ⟨(some 26), .extract 0 (.tmp 23), none⟩,
    ⟨(some 27), .extract 1 (.tmp 23), none⟩,
    ⟨(some 3), .mv (.tmp 26), none⟩,
    ⟨(some 4), .mv (.tmp 27), none⟩])
  (.seq (.region [
    ⟨(some 28), .mv (.tmp 4), none⟩,
    ⟨(some 29), .mv (.tmp 28), none⟩,
    ⟨(some 30), .mv (.tmp 1), (some (29, true))⟩,
    ⟨(some 31), .call 23 [(.tmp 30), (.const (.int .i64 0))], (some (29, true))⟩,
    ⟨(some 32), .bin .eql (.tmp 31) (.const (.int .u64 2)), (some (29, true))⟩,
    ⟨(some 33), .pick (.tmp 29) (.tmp 32) (.const (.bool false)), none⟩,
    ⟨(some 34), .mv (.tmp 33), none⟩,
    ⟨(some 35), .mv (.tmp 1), (some (34, true))⟩,
    ⟨(some 36), .call 23 [(.tmp 35), (.const (.int .i64 1))], (some (34, true))⟩,
    ⟨(some 37), .bin .eql (.tmp 36) (.const (.int .u64 2)), (some (34, true))⟩,
    ⟨(some 38), .pick (.tmp 34) (.tmp 37) (.const (.bool false)), none⟩,
    ⟨(some 39), .mv (.tmp 38), none⟩,
    ⟨(some 40), .mv (.tmp 1), (some (39, true))⟩,
    ⟨(some 41), .call 28 [(.tmp 40)], (some (39, true))⟩,
    ⟨(some 42), .lenS (.tmp 41), (some (39, true))⟩,
    ⟨(some 43), .bin .eql (.tmp 42) (.const (.int .i64 0)), (some (39, true))⟩,
    ⟨(some 44), .pick (.tmp 39) (.tmp 43) (.const (.bool false)), none⟩,
    ⟨(some 0), .mv (.tmp 44), none⟩])
  (.ret)))))))), none⟩
set_option maxRecDepth 100000 in
theorem comp_8 : compFunc Tryz.prog 4 Tryz.f8 = some F8 := by kernel_rfl
theorem in_8 : F8.body.within F8.ntmps = true := by kernel_rfl

/-- '(*hostler/world.World).Step' -/
def F10 : AFunc := ⟨51, [.tmp 4],
  .seq (.region [
    ⟨(some 3), .box (.tmp 1), none⟩,
    ⟨(some 4), .mv (.const (.bool false)), none⟩])
  (.seq (.seq (.region [
    ⟨(some 7), .fieldAddr 0 (.tmp 3), none⟩,
    ⟨(some 8), .load1 (.tmp 7), none⟩])
  (.block 0 (.seq (.region [
    ⟨(some 10), .bin .eql (.tmp 8) (.const (.int .u8 0)), none⟩,
    ⟨(some 9), .mv (.tmp 10), none⟩])
  (.cond (.tmp 9)
    (.seq (.region [
      ⟨(some 11), .mv (.tmp 0), none⟩,
      ⟨(some 12), .loadN 5 (.tmp 3), none⟩,
      ⟨(some 13), .call 31 [(.tmp 11), (.tmp 12)], none⟩,
      ⟨(some 4), .mv (.tmp 13), none⟩])
    (.ret))
    (.seq (.region [
      ⟨(some 15), .bin .eql (.tmp 8) (.const (.int .u8 1)), none⟩,
      ⟨(some 14), .mv (.tmp 15), none⟩])
    (.cond (.tmp 14)
      (.seq (.draw [
        (⟨(some 16), .mv (.tmp 0), none⟩, .still),
        (⟨(some 17), .mv (.tmp 0), none⟩, .still),
        (⟨(some 18), .nilCheck (.tmp 17), none⟩, .still),
        (⟨(some 19), .fieldAddr 11 (.tmp 18), none⟩, .still),
        (⟨(some 20), .load1 (.tmp 19), none⟩, .reads 0 0),
        (⟨(some 21), .fieldAddr 4 (.tmp 3), none⟩, .still),
        (⟨(some 22), .load1 (.tmp 21), none⟩, .reads 0 0),
        (⟨(some 23), .call 33 [(.tmp 20), (.tmp 22)], none⟩, .loud),
        (⟨(some 24), .call 32 [(.tmp 16), (.tmp 23)], none⟩, .loud)])
      (.seq (.region [
        ⟨(some 4), .mv (.const (.bool true)), none⟩])
      (.ret)))
      (.seq (.region [
        ⟨(some 26), .bin .eql (.tmp 8) (.const (.int .u8 2)), none⟩,
        ⟨(some 25), .mv (.tmp 26), none⟩])
      (.cond (.tmp 25)
        (.seq (.seq (.region [
          ⟨(some 27), .fieldAddr 2 (.tmp 3), none⟩,
          ⟨(some 28), .load1 (.tmp 27), none⟩,
          ⟨(some 29), .bin .lss (.tmp 28) (.const (.int .i64 0)), none⟩,
          ⟨(some 30), .mv (.tmp 29), none⟩,
          ⟨(some 31), .fieldAddr 2 (.tmp 3), (some (30, false))⟩,
          ⟨(some 32), .load1 (.tmp 31), (some (30, false))⟩,
          ⟨(some 33), .bin .geq (.tmp 32) (.const (.int .i64 65536)), (some (30, false))⟩,
          ⟨(some 34), .pick (.tmp 30) (.const (.bool true)) (.tmp 33), none⟩])
        (.cond (.tmp 34)
          (.seq (.region [
            ⟨(some 4), .mv (.const (.bool false)), none⟩])
          (.ret))
          (.skip)))
        (.seq (.draw [
          (⟨(some 36), .mv (.tmp 0), none⟩, .still),
          (⟨(some 37), .nilCheck (.tmp 36), none⟩, .still),
          (⟨(some 38), .fieldAddr 11 (.tmp 37), none⟩, .still),
          (⟨(some 39), .load1 (.tmp 38), none⟩, .reads 0 0),
          (⟨(some 40), .fieldAddr 2 (.tmp 3), none⟩, .still),
          (⟨(some 41), .load1 (.tmp 40), none⟩, .reads 0 0),
          (⟨(some 42), .toInt .u16 (.tmp 41), none⟩, .still),
          (⟨(some 43), .call 34 [(.tmp 39), (.tmp 42)], none⟩, .loud),
          (⟨(some 35), .mv (.tmp 43), none⟩, .still),
          (⟨(some 44), .extract 0 (.tmp 35), none⟩, .still),
          (⟨(some 45), .extract 1 (.tmp 35), none⟩, .still),
          (⟨(some 5), .mv (.tmp 44), none⟩, .still),
          (⟨(some 6), .mv (.tmp 45), none⟩, .still)])
        (.seq (.region [
          ⟨(some 46), .mv (.tmp 0), none⟩,
          ⟨(some 47), .mv (.tmp 5), none⟩,
          ⟨(some 48), .call 32 [(.tmp 46), (.tmp 47)], none⟩])
        (.seq (.region [
          ⟨(some 49), .mv (.tmp 6), none⟩,
          ⟨(some 50), .bin .eql (.tmp 49) (.const (.int .i64 0)), none⟩,
          ⟨(some 4), .mv (.tmp 50), none⟩])
        (.ret)))))
        (.skip)))))))))
  (.seq (.region [
    ⟨(some 4), .mv (.const (.bool false)), none⟩])
  (.ret))), none⟩
set_option maxRecDepth 100000 in
theorem comp_10 : compFunc Tryz.prog 4 Tryz.f10 = some F10 := by kernel_rfl
theorem in_10 : F10.body.within F10.ntmps = true := by kernel_rfl

/-- '(*hostler/world.World).Quiet' -/
def F11 : AFunc := ⟨25, [.tmp 2],
  .seq (.region [
    ⟨(some 2), .mv (.const (.bool false)), none⟩])
  (.seq (.seq (.region [
    ⟨(some 5), .mv (.tmp 0), none⟩,
    ⟨(some 6), .nilCheck (.tmp 5), none⟩,
    ⟨(some 7), .fieldAddr 13 (.tmp 6), none⟩,
    ⟨(some 8), .load1 (.tmp 7), none⟩,
    ⟨(some 9), .lenS (.tmp 8), none⟩,
    ⟨(some 10), .mv (.const (.int .i64 0)), none⟩])
  (.block 0 (.loop (.seq (.region [
      ⟨(some 11), .bin .lss (.tmp 10) (.tmp 9), none⟩])
    (.seq (.cond (.tmp 11)
      (.skip)
      (.exit 0))
    (.seq (.block 1 (.seq (.region [
      ⟨(some 12), .mv (.tmp 10), none⟩,
      ⟨(some 13), .idxAddr 18 none (.tmp 8) (.tmp 10), none⟩,
      ⟨(some 14), .loadN 18 (.tmp 13), none⟩,
      ⟨(some 4), .alloc [(.int .i64 0), (.int .i64 0), (.int .i64 0), (.int .i64 0), (.int .i64 0), (.int .i64 0), (.int .i64 0), (.bool false), (.bool false), .nilslice, (.int .i64 0), (.int .i64 0), (.int .i64 0), (.int .i64 0), (.int .i64 0), (.int .i64 0), (.int .u64 0), (.int .i64 0)], none⟩,
      ⟨(some 3), .mv (.tmp 12), none⟩,
      ⟨none, .store 18 (.tmp 4) (.tmp 14), none⟩])
    (.seq (.region [
      ⟨(some 15), .fieldAddr 0 (.tmp 4), none⟩,
      ⟨(some 16), .load1 (.tmp 15), none⟩,
      ⟨(some 17), .bin .neq (.tmp 16) (.const (.int .i64 0)), none⟩,
      ⟨(some 18), .mv (.tmp 17), none⟩,
      ⟨(some 19), .mv (.tmp 0), (some (18, true))⟩,
      ⟨(some 20), .mv (.tmp 3), (some (18, true))⟩,
      ⟨(some 21), .call 35 [(.tmp 19), (.tmp 20)], (some (18, true))⟩,
      ⟨(some 22), .un .not (.tmp 21), (some (18, true))⟩,
      ⟨(some 23), .pick (.tmp 18) (.tmp 22) (.const (.bool false)), none⟩])
    (.cond (.tmp 23)
      (.seq (.region [
        ⟨(some 2), .mv (.const (.bool false)), none⟩])
      (.ret))
      (.skip)))))
    (.region [
      ⟨(some 24), .bin .add (.tmp 10) (.const (.int .i64 1)), none⟩,
      ⟨(some 10), .mv (.tmp 24), none⟩])))))))
  (.seq (.region [
    ⟨(some 2), .mv (.const (.bool true)), none⟩])
  (.ret))), none⟩
set_option maxRecDepth 100000 in
theorem comp_11 : compFunc Tryz.prog 4 Tryz.f11 = some F11 := by kernel_rfl
theorem in_11 : F11.body.within F11.ntmps = true := by kernel_rfl

/-- '(*hostler/world.World).Spinning' -/
def F12 : AFunc := ⟨13, [.tmp 2],
  .seq (.region [
    ⟨(some 2), .mv (.const (.int .u64 0)), none⟩])
  (.seq (.draw [
    (⟨(some 3), .mv (.tmp 0), none⟩, .still),
    (⟨(some 4), .nilCheck (.tmp 3), none⟩, .still),
    (⟨(some 5), .fieldAddr 3 (.tmp 4), none⟩, .still),
    (⟨(some 6), .load1 (.tmp 5), none⟩, .reads 0 0),
    (⟨(some 7), .call 36 [(.tmp 6)], none⟩, .loud),
    (⟨(some 8), .mv (.tmp 0), none⟩, .still),
    (⟨(some 9), .nilCheck (.tmp 8), none⟩, .still),
    (⟨(some 10), .fieldAddr 4 (.tmp 9), none⟩, .still),
    (⟨(some 11), .load1 (.tmp 10), none⟩, .reads 0 1),
    (⟨(some 12), .call 37 [(.tmp 7), (.tmp 11)], none⟩, .loud),
    (⟨(some 2), .mv (.tmp 12), none⟩, .still)])
  (.ret)), none⟩
set_option maxRecDepth 100000 in
theorem comp_12 : compFunc Tryz.prog 4 Tryz.f12 = some F12 := by kernel_rfl
theorem in_12 : F12.body.within F12.ntmps = true := by kernel_rfl

/-- '(*hostler/world.World).Idle' -/
def F13 : AFunc := ⟨8, [.tmp 2],
  .seq (.region [
    ⟨(some 2), .mv (.const .nilptr), none⟩])
  (.seq (.region [
    ⟨(some 3), .mv (.tmp 0), none⟩,
    ⟨(some 4), .nilCheck (.tmp 3), none⟩,
    ⟨(some 5), .fieldAddr 12 (.tmp 4), none⟩,
    ⟨(some 6), .load1 (.tmp 5), none⟩,
    ⟨(some 7), .call 38 [(.tmp 6)], none⟩,
    ⟨(some 2), .mv (.tmp 7), none⟩])
  (.ret)), none⟩
set_option maxRecDepth 100000 in
theorem comp_13 : compFunc Tryz.prog 4 Tryz.f13 = some F13 := by kernel_rfl
theorem in_13 : F13.body.within F13.ntmps = true := by kernel_rfl

/-- '(*hostler/idle.Idle).CountP' -/
def F14 : AFunc := ⟨8, [.tmp 2],
  .seq (.region [
    ⟨(some 2), .mv (.const (.int .i64 0)), none⟩])
  (.seq (.region [
    ⟨(some 3), .mv (.tmp 0), none⟩,
    ⟨(some 4), .nilCheck (.tmp 3), none⟩,
    ⟨(some 5), .fieldAddr 0 (.tmp 4), none⟩,
    ⟨(some 6), .load1 (.tmp 5), none⟩,
    ⟨(some 7), .call 39 [(.tmp 6)], none⟩,
    ⟨(some 2), .mv (.tmp 7), none⟩])
  (.ret)), none⟩
set_option maxRecDepth 100000 in
theorem comp_14 : compFunc Tryz.prog 4 Tryz.f14 = some F14 := by kernel_rfl
theorem in_14 : F14.body.within F14.ntmps = true := by kernel_rfl

/-- '(*hostler/world.World).Config' -/
def F16 : AFunc := ⟨7, [.cellN 2 3],
  .seq (.region [
    ⟨(some 2), .alloc [(.int .i64 0), (.int .i64 0), (.int .i64 0)], none⟩])
  (.seq (.region [
    ⟨(some 3), .mv (.tmp 0), none⟩,
    ⟨(some 4), .nilCheck (.tmp 3), none⟩,
    ⟨(some 5), .fieldAddr 0 (.tmp 4), none⟩,
    ⟨(some 6), .loadN 3 (.tmp 5), none⟩,
    ⟨none, .store 3 (.tmp 2) (.tmp 6), none⟩])
  (.ret)), none⟩
set_option maxRecDepth 100000 in
theorem comp_16 : compFunc Tryz.prog 4 Tryz.f16 = some F16 := by kernel_rfl
theorem in_16 : F16.body.within F16.ntmps = true := by kernel_rfl

/-- 'hostler/world.New' -/
def F20 : AFunc := ⟨148, [.tmp 2, .tmp 3],
  .seq (.region [
    ⟨(some 1), .box (.tmp 0), none⟩,
    ⟨(some 2), .mv (.const .nilptr), none⟩,
    ⟨(some 3), .mv (.const (.int .i64 0)), none⟩])
  (.seq (.seq (.region [
    ⟨(some 7), .loadN 3 (.tmp 1), none⟩,
    ⟨(some 8), .call 45 [(.tmp 7)], none⟩,
    ⟨(some 9), .un .not (.tmp 8), none⟩])
  (.cond (.tmp 9)
    (.seq (.region [
      ⟨(some 2), .mv (.const .nilptr), none⟩,
      ⟨(some 3), .mv (.const (.int .i64 1)), none⟩])
    (.ret))
    (.skip)))
  (.seq (.seq (.region [
    ⟨(some 17), .mv (.const (.tuple [])), none⟩,
    ⟨(some 20), .mv (.const (.tuple [])), none⟩])
  (.seq (.draw [
    (⟨(some 10), .loadN 3 (.tmp 1), none⟩, .reads 0 3),
    (⟨(some 11), .fieldAddr 0 (.tmp 1), none⟩, .still),
    (⟨(some 12), .load1 (.tmp 11), none⟩, .reads 0 3),
    (⟨(some 13), .bin .add (.tmp 12) (.const (.int .i64 2)), none⟩, .still),
    (⟨(some 14), .bin .mul (.const (.int .i64 2)) (.tmp 13), none⟩, .still),
    (⟨(some 15), .fieldAddr 0 (.tmp 1), none⟩, .still),
    (⟨(some 16), .load1 (.tmp 15), none⟩, .reads 0 3),
    (⟨(some 17), .mv (.const (.tuple [])), none⟩, .still),
    (⟨(some 18), .fieldAddr 1 (.tmp 1), none⟩, .still),
    (⟨(some 19), .load1 (.tmp 18), none⟩, .reads 0 3),
    (⟨(some 20), .mv (.const (.tuple [])), none⟩, .still),
    (⟨(some 21), .fieldAddr 0 (.tmp 1), none⟩, .still),
    (⟨(some 22), .load1 (.tmp 21), none⟩, .reads 0 0),
    (⟨(some 23), .call 46 [(.tmp 22)], none⟩, .loud),
    (⟨(some 24), .fieldAddr 0 (.tmp 1), none⟩, .still),
    (⟨(some 25), .load1 (.tmp 24), none⟩, .reads 0 1),
    (⟨(some 26), .call 47 [(.tmp 25)], none⟩, .loud),
    (⟨(some 27), .fieldAddr 0 (.tmp 1), none⟩, .still),
    (⟨(some 28), .load1 (.tmp 27), none⟩, .reads 0 2),
    (⟨(some 29), .fieldAddr 1 (.tmp 1), none⟩, .still),
    (⟨(some 30), .load1 (.tmp 29), none⟩, .reads 0 2),
    (⟨(some 31), .call 48 [(.tmp 28), (.tmp 30)], none⟩, .loud),
    (⟨none, .mv (.const (.tuple [])), none⟩, .still),
    (⟨none, .mv (.const (.tuple [])), none⟩, .still),
    (⟨none, .mv (.const (.tuple [])), none⟩, .still)])
  (.region [
    ⟨(some 17), .mkslice 1 8 [(.int .i64 0)] (.tmp 16) (.tmp 16), none⟩,
    ⟨(some 20), .mkslice 1 1 [(.bool false)] (.tmp 19) (.tmp 19), none⟩,
    ⟨none, .lenS (.tmp 17), none⟩,
    ⟨none, .lenS (.tmp 20), none⟩,
    ⟨(some 32), .build [(.int .i64 0), (.int .i64 0), (.int .i64 0), .nilptr, (.int .i64 0), (.int .i64 0), (.int .i64 0), (.int .i64 0), .nilslice, .nilslice, .nilptr, .nilptr, .nilptr, .nilslice, .nilslice, .nilslice] [((0, 3), (.tmp 10)), ((4, 1), (.tmp 14)), ((9, 1), (.tmp 17)), ((14, 1), (.tmp 20)), ((10, 1), (.tmp 23)), ((11, 1), (.tmp 26)), ((12, 1), (.tmp 31))], none⟩,
    ⟨(some 33), .box (.tmp 32), none⟩,
    ⟨(some 4), .mv (.tmp 33), none⟩])))
  (.seq (.region [
    ⟨(some 34), .mv (.tmp 4), none⟩,
    ⟨(some 35), .mv (.tmp 4), none⟩,
    ⟨(some 36), .nilCheck (.tmp 35), none⟩,
    ⟨(some 37), .fieldAddr 4 (.tmp 36), none⟩,
    ⟨(some 38), .load1 (.tmp 37), none⟩,
    ⟨(some 39), .bin .add (.tmp 38) (.const (.int .i64 1)), none⟩,
    ⟨(some 40), .nilCheck (.tmp 34), none⟩,
    ⟨(some 41), .fieldAddr 5 (.tmp 40), none⟩,
    ⟨none, .store 1 (.tmp 41) (.tmp 39), none⟩])
  (.seq (.draw [
    (⟨(some 42), .mv (.tmp 4), none⟩, .still),
    (⟨(some 43), .mv (.tmp 4), none⟩, .still),
    (⟨(some 44), .nilCheck (.tmp 43), none⟩, .still),
    (⟨(some 45), .fieldAddr 5 (.tmp 44), none⟩, .still),
    (⟨(some 46), .load1 (.tmp 45), none⟩, .reads 0 0),
    (⟨(some 47), .fieldAddr 1 (.tmp 1), none⟩, .still),
    (⟨(some 48), .load1 (.tmp 47), none⟩, .reads 0 0),
    (⟨(some 49), .bin .add (.tmp 46) (.tmp 48), none⟩, .still),
    (⟨(some 50), .fieldAddr 2 (.tmp 1), none⟩, .still),
    (⟨(some 51), .load1 (.tmp 50), none⟩, .reads 0 0),
    (⟨(some 52), .build [(.int .i64 0), (.int .i64 0)] [((0, 1), (.tmp 49)), ((1, 1), (.tmp 51))], none⟩, .still),
    (⟨(some 53), .nilCheck (.tmp 42), none⟩, .still),
    (⟨(some 54), .fieldAddr 6 (.tmp 53), none⟩, .still),
    (⟨none, .store 2 (.tmp 54) (.tmp 52), none⟩, .loud)])
  (.seq (.draw [
    (⟨(some 55), .mv (.tmp 4), none⟩, .still),
    (⟨(some 56), .mv (.tmp 4), none⟩, .still),
    (⟨(some 57), .nilCheck (.tmp 56), none⟩, .still),
    (⟨(some 58), .fieldAddr 6 (.tmp 57), none⟩, .still),
    (⟨(some 59), .fieldAddr 0 (.tmp 58), none⟩, .still),
    (⟨(some 60), .load1 (.tmp 59), none⟩, .reads 0 0),
    (⟨(some 61), .fieldAddr 2 (.tmp 1), none⟩, .still),
    (⟨(some 62), .load1 (.tmp 61), none⟩, .reads 0 0),
    (⟨(some 63), .bin .add (.tmp 60) (.tmp 62), none⟩, .still),
    (⟨(some 64), .call 49 [(.tmp 63)], none⟩, .loud),
    (⟨(some 65), .nilCheck (.tmp 55), none⟩, .still),
    (⟨(some 66), .fieldAddr 3 (.tmp 65), none⟩, .still),
    (⟨none, .store 1 (.tmp 66) (.tmp 64), none⟩, .loud)])
  (.seq (.seq (.region [
    ⟨(some 67), .fieldAddr 0 (.tmp 1), none⟩,
    ⟨(some 68), .load1 (.tmp 67), none⟩,
    ⟨(some 69), .mv (.const (.int .i64 0)), none⟩])
  (.block 0 (.loop (.seq (.region [
      ⟨(some 70), .bin .lss (.tmp 69) (.tmp 68), none⟩])
    (.seq (.cond (.tmp 70)
      (.skip)
      (.exit 0))
    (.seq (.block 1 (.seq (.region [
      ⟨(some 71), .mv (.tmp 69), none⟩,
      ⟨(some 5), .mv (.tmp 71), none⟩])
    (.seq (.draw [
      (⟨(some 72), .mv (.tmp 4), none⟩, .still),
      (⟨(some 73), .mv (.tmp 4), none⟩, .still),
      (⟨(some 74), .nilCheck (.tmp 73), none⟩, .still),
      (⟨(some 75), .fieldAddr 8 (.tmp 74), none⟩, .still),
      (⟨(some 76), .load1 (.tmp 75), none⟩, .reads 0 2),
      (⟨(some 77), .call 50 [], none⟩, .loud),
      (⟨(some 78), .buildSlice [.nilptr] 1 [((0, 1), (.tmp 77))], none⟩, .loud),
      (⟨(some 79), .append 1 8 [.nilptr] (.tmp 76) (.tmp 78), none⟩, .loud),
      (⟨(some 80), .nilCheck (.tmp 72), none⟩, .still),
      (⟨(some 81), .fieldAddr 8 (.tmp 80), none⟩, .still),
      (⟨none, .store 1 (.tmp 81) (.tmp 79), none⟩, .loud)])
    (.seq (.region [
      ⟨(some 82), .mv (.tmp 5), none⟩,
      ⟨(some 83), .bin .gtr (.tmp 82) (.const (.int .i64 0)), none⟩])
    (.cond (.tmp 83)
      (.region [
        ⟨(some 84), .mv (.tmp 4), none⟩,
        ⟨(some 85), .nilCheck (.tmp 84), none⟩,
        ⟨(some 86), .fieldAddr 12 (.tmp 85), none⟩,
        ⟨(some 87), .load1 (.tmp 86), none⟩,
        ⟨(some 88), .mv (.tmp 5), none⟩,
        ⟨(some 89), .call 51 [(.tmp 87), (.tmp 88)], none⟩])
      (.skip))))))
    (.region [
      ⟨(some 90), .bin .add (.tmp 69) (.const (.int .i64 1)), none⟩,
      ⟨(some 69), .mv (.tmp 90), none⟩])))))))
  (.seq (.seq (.region [
    ⟨(some 91), .fieldAddr 1 (.tmp 1), none⟩,
    ⟨(some 92), .load1 (.tmp 91), none⟩,
    ⟨(some 93), .mv (.const (.int .i64 0)), none⟩])
  (.block 2 (.loop (.seq (.region [
      ⟨(some 94), .bin .lss (.tmp 93) (.tmp 92), none⟩])
    (.seq (.cond (.tmp 94)
      (.skip)
      (.exit 2))
    (.seq (.block 3 (.seq (.region [
      ⟨(some 95), .mv (.tmp 93), none⟩,
      ⟨(some 6), .mv (.tmp 95), none⟩])
    (.seq (.draw [
      (⟨(some 96), .mv (.tmp 4), none⟩, .still),
      (⟨(some 97), .mv (.tmp 4), none⟩, .still),
      (⟨(some 98), .nilCheck (.tmp 97), none⟩, .still),
      (⟨(some 99), .fieldAddr 13 (.tmp 98), none⟩, .still),
      (⟨(some 100), .load1 (.tmp 99), none⟩, .reads 0 2),
      (⟨(some 101), .call 52 [], none⟩, .loud),
      (⟨(some 102), .buildSlice [(.int .i64 0), (.int .i64 0), (.int .i64 0), (.int .i64 0), (.int .i64 0), (.int .i64 0), (.int .i64 0), (.bool false), (.bool false), .nilslice, (.int .i64 0), (.int .i64 0), (.int .i64 0), (.int .i64 0), (.int .i64 0), (.int .i64 0), (.int .u64 0), (.int .i64 0)] 1 [((0, 18), (.tmp 101))], none⟩, .loud),
      (⟨(some 103), .append 18 152 [(.int .i64 0), (.int .i64 0), (.int .i64 0), (.int .i64 0), (.int .i64 0), (.int .i64 0), (.int .i64 0), (.bool false), (.bool false), .nilslice, (.int .i64 0), (.int .i64 0), (.int .i64 0), (.int .i64 0), (.int .i64 0), (.int .i64 0), (.int .u64 0), (.int .i64 0)] (.tmp 100) (.tmp 102), none⟩, .loud),
      (⟨(some 104), .nilCheck (.tmp 96), none⟩, .still),
      (⟨(some 105), .fieldAddr 13 (.tmp 104), none⟩, .still),
      (⟨none, .store 1 (.tmp 105) (.tmp 103), none⟩, .loud)])
    (.seq (.region [
      ⟨(some 106), .mv (.tmp 6), none⟩,
      ⟨(some 107), .bin .gtr (.tmp 106) (.const (.int .i64 0)), none⟩])
    (.cond (.tmp 107)
      (.region [
        ⟨(some 108), .mv (.tmp 4), none⟩,
        ⟨(some 109), .nilCheck (.tmp 108), none⟩,
        ⟨(some 110), .fieldAddr 12 (.tmp 109), none⟩,
        ⟨(some 111), .load1 (.tmp 110), none⟩,
        ⟨(some 112), .mv (.tmp 6), none⟩,
        ⟨(some 113), .call 53 [(.tmp 111), (.tmp 112)], none⟩])
      (.skip))))))
    (.region [
      ⟨(some 114), .bin .add (.tmp 93) (.const (.int .i64 1)), none⟩,
      ⟨(some 93), .mv (.tmp 114), none⟩])))))))
  (.seq (.draw [
    (⟨(some 115), .mv (.tmp 4), none⟩, .still),
    (⟨(some 116), .nilCheck (.tmp 115), none⟩, .still),
    (⟨(some 117), .fieldAddr 13 (.tmp 116), none⟩, .still),
    (⟨(some 118), .load1 (.tmp 117), none⟩, .reads 0 0),
    (⟨(some 119), .mv (.tmp 4), none⟩, .still),
    (⟨(some 120), .nilCheck (.tmp 119), none⟩, .still),
    (⟨(some 121), .fieldAddr 13 (.tmp 120), none⟩, .still),
    (⟨(some 122), .load1 (.tmp 121), none⟩, .reads 0 0),
    (⟨(some 123), .idxAddr 18 none (.tmp 118) (.const (.int .i64 0)), none⟩, .still),
    (⟨(some 124), .fieldAddr 0 (.tmp 123), none⟩, .still),
    (⟨none, .store 1 (.tmp 124) (.const (.int .i64 1)), none⟩, .loud),
    (⟨(some 125), .idxAddr 18 none (.tmp 122) (.const (.int .i64 0)), none⟩, .still),
    (⟨(some 126), .fieldAddr 1 (.tmp 125), none⟩, .still),
    (⟨none, .store 1 (.tmp 126) (.const (.int .i64 0)), none⟩, .loud)])
  (.seq (.draw [
    (⟨(some 127), .mv (.tmp 4), none⟩, .still),
    (⟨(some 128), .nilCheck (.tmp 127), none⟩, .still),
    (⟨(some 129), .fieldAddr 6 (.tmp 128), none⟩, .still),
    (⟨(some 130), .loadN 2 (.tmp 129), none⟩, .reads 0 0),
    (⟨(some 131), .mv (.tmp 4), none⟩, .still),
    (⟨(some 132), .nilCheck (.tmp 131), none⟩, .still),
    (⟨(some 133), .fieldAddr 3 (.tmp 132), none⟩, .still),
    (⟨(some 134), .load1 (.tmp 133), none⟩, .reads 0 0),
    (⟨(some 135), .call 54 [(.tmp 130), (.tmp 134), (.const (.int .i64 0)), (.const (.int .u64 0)), (.const (.int .u64 1))], none⟩, .loud)])
  (.seq (.region [
    ⟨(some 136), .mv (.tmp 4), none⟩,
    ⟨(some 137), .nilCheck (.tmp 136), none⟩,
    ⟨(some 138), .fieldAddr 15 (.tmp 137), none⟩,
    ⟨(some 139), .build [(.int .i64 0), (.int .i64 0), (.int .i64 0), (.int .i64 0), (.int .i64 0)] [((0, 1), (.const (.int .i64 0))), ((2, 1), (.const (.int .i64 (-1)))), ((3, 1), (.const (.int .i64 (-1))))], none⟩,
    ⟨(some 140), .call 55 [(.tmp 138), (.tmp 139)], none⟩])
  (.seq (.region [
    ⟨(some 141), .mv (.tmp 4), none⟩,
    ⟨(some 142), .nilCheck (.tmp 141), none⟩,
    ⟨(some 143), .fieldAddr 10 (.tmp 142), none⟩,
    ⟨(some 144), .load1 (.tmp 143), none⟩,
    ⟨(some 145), .buildSlice [(.int .i64 0)] 1 [((0, 1), (.const (.int .i64 0)))], none⟩,
    ⟨(some 146), .call 56 [(.tmp 144), (.tmp 145)], none⟩])
  (.seq (.region [
    ⟨(some 147), .mv (.tmp 4), none⟩,
    ⟨(some 2), .mv (.tmp 147), none⟩,
    ⟨(some 3), .mv (.const (.int .i64 0)), none⟩])
  (.ret))))))))))))), none⟩
set_option maxRecDepth 100000 in
theorem comp_20 : compFunc Tryz.prog 4 Tryz.f20 = some F20 := by kernel_rfl
theorem in_20 : F20.body.within F20.ntmps = true := by kernel_rfl

/-- 'hostler/bound.Settle' -/
def F21 : AFunc := ⟨17, [.tmp 2, .tmp 3],
  .seq (.region [
    ⟨(some 2), .mv (.const (.int .i64 0)), none⟩,
    ⟨(some 3), .mv (.const (.bool false)), none⟩])
  (.seq (.region [
    ⟨(some 6), .mv (.tmp 0), none⟩,
    ⟨(some 7), .build [(.int .u8 0), (.int .i64 0)] [], none⟩,
    ⟨(some 8), .call 57 [(.tmp 6), (.tmp 7)], none⟩,
    ⟨(some 4), .mv (.tmp 8), none⟩])
  (.seq (.region [
    ⟨(some 9), .mv (.tmp 4), none⟩,
    ⟨(some 10), .mv (.tmp 0), none⟩,
    ⟨(some 11), .call 16 [(.tmp 10)], none⟩,
    ⟨(some 12), .call 27 [(.tmp 11)], none⟩,
    ⟨(some 13), .call 58 [(.tmp 9), (.tmp 12)], none⟩,
    ⟨(some 5), .mv (.tmp 13), none⟩])
  (.seq (.region [
    ⟨(some 14), .mv (.tmp 4), none⟩,
    ⟨(some 15), .call 59 [(.tmp 14)], none⟩,
    ⟨(some 16), .mv (.tmp 5), none⟩,
    ⟨(some 2), .mv (.tmp 15), none⟩,
    ⟨(some 3), .mv (.tmp 16), none⟩])
  (.ret)))), none⟩
set_option maxRecDepth 100000 in
theorem comp_21 : compFunc Tryz.prog 4 Tryz.f21 = some F21 := by kernel_rfl
theorem in_21 : F21.body.within F21.ntmps = true := by kernel_rfl

/-- '(*hostler/world.World).Machine' -/
def F22 : AFunc := ⟨25, [.cellN 4 18],
  .seq (.region [
    ⟨(some 4), .alloc [(.int .i64 0), (.int .i64 0), (.int .i64 0), (.int .i64 0), (.int .i64 0), (.int .i64 0), (.int .i64 0), (.bool false), (.bool false), .nilslice, (.int .i64 0), (.int .i64 0), (.int .i64 0), (.int .i64 0), (.int .i64 0), (.int .i64 0), (.int .u64 0), (.int .i64 0)], none⟩])
  (.seq (.seq (.region [
    ⟨(some 5), .mv (.tmp 1), none⟩,
    ⟨(some 6), .bin .lss (.tmp 5) (.const (.int .i64 0)), none⟩,
    ⟨(some 7), .mv (.tmp 6), none⟩,
    ⟨(some 8), .mv (.tmp 1), (some (7, false))⟩,
    ⟨(some 9), .mv (.tmp 0), (some (7, false))⟩,
    ⟨(some 10), .nilCheck (.tmp 9), (some (7, false))⟩,
    ⟨(some 11), .fieldAddr 0 (.tmp 10), (some (7, false))⟩,
    ⟨(some 12), .fieldAddr 1 (.tmp 11), (some (7, false))⟩,
    ⟨(some 13), .load1 (.tmp 12), (some (7, false))⟩,
    ⟨(some 14), .bin .geq (.tmp 8) (.tmp 13), (some (7, false))⟩,
    ⟨(some 15), .pick (.tmp 7) (.const (.bool true)) (.tmp 14), none⟩])
  (.cond (.tmp 15)
    (.seq (.region [
      ⟨(some 16), .call 52 [], none⟩,
      ⟨none, .store 18 (.tmp 4) (.tmp 16), none⟩])
    (.ret))
    (.skip)))
  (.seq (.region [
    ⟨(some 17), .mv (.tmp 0), none⟩,
    ⟨(some 18), .nilCheck (.tmp 17), none⟩,
    ⟨(some 19), .fieldAddr 13 (.tmp 18), none⟩,
    ⟨(some 20), .load1 (.tmp 19), none⟩,
    ⟨(some 21), .mv (.tmp 1), none⟩,
    ⟨(some 22), .idxAddr 18 none (.tmp 20) (.tmp 21), none⟩,
    ⟨(some 23), .loadN 18 (.tmp 22), none⟩,
    ⟨(some 24), .call 60 [(.tmp 23)], none⟩,
    ⟨none, .store 18 (.tmp 4) (.tmp 24), none⟩])
  (.ret))), none⟩
set_option maxRecDepth 100000 in
theorem comp_22 : compFunc Tryz.prog 4 Tryz.f22 = some F22 := by kernel_rfl
theorem in_22 : F22.body.within F22.ntmps = true := by kernel_rfl

/-- '(*hostler/world.World).Status' -/
def F23 : AFunc := ⟨16, [.tmp 4],
  .seq (.region [
    ⟨(some 4), .mv (.const (.int .u64 0)), none⟩])
  (.seq (.draw [
    (⟨(some 5), .mv (.tmp 0), none⟩, .still),
    (⟨(some 6), .nilCheck (.tmp 5), none⟩, .still),
    (⟨(some 7), .fieldAddr 6 (.tmp 6), none⟩, .still),
    (⟨(some 8), .loadN 2 (.tmp 7), none⟩, .reads 0 1),
    (⟨(some 9), .mv (.tmp 0), none⟩, .still),
    (⟨(some 10), .nilCheck (.tmp 9), none⟩, .still),
    (⟨(some 11), .fieldAddr 3 (.tmp 10), none⟩, .still),
    (⟨(some 12), .load1 (.tmp 11), none⟩, .reads 0 0),
    (⟨(some 13), .call 36 [(.tmp 12)], none⟩, .loud),
    (⟨(some 14), .mv (.tmp 1), none⟩, .still),
    (⟨(some 15), .call 61 [(.tmp 8), (.tmp 13), (.tmp 14)], none⟩, .loud),
    (⟨(some 4), .mv (.tmp 15), none⟩, .still)])
  (.ret)), none⟩
set_option maxRecDepth 100000 in
theorem comp_23 : compFunc Tryz.prog 4 Tryz.f23 = some F23 := by kernel_rfl
theorem in_23 : F23.body.within F23.ntmps = true := by kernel_rfl

/-- 'hostler/bound.B' -/
def F27 : AFunc := ⟨21, [.tmp 2],
  .seq (.region [
    ⟨(some 1), .box (.tmp 0), none⟩,
    ⟨(some 2), .mv (.const (.int .i64 0)), none⟩])
  (.seq (.seq (.region [
    ⟨(some 3), .loadN 3 (.tmp 1), none⟩,
    ⟨(some 4), .call 64 [(.tmp 3)], none⟩,
    ⟨(some 5), .un .not (.tmp 4), none⟩])
  (.cond (.tmp 5)
    (.seq (.region [
      ⟨(some 2), .mv (.const (.int .i64 0)), none⟩])
    (.ret))
    (.skip)))
  (.seq (.region [
    ⟨(some 6), .fieldAddr 1 (.tmp 1), none⟩,
    ⟨(some 7), .load1 (.tmp 6), none⟩,
    ⟨(some 8), .bin .add (.tmp 7) (.const (.int .i64 4)), none⟩,
    ⟨(some 9), .bin .mul (.const (.int .i64 64)) (.tmp 8), none⟩,
    ⟨(some 10), .fieldAddr 0 (.tmp 1), none⟩,
    ⟨(some 11), .load1 (.tmp 10), none⟩,
    ⟨(some 12), .bin .add (.tmp 11) (.const (.int .i64 8)), none⟩,
    ⟨(some 13), .fieldAddr 0 (.tmp 1), none⟩,
    ⟨(some 14), .load1 (.tmp 13), none⟩,
    ⟨(some 15), .bin .add (.tmp 14) (.const (.int .i64 8)), none⟩,
    ⟨(some 16), .bin .mul (.tmp 12) (.tmp 15), none⟩,
    ⟨(some 17), .fieldAddr 2 (.tmp 1), none⟩,
    ⟨(some 18), .load1 (.tmp 17), none⟩,
    ⟨(some 19), .bin .add (.tmp 16) (.tmp 18), none⟩,
    ⟨(some 20), .bin .mul (.tmp 9) (.tmp 19), none⟩,
    ⟨(some 2), .mv (.tmp 20), none⟩])
  (.ret))), none⟩
set_option maxRecDepth 100000 in
theorem comp_27 : compFunc Tryz.prog 4 Tryz.f27 = some F27 := by kernel_rfl
theorem in_27 : F27.body.within F27.ntmps = true := by kernel_rfl

/-- 'hostler/quiet.Check' -/
def F28 : AFunc := ⟨69, [.tmp 2],
  .seq (.region [
    ⟨(some 2), .mv (.const .nilslice), none⟩])
  (.seq (.seq (.region [
    ⟨(some 10), .mv (.tmp 0), none⟩,
    ⟨(some 11), .call 11 [(.tmp 10)], none⟩,
    ⟨(some 12), .un .not (.tmp 11), none⟩])
  (.cond (.tmp 12)
    (.seq (.region [
      ⟨(some 13), .buildSlice [(.int .i64 0)] 1 [((0, 1), (.const (.int .i64 0)))], none⟩,
      ⟨(some 2), .mv (.tmp 13), none⟩])
    (.ret))
    (.skip)))
  (.seq (.region [
    ⟨(some 14), .mv (.tmp 0), none⟩,
    ⟨(some 15), .call 13 [(.tmp 14)], none⟩,
    ⟨(some 3), .mv (.tmp 15), none⟩])
  (.seq (.region [
    ⟨(some 16), .mv (.tmp 3), none⟩,
    ⟨(some 17), .call 14 [(.tmp 16)], none⟩,
    ⟨(some 18), .bin .gtr (.tmp 17) (.const (.int .i64 0)), none⟩,
    ⟨(some 4), .mv (.tmp 18), none⟩])
  (.seq (.region [
    ⟨(some 20), .mv (.tmp 3), none⟩,
    ⟨(some 21), .call 65 [(.tmp 20)], none⟩,
    ⟨(some 19), .mv (.tmp 21), none⟩,
    ⟨(some 22), .extract 0 (.tmp 19), none⟩,
    ⟨(some 23), .extract 1 (.tmp 19), none⟩,
    ⟨(some 5), .mv (.tmp 22), none⟩,
    ⟨(some 6), .mv (.tmp 23), none⟩])
  (.seq (.region [
    ⟨(some 7), .mv (.const .nilslice), none⟩])
  (.seq (.seq (.region [
    ⟨(some 24), .mv (.tmp 0), none⟩,
    ⟨(some 25), .call 12 [(.tmp 24)], none⟩,
    ⟨(some 26), .bin .neq (.tmp 25) (.const (.int .u64 0)), none⟩,
    ⟨(some 27), .build [(.bool false), (.int .i64 0)] [((0, 1), (.tmp 26)), ((1, 1), (.const (.int .i64 1)))], none⟩,
    ⟨(some 28), .mv (.tmp 3), none⟩,
    ⟨(some 29), .call 66 [(.tmp 28)], none⟩,
    ⟨(some 30), .bin .gtr (.tmp 29) (.const (.int .i64 0)), none⟩,
    ⟨(some 31), .build [(.bool false), (.int .i64 0)] [((0, 1), (.tmp 30)), ((1, 1), (.const (.int .i64 2)))], none⟩,
    ⟨(some 32), .mv (.tmp 4), none⟩,
    ⟨(some 33), .mv (.tmp 32), none⟩,
    ⟨(some 34), .mv (.tmp 0), (some (33, true))⟩,
    ⟨(some 35), .call 67 [(.tmp 34)], (some (33, true))⟩,
    ⟨(some 36), .pick (.tmp 33) (.tmp 35) (.const (.bool false)), none⟩,
    ⟨(some 37), .build [(.bool false), (.int .i64 0)] [((0, 1), (.tmp 36)), ((1, 1), (.const (.int .i64 3)))], none⟩,
    ⟨(some 38), .mv (.tmp 4), none⟩,
    ⟨(some 39), .mv (.tmp 38), none⟩,
    ⟨(some 40), .mv (.tmp 0), (some (39, true))⟩,
    ⟨(some 41), .call 18 [(.tmp 40)], (some (39, true))⟩,
    ⟨(some 42), .call 19 [(.tmp 41)], (some (39, true))⟩,
    ⟨(some 43), .pick (.tmp 39) (.tmp 42) (.const (.bool false)), none⟩,
    ⟨(some 44), .build [(.bool false), (.int .i64 0)] [((0, 1), (.tmp 43)), ((1, 1), (.const (.int .i64 4)))], none⟩,
    ⟨(some 45), .mv (.tmp 4), none⟩,
    ⟨(some 46), .mv (.tmp 45), none⟩,
    ⟨(some 47), .mv (.tmp 6), (some (46, true))⟩,
    ⟨(some 48), .un .not (.tmp 47), (some (46, true))⟩,
    ⟨(some 49), .pick (.tmp 46) (.tmp 48) (.const (.bool false)), none⟩,
    ⟨(some 50), .build [(.bool false), (.int .i64 0)] [((0, 1), (.tmp 49)), ((1, 1), (.const (.int .i64 5)))], none⟩,
    ⟨(some 51), .mv (.tmp 0), none⟩,
    ⟨(some 52), .call 68 [(.tmp 51)], none⟩,
    ⟨(some 53), .build [(.bool false), (.int .i64 0)] [((0, 1), (.tmp 52)), ((1, 1), (.const (.int .i64 6)))], none⟩,
    ⟨(some 54), .buildSlice [(.bool false), (.int .i64 0), (.bool false), (.int .i64 0), (.bool false), (.int .i64 0), (.bool false), (.int .i64 0), (.bool false), (.int .i64 0), (.bool false), (.int .i64 0)] 6 [((0, 2), (.tmp 27)), ((2, 2), (.tmp 31)), ((4, 2), (.tmp 37)), ((6, 2), (.tmp 44)), ((8, 2), (.tmp 50)), ((10, 2), (.tmp 53))], none⟩,
    ⟨(some 55), .lenS (.tmp 54), none⟩,
    ⟨(some 56), .mv (.const (.int .i64 0)), none⟩])
  (.block 0 (.loop (.seq (.region [
      ⟨(some 57), .bin .lss (.tmp 56) (.tmp 55), none⟩])
    (.seq (.cond (.tmp 57)
      (.skip)
      (.exit 0))
    (.seq (.block 1 (.seq (.region [
      ⟨(some 58), .idxAddr 2 none (.tmp 54) (.tmp 56), none⟩,
      ⟨(some 59), .loadN 2 (.tmp 58), none⟩,
      ⟨(some 9), .alloc [(.bool false), (.int .i64 0)], none⟩,
      ⟨none, .store 2 (.tmp 9) (.tmp 59), none⟩])
    (.seq (.region [
      ⟨(some 60), .fieldAddr 0 (.tmp 9), none⟩,
      ⟨(some 61), .load1 (.tmp 60), none⟩])
    (.cond (.tmp 61)
      (.region [
        ⟨(some 62), .mv (.tmp 7), none⟩,
        ⟨(some 63), .fieldAddr 1 (.tmp 9), none⟩,
        ⟨(some 64), .load1 (.tmp 63), none⟩,
        ⟨(some 65), .buildSlice [(.int .i64 0)] 1 [((0, 1), (.tmp 64))], none⟩,
        ⟨(some 66), .append 1 8 [(.int .i64 0)] (.tmp 62) (.tmp 65), none⟩,
        ⟨(some 7), .mv (.tmp 66), none⟩])
      (.skip)))))
    (.region [
      ⟨(some 67), .bin .add (.tmp 56) (.const (.int .i64 1)), none⟩,
      ⟨(some 56), .mv (.tmp 67), none⟩])))))))
  (.seq (.region [
    ⟨(some 68), .mv (.tmp 7), none⟩,
    ⟨(some 2), .mv (.tmp 68), none⟩])
  (.ret)))))))), none⟩
set_option maxRecDepth 100000 in
theorem comp_28 : compFunc Tryz.prog 4 Tryz.f28 = some F28 := by kernel_rfl
theorem in_28 : F28.body.within F28.ntmps = true := by kernel_rfl

/-- 'hostler/hostlerlaw20.Lives' -/
def F29 : AFunc := ⟨42, [.tmp 0],
  .seq (.region [
    ⟨(some 0), .mv (.const (.bool false)), none⟩])
  (.seq (.region [
    ⟨(some 4), .build [(.int .i64 0), (.int .i64 0), (.int .i64 0)] [((0, 1), (.const (.int .i64 1))), ((1, 1), (.const (.int .i64 1))), ((2, 1), (.const (.int .i64 1)))], none⟩,
    ⟨(some 5), .call 20 [(.tmp 4)], none⟩,
    ⟨(some 3), .mv (.tmp 5), none⟩,
    ⟨(some 6), .extract 0 (.tmp 3), none⟩,
    ⟨(some 7), .extract 1 (.tmp 3), none⟩,
    ⟨(some 1), .mv (.tmp 6), none⟩,
    ⟨(some 2), .mv (.tmp 7), none⟩])
  (.seq (.seq (.region [
    ⟨(some 8), .mv (.tmp 2), none⟩,
    ⟨(some 9), .bin .neq (.tmp 8) (.const (.int .i64 0)), none⟩,
    ⟨(some 10), .mv (.tmp 9), none⟩,
    ⟨(some 11), .mv (.tmp 1), (some (10, false))⟩,
    ⟨(some 12), .cmpNil false 0 (.tmp 11) (.const .nilptr), (some (10, false))⟩,
    ⟨(some 13), .pick (.tmp 10) (.const (.bool true)) (.tmp 12), none⟩])
  (.cond (.tmp 13)
    (.seq (.region [
      ⟨(some 0), .mv (.const (.bool false)), none⟩])
    (.ret))
    (.skip)))
  (.seq (.seq (.region [
    ⟨(some 14), .mv (.const (.int .i64 0)), none⟩])
  (.block 0 (.loop (.seq (.region [
      ⟨(some 15), .bin .lss (.tmp 14) (.const (.int .i64 10)), none⟩])
    (.seq (.cond (.tmp 15)
      (.skip)
      (.exit 0))
    (.seq (.block 1 (.seq (.region [
      ⟨(some 16), .mv (.tmp 1), none⟩,
      ⟨(some 17), .build [(.int .u8 0), (.int .u8 0), (.int .i64 0), (.int .i64 0), (.int .i64 0)] [], none⟩,
      ⟨(some 18), .call 10 [(.tmp 16), (.tmp 17)], none⟩,
      ⟨(some 19), .un .not (.tmp 18), none⟩])
    (.cond (.tmp 19)
      (.seq (.region [
        ⟨(some 0), .mv (.const (.bool false)), none⟩])
      (.ret))
      (.skip))))
    (.region [
      ⟨(some 20), .bin .add (.tmp 14) (.const (.int .i64 1)), none⟩,
      ⟨(some 14), .mv (.tmp 20), none⟩])))))))
  (.seq (.region [
    ⟨(some 21), .mv (.tmp 1), none⟩,
    ⟨(some 22), .call 22 [(.tmp 21), (.const (.int .i64 0))], none⟩,
    ⟨(some 23), .field1 2 (.tmp 22), none⟩,
    ⟨(some 24), .bin .eql (.tmp 23) (.const (.int .i64 0)), none⟩,
    ⟨(some 25), .mv (.tmp 24), none⟩,
    ⟨(some 26), .mv (.tmp 1), (some (25, true))⟩,
    ⟨(some 27), .call 22 [(.tmp 26), (.const (.int .i64 0))], (some (25, true))⟩,
    ⟨(some 28), .field1 0 (.tmp 27), (some (25, true))⟩,
    ⟨(some 29), .bin .eql (.tmp 28) (.const (.int .i64 0)), (some (25, true))⟩,
    ⟨(some 30), .pick (.tmp 25) (.tmp 29) (.const (.bool false)), none⟩,
    ⟨(some 31), .mv (.tmp 30), none⟩,
    ⟨(some 32), .mv (.tmp 1), (some (31, true))⟩,
    ⟨(some 33), .call 23 [(.tmp 32), (.const (.int .i64 0))], (some (31, true))⟩,
    ⟨(some 34), .bin .eql (.tmp 33) (.const (.int .u64 2)), (some (31, true))⟩,
    ⟨(some 35), .pick (.tmp 31) (.tmp 34) (.const (.bool false)), none⟩,
    ⟨(some 36), .mv (.tmp 35), none⟩,
    ⟨(some 37), .mv (.tmp 1), (some (36, true))⟩,
    ⟨(some 38), .call 69 [(.tmp 37)], (some (36, true))⟩,
    ⟨(some 39), .lenS (.tmp 38), (some (36, true))⟩,
    ⟨(some 40), .bin .eql (.tmp 39) (.const (.int .i64 2)), (some (36, true))⟩,
    ⟨(some 41), .pick (.tmp 36) (.tmp 40) (.const (.bool false)), none⟩,
    ⟨(some 0), .mv (.tmp 41), none⟩])
  (.ret))))), none⟩
set_option maxRecDepth 100000 in
theorem comp_29 : compFunc Tryz.prog 4 Tryz.f29 = some F29 := by kernel_rfl
theorem in_29 : F29.body.within F29.ntmps = true := by kernel_rfl

/-- '(*hostler/world.World).pick' -/
def F31 : AFunc := ⟨64, [.tmp 4],
  .seq (.region [
    ⟨(some 3), .box (.tmp 1), none⟩,
    ⟨(some 4), .mv (.const (.bool false)), none⟩])
  (.seq (.seq (.draw [
    (⟨(some 7), .fieldAddr 2 (.tmp 3), none⟩, .still),
    (⟨(some 8), .load1 (.tmp 7), none⟩, .reads 0 0),
    (⟨(some 9), .bin .lss (.tmp 8) (.const (.int .i64 0)), none⟩, .still),
    (⟨(some 10), .mv (.tmp 9), none⟩, .still),
    (⟨(some 11), .fieldAddr 2 (.tmp 3), (some (10, false))⟩, .still),
    (⟨(some 12), .load1 (.tmp 11), (some (10, false))⟩, .reads 0 0),
    (⟨(some 13), .mv (.tmp 0), (some (10, false))⟩, .still),
    (⟨(some 14), .nilCheck (.tmp 13), (some (10, false))⟩, .still),
    (⟨(some 15), .fieldAddr 0 (.tmp 14), (some (10, false))⟩, .still),
    (⟨(some 16), .fieldAddr 1 (.tmp 15), (some (10, false))⟩, .still),
    (⟨(some 17), .load1 (.tmp 16), (some (10, false))⟩, .reads 0 0),
    (⟨(some 18), .bin .geq (.tmp 12) (.tmp 17), (some (10, false))⟩, .still),
    (⟨(some 19), .pick (.tmp 10) (.const (.bool true)) (.tmp 18), none⟩, .still)])
  (.cond (.tmp 19)
    (.seq (.region [
      ⟨(some 4), .mv (.const (.bool false)), none⟩])
    (.ret))
    (.skip)))
  (.seq (.draw [
    (⟨(some 20), .mv (.tmp 0), none⟩, .still),
    (⟨(some 21), .nilCheck (.tmp 20), none⟩, .still),
    (⟨(some 22), .fieldAddr 13 (.tmp 21), none⟩, .still),
    (⟨(some 23), .load1 (.tmp 22), none⟩, .reads 0 0),
    (⟨(some 24), .fieldAddr 2 (.tmp 3), none⟩, .still),
    (⟨(some 25), .load1 (.tmp 24), none⟩, .reads 0 0),
    (⟨(some 26), .idxAddr 18 none (.tmp 23) (.tmp 25), none⟩, .still),
    (⟨(some 5), .mv (.tmp 26), none⟩, .still)])
  (.seq (.seq (.region [
    ⟨(some 27), .mv (.tmp 5), none⟩,
    ⟨(some 28), .nilCheck (.tmp 27), none⟩,
    ⟨(some 29), .fieldAddr 0 (.tmp 28), none⟩,
    ⟨(some 30), .load1 (.tmp 29), none⟩])
  (.block 0 (.seq (.region [
    ⟨(some 32), .bin .eql (.tmp 30) (.const (.int .i64 0)), none⟩,
    ⟨(some 31), .mv (.tmp 32), none⟩])
  (.cond (.tmp 31)
    (.seq (.region [
      ⟨(some 33), .mv (.tmp 0), none⟩,
      ⟨(some 34), .fieldAddr 2 (.tmp 3), none⟩,
      ⟨(some 35), .load1 (.tmp 34), none⟩,
      ⟨(some 36), .loadN 5 (.tmp 3), none⟩,
      ⟨(some 37), .call 70 [(.tmp 33), (.tmp 35), (.tmp 36)], none⟩,
      ⟨(some 4), .mv (.tmp 37), none⟩])
    (.ret))
    (.seq (.region [
      ⟨(some 39), .bin .eql (.tmp 30) (.const (.int .i64 16)), none⟩,
      ⟨(some 38), .mv (.tmp 39), none⟩])
    (.cond (.tmp 38)
      (.seq (.region [
        ⟨(some 40), .mv (.tmp 0), none⟩,
        ⟨(some 41), .fieldAddr 2 (.tmp 3), none⟩,
        ⟨(some 42), .load1 (.tmp 41), none⟩,
        ⟨(some 43), .call 71 [(.tmp 40), (.tmp 42)], none⟩,
        ⟨(some 4), .mv (.tmp 43), none⟩])
      (.ret))
      (.skip)))))))
  (.seq (.seq (.draw [
    (⟨(some 44), .mv (.tmp 5), none⟩, .still),
    (⟨(some 45), .nilCheck (.tmp 44), none⟩, .still),
    (⟨(some 46), .loadN 18 (.tmp 45), none⟩, .reads 0 0),
    (⟨(some 47), .mv (.tmp 0), none⟩, .still),
    (⟨(some 48), .nilCheck (.tmp 47), none⟩, .still),
    (⟨(some 49), .fieldAddr 0 (.tmp 48), none⟩, .still),
    (⟨(some 50), .fieldAddr 0 (.tmp 49), none⟩, .still),
    (⟨(some 51), .load1 (.tmp 50), none⟩, .reads 0 0),
    (⟨(some 52), .call 72 [(.tmp 46), (.tmp 51)], none⟩, .loud),
    (⟨(some 6), .mv (.tmp 52), none⟩, .still)])
  (.seq (.region [
    ⟨(some 53), .mv (.tmp 6), none⟩,
    ⟨(some 54), .bin .geq (.tmp 53) (.const (.int .i64 0)), none⟩])
  (.cond (.tmp 54)
    (.region [
      ⟨(some 55), .mv (.tmp 0), none⟩,
      ⟨(some 56), .fieldAddr 2 (.tmp 3), none⟩,
      ⟨(some 57), .load1 (.tmp 56), none⟩,
      ⟨(some 58), .mv (.tmp 6), none⟩,
      ⟨(some 59), .call 73 [(.tmp 55), (.tmp 57), (.tmp 58)], none⟩])
    (.region [
      ⟨(some 60), .mv (.tmp 0), none⟩,
      ⟨(some 61), .fieldAddr 2 (.tmp 3), none⟩,
      ⟨(some 62), .load1 (.tmp 61), none⟩,
      ⟨(some 63), .call 74 [(.tmp 60), (.tmp 62)], none⟩]))))
  (.seq (.region [
    ⟨(some 4), .mv (.const (.bool true)), none⟩])
  (.ret)))))), none⟩
set_option maxRecDepth 100000 in
theorem comp_31 : compFunc Tryz.prog 4 Tryz.f31 = some F31 := by kernel_rfl
theorem in_31 : F31.body.within F31.ntmps = true := by kernel_rfl

/-- '(*hostler/world.World).Asleep' -/
def F35 : AFunc := ⟨42, [.tmp 4],
  .seq (.region [
    ⟨(some 4), .mv (.const (.bool false)), none⟩])
  (.seq (.draw [
    (⟨(some 5), .mv (.tmp 1), none⟩, .still),
    (⟨(some 6), .bin .geq (.tmp 5) (.const (.int .i64 0)), none⟩, .still),
    (⟨(some 7), .mv (.tmp 6), none⟩, .still),
    (⟨(some 8), .mv (.tmp 1), (some (7, true))⟩, .still),
    (⟨(some 9), .mv (.tmp 0), (some (7, true))⟩, .still),
    (⟨(some 10), .nilCheck (.tmp 9), (some (7, true))⟩, .still),
    (⟨(some 11), .fieldAddr 0 (.tmp 10), (some (7, true))⟩, .still),
    (⟨(some 12), .fieldAddr 1 (.tmp 11), (some (7, true))⟩, .still),
    (⟨(some 13), .load1 (.tmp 12), (some (7, true))⟩, .reads 0 0),
    (⟨(some 14), .bin .lss (.tmp 8) (.tmp 13), (some (7, true))⟩, .still),
    (⟨(some 15), .pick (.tmp 7) (.tmp 14) (.const (.bool false)), none⟩, .still),
    (⟨(some 16), .mv (.tmp 15), none⟩, .still),
    (⟨(some 17), .mv (.tmp 0), (some (16, true))⟩, .still),
    (⟨(some 18), .nilCheck (.tmp 17), (some (16, true))⟩, .still),
    (⟨(some 19), .fieldAddr 13 (.tmp 18), (some (16, true))⟩, .still),
    (⟨(some 20), .load1 (.tmp 19), (some (16, true))⟩, .reads 0 0),
    (⟨(some 21), .mv (.tmp 1), (some (16, true))⟩, .still),
    (⟨(some 22), .idxAddr 18 none (.tmp 20) (.tmp 21), (some (16, true))⟩, .still),
    (⟨(some 23), .fieldAddr 0 (.tmp 22), (some (16, true))⟩, .still),
    (⟨(some 24), .load1 (.tmp 23), (some (16, true))⟩, .reads 0 0),
    (⟨(some 25), .bin .eql (.tmp 24) (.const (.int .i64 16)), (some (16, true))⟩, .still),
    (⟨(some 26), .pick (.tmp 16) (.tmp 25) (.const (.bool false)), none⟩, .still),
    (⟨(some 27), .mv (.tmp 26), none⟩, .still),
    (⟨(some 28), .mv (.tmp 0), (some (27, true))⟩, .still),
    (⟨(some 29), .nilCheck (.tmp 28), (some (27, true))⟩, .still),
    (⟨(some 30), .fieldAddr 3 (.tmp 29), (some (27, true))⟩, .still),
    (⟨(some 31), .load1 (.tmp 30), (some (27, true))⟩, .reads 0 0),
    (⟨(some 32), .call 36 [(.tmp 31)], (some (27, true))⟩, .loud),
    (⟨(some 33), .mv (.tmp 0), (some (27, true))⟩, .still),
    (⟨(some 34), .nilCheck (.tmp 33), (some (27, true))⟩, .still),
    (⟨(some 35), .fieldAddr 5 (.tmp 34), (some (27, true))⟩, .still),
    (⟨(some 36), .load1 (.tmp 35), (some (27, true))⟩, .reads 0 1),
    (⟨(some 37), .mv (.tmp 1), (some (27, true))⟩, .still),
    (⟨(some 38), .bin .add (.tmp 36) (.tmp 37), (some (27, true))⟩, .still),
    (⟨(some 39), .call 37 [(.tmp 32), (.tmp 38)], (some (27, true))⟩, .loud),
    (⟨(some 40), .bin .eql (.tmp 39) (.const (.int .u64 0)), (some (27, true))⟩, .still),
    (⟨(some 41), .pick (.tmp 27) (.tmp 40) (.const (.bool false)), none⟩, .still),
    (⟨(some 4), .mv (.tmp 41), none⟩, .still)])
  (.ret)), none⟩
set_option maxRecDepth 100000 in
theorem comp_35 : compFunc Tryz.prog 4 Tryz.f35 = some F35 := by kernel_rfl
theorem in_35 : F35.body.within F35.ntmps = true := by kernel_rfl

/-- '(*hostler/cell.Memory).Copy' -/
def F36 : AFunc := ⟨16, [.tmp 2],
  .seq (.region [
    ⟨(some 2), .mv (.const .nilptr), none⟩])
  (.seq (.seq (.region [
    ⟨(some 3), .mv (.tmp 0), none⟩,
    ⟨(some 4), .cmpNil false 0 (.tmp 3) (.const .nilptr), none⟩])
  (.cond (.tmp 4)
    (.seq (.region [
      ⟨(some 2), .mv (.const .nilptr), none⟩])
    (.ret))
    (.skip)))
  (.seq (.draw [
    (⟨(some 5), .mv (.tmp 0), none⟩, .still),
    (⟨(some 6), .nilCheck (.tmp 5), none⟩, .still),
    (⟨(some 7), .fieldAddr 0 (.tmp 6), none⟩, .still),
    (⟨(some 8), .load1 (.tmp 7), none⟩, .reads 0 0),
    (⟨(some 9), .call 80 [(.tmp 8)], none⟩, .loud),
    (⟨(some 10), .mv (.tmp 0), none⟩, .still),
    (⟨(some 11), .nilCheck (.tmp 10), none⟩, .still),
    (⟨(some 12), .fieldAddr 1 (.tmp 11), none⟩, .still),
    (⟨(some 13), .load1 (.tmp 12), none⟩, .reads 0 1),
    (⟨(some 14), .build [.nilslice, (.int .i64 0)] [((0, 1), (.tmp 9)), ((1, 1), (.tmp 13))], none⟩, .still),
    (⟨(some 15), .box (.tmp 14), none⟩, .loud),
    (⟨(some 2), .mv (.tmp 15), none⟩, .still)])
  (.ret))), none⟩
set_option maxRecDepth 100000 in
theorem comp_36 : compFunc Tryz.prog 4 Tryz.f36 = some F36 := by kernel_rfl
theorem in_36 : F36.body.within F36.ntmps = true := by kernel_rfl

/-- '(*hostler/cell.Memory).Load' -/
def F37 : AFunc := ⟨14, [.tmp 4],
  .seq (.region [
    ⟨(some 4), .mv (.const (.int .u64 0)), none⟩])
  (.seq (.seq (.region [
    ⟨(some 6), .mv (.tmp 0), none⟩,
    ⟨(some 7), .mv (.tmp 1), none⟩,
    ⟨(some 8), .call 81 [(.tmp 6), (.tmp 7)], none⟩,
    ⟨(some 5), .mv (.tmp 8), none⟩])
  (.seq (.region [
    ⟨(some 9), .mv (.tmp 5), none⟩,
    ⟨(some 10), .cmpNil true 0 (.tmp 9) (.const .nilptr), none⟩])
  (.cond (.tmp 10)
    (.seq (.region [
      ⟨(some 11), .mv (.tmp 5), none⟩,
      ⟨(some 12), .nilCheck (.tmp 11), none⟩,
      ⟨(some 13), .load1 (.tmp 12), none⟩,
      ⟨(some 4), .mv (.tmp 13), none⟩])
    (.ret))
    (.skip))))
  (.seq (.region [
    ⟨(some 4), .mv (.const (.int .u64 0)), none⟩])
  (.ret))), none⟩
set_option maxRecDepth 100000 in
theorem comp_37 : compFunc Tryz.prog 4 Tryz.f37 = some F37 := by kernel_rfl
theorem in_37 : F37.body.within F37.ntmps = true := by kernel_rfl

/-- '(*hostler/idle.Idle).Copy' -/
def F38 : AFunc := ⟨28, [.tmp 2],
  .seq (.region [
    ⟨(some 2), .mv (.const .nilptr), none⟩])
  (.seq (.draw [
    (⟨(some 3), .mv (.tmp 0), none⟩, .still),
    (⟨(some 4), .nilCheck (.tmp 3), none⟩, .still),
    (⟨(some 5), .fieldAddr 0 (.tmp 4), none⟩, .still),
    (⟨(some 6), .load1 (.tmp 5), none⟩, .reads 0 0),
    (⟨(some 7), .call 82 [(.tmp 6)], none⟩, .loud),
    (⟨(some 8), .mv (.tmp 0), none⟩, .still),
    (⟨(some 9), .nilCheck (.tmp 8), none⟩, .still),
    (⟨(some 10), .fieldAddr 1 (.tmp 9), none⟩, .still),
    (⟨(some 11), .load1 (.tmp 10), none⟩, .reads 0 1),
    (⟨(some 12), .call 83 [(.tmp 11)], none⟩, .loud),
    (⟨(some 13), .mv (.tmp 0), none⟩, .still),
    (⟨(some 14), .nilCheck (.tmp 13), none⟩, .still),
    (⟨(some 15), .fieldAddr 2 (.tmp 14), none⟩, .still),
    (⟨(some 16), .load1 (.tmp 15), none⟩, .reads 0 2),
    (⟨(some 17), .call 83 [(.tmp 16)], none⟩, .loud),
    (⟨(some 18), .mv (.tmp 0), none⟩, .still),
    (⟨(some 19), .nilCheck (.tmp 18), none⟩, .still),
    (⟨(some 20), .fieldAddr 3 (.tmp 19), none⟩, .still),
    (⟨(some 21), .load1 (.tmp 20), none⟩, .reads 0 3),
    (⟨(some 22), .mv (.tmp 0), none⟩, .still),
    (⟨(some 23), .nilCheck (.tmp 22), none⟩, .still),
    (⟨(some 24), .fieldAddr 4 (.tmp 23), none⟩, .still),
    (⟨(some 25), .load1 (.tmp 24), none⟩, .reads 0 3),
    (⟨(some 26), .build [.nilptr, .nilslice, .nilslice, (.int .i64 0), (.int .i64 0)] [((0, 1), (.tmp 7)), ((1, 1), (.tmp 12)), ((2, 1), (.tmp 17)), ((3, 1), (.tmp 21)), ((4, 1), (.tmp 25))], none⟩, .still),
    (⟨(some 27), .box (.tmp 26), none⟩, .loud),
    (⟨(some 2), .mv (.tmp 27), none⟩, .still)])
  (.ret)), none⟩
set_option maxRecDepth 100000 in
theorem comp_38 : compFunc Tryz.prog 4 Tryz.f38 = some F38 := by kernel_rfl
theorem in_38 : F38.body.within F38.ntmps = true := by kernel_rfl

/-- '(*hostler/mask.Mask).Count' -/
def F39 : AFunc := ⟨21, [.tmp 2],
  .seq (.region [
    ⟨(some 2), .mv (.const (.int .i64 0)), none⟩])
  (.seq (.region [
    ⟨(some 3), .mv (.const (.int .i64 0)), none⟩])
  (.seq (.seq (.region [
    ⟨(some 6), .mv (.tmp 0), none⟩,
    ⟨(some 7), .nilCheck (.tmp 6), none⟩,
    ⟨(some 8), .fieldAddr 1 (.tmp 7), none⟩,
    ⟨(some 9), .load1 (.tmp 8), none⟩,
    ⟨(some 10), .lenS (.tmp 9), none⟩,
    ⟨(some 11), .mv (.const (.int .i64 0)), none⟩])
  (.block 0 (.loop (.seq (.region [
      ⟨(some 12), .bin .lss (.tmp 11) (.tmp 10), none⟩])
    (.seq (.cond (.tmp 12)
      (.skip)
      (.exit 0))
    (.seq (.block 1 (.seq (.region [
      ⟨(some 13), .idxAddr 1 none (.tmp 9) (.tmp 11), none⟩,
      ⟨(some 14), .load1 (.tmp 13), none⟩,
      ⟨(some 5), .mv (.tmp 14), none⟩])
    (.region [
      ⟨(some 15), .mv (.tmp 3), none⟩,
      ⟨(some 16), .mv (.tmp 5), none⟩,
      ⟨(some 17), .call 84 [(.tmp 16)], none⟩,
      ⟨(some 18), .bin .add (.tmp 15) (.tmp 17), none⟩,
      ⟨(some 3), .mv (.tmp 18), none⟩])))
    (.region [
      ⟨(some 19), .bin .add (.tmp 11) (.const (.int .i64 1)), none⟩,
      ⟨(some 11), .mv (.tmp 19), none⟩])))))))
  (.seq (.region [
    ⟨(some 20), .mv (.tmp 3), none⟩,
    ⟨(some 2), .mv (.tmp 20), none⟩])
  (.ret)))), none⟩
set_option maxRecDepth 100000 in
theorem comp_39 : compFunc Tryz.prog 4 Tryz.f39 = some F39 := by kernel_rfl
theorem in_39 : F39.body.within F39.ntmps = true := by kernel_rfl

/-- '(*hostler/global.Queue).List' -/
def F40 : AFunc := ⟨7, [.tmp 2],
  .seq (.region [
    ⟨(some 2), .mv (.const .nilslice), none⟩])
  (.seq (.region [
    ⟨(some 3), .mv (.tmp 0), none⟩,
    ⟨(some 4), .nilCheck (.tmp 3), none⟩,
    ⟨(some 5), .fieldAddr 0 (.tmp 4), none⟩,
    ⟨(some 6), .call 85 [(.tmp 5)], none⟩,
    ⟨(some 2), .mv (.tmp 6), none⟩])
  (.ret)), none⟩
set_option maxRecDepth 100000 in
theorem comp_40 : compFunc Tryz.prog 4 Tryz.f40 = some F40 := by kernel_rfl
theorem in_40 : F40.body.within F40.ntmps = true := by kernel_rfl

/-- '(hostler/world.Config).right' -/
def F45 : AFunc := ⟨33, [.tmp 2],
  .seq (.region [
    ⟨(some 1), .box (.tmp 0), none⟩,
    ⟨(some 2), .mv (.const (.bool false)), none⟩])
  (.seq (.region [
    ⟨(some 3), .fieldAddr 0 (.tmp 1), none⟩,
    ⟨(some 4), .load1 (.tmp 3), none⟩,
    ⟨(some 5), .bin .geq (.tmp 4) (.const (.int .i64 1)), none⟩,
    ⟨(some 6), .mv (.tmp 5), none⟩,
    ⟨(some 7), .fieldAddr 0 (.tmp 1), (some (6, true))⟩,
    ⟨(some 8), .load1 (.tmp 7), (some (6, true))⟩,
    ⟨(some 9), .bin .leq (.tmp 8) (.const (.int .i64 64)), (some (6, true))⟩,
    ⟨(some 10), .pick (.tmp 6) (.tmp 9) (.const (.bool false)), none⟩,
    ⟨(some 11), .mv (.tmp 10), none⟩,
    ⟨(some 12), .fieldAddr 1 (.tmp 1), (some (11, true))⟩,
    ⟨(some 13), .load1 (.tmp 12), (some (11, true))⟩,
    ⟨(some 14), .fieldAddr 0 (.tmp 1), (some (11, true))⟩,
    ⟨(some 15), .load1 (.tmp 14), (some (11, true))⟩,
    ⟨(some 16), .bin .geq (.tmp 13) (.tmp 15), (some (11, true))⟩,
    ⟨(some 17), .pick (.tmp 11) (.tmp 16) (.const (.bool false)), none⟩,
    ⟨(some 18), .mv (.tmp 17), none⟩,
    ⟨(some 19), .fieldAddr 1 (.tmp 1), (some (18, true))⟩,
    ⟨(some 20), .load1 (.tmp 19), (some (18, true))⟩,
    ⟨(some 21), .bin .leq (.tmp 20) (.const (.int .i64 128)), (some (18, true))⟩,
    ⟨(some 22), .pick (.tmp 18) (.tmp 21) (.const (.bool false)), none⟩,
    ⟨(some 23), .mv (.tmp 22), none⟩,
    ⟨(some 24), .fieldAddr 2 (.tmp 1), (some (23, true))⟩,
    ⟨(some 25), .load1 (.tmp 24), (some (23, true))⟩,
    ⟨(some 26), .bin .geq (.tmp 25) (.const (.int .i64 1)), (some (23, true))⟩,
    ⟨(some 27), .pick (.tmp 23) (.tmp 26) (.const (.bool false)), none⟩,
    ⟨(some 28), .mv (.tmp 27), none⟩,
    ⟨(some 29), .fieldAddr 2 (.tmp 1), (some (28, true))⟩,
    ⟨(some 30), .load1 (.tmp 29), (some (28, true))⟩,
    ⟨(some 31), .bin .leq (.tmp 30) (.const (.int .i64 4096)), (some (28, true))⟩,
    ⟨(some 32), .pick (.tmp 28) (.tmp 31) (.const (.bool false)), none⟩,
    ⟨(some 2), .mv (.tmp 32), none⟩])
  (.ret)), none⟩
set_option maxRecDepth 100000 in
theorem comp_45 : compFunc Tryz.prog 4 Tryz.f45 = some F45 := by kernel_rfl
theorem in_45 : F45.body.within F45.ntmps = true := by kernel_rfl

/-- 'hostler/global.New' -/
def F46 : AFunc := ⟨8, [.tmp 2],
  .seq (.region [
    ⟨(some 2), .mv (.const .nilptr), none⟩])
  (.seq (.region [
    ⟨(some 3), .mv (.tmp 0), none⟩,
    ⟨(some 4), .max2 (.const (.int .i64 1)) (.tmp 3), none⟩,
    ⟨(some 5), .min2 (.tmp 4) (.const (.int .i64 64)), none⟩,
    ⟨(some 6), .build [.nilslice, (.int .i64 0)] [((1, 1), (.tmp 5))], none⟩,
    ⟨(some 7), .box (.tmp 6), none⟩,
    ⟨(some 2), .mv (.tmp 7), none⟩])
  (.ret)), none⟩
set_option maxRecDepth 100000 in
theorem comp_46 : compFunc Tryz.prog 4 Tryz.f46 = some F46 := by kernel_rfl
theorem in_46 : F46.body.within F46.ntmps = true := by kernel_rfl

/-- 'hostler/source.New' -/
def F47 : AFunc := ⟨8, [.tmp 2],
  .seq (.region [
    ⟨(some 2), .mv (.const .nilptr), none⟩])
  (.seq (.region [
    ⟨(some 3), .mv (.tmp 0), none⟩,
    ⟨(some 4), .call 90 [(.tmp 3)], none⟩,
    ⟨(some 5), .call 91 [], none⟩,
    ⟨(some 6), .build [(.int .i64 0), .nilptr, .nilptr, (.int .i64 0)] [((1, 1), (.tmp 4)), ((2, 1), (.tmp 5))], none⟩,
    ⟨(some 7), .box (.tmp 6), none⟩,
    ⟨(some 2), .mv (.tmp 7), none⟩])
  (.ret)), none⟩
set_option maxRecDepth 100000 in
theorem comp_47 : compFunc Tryz.prog 4 Tryz.f47 = some F47 := by kernel_rfl
theorem in_47 : F47.body.within F47.ntmps = true := by kernel_rfl

/-- 'hostler/idle.New' -/
def F48 : AFunc := ⟨14, [.tmp 4],
  .seq (.region [
    ⟨(some 4), .mv (.const .nilptr), none⟩])
  (.seq (.region [
    ⟨(some 5), .mv (.tmp 0), none⟩,
    ⟨(some 6), .max2 (.const (.int .i64 1)) (.tmp 5), none⟩,
    ⟨(some 7), .min2 (.tmp 6) (.const (.int .i64 64)), none⟩,
    ⟨(some 8), .call 92 [(.tmp 7)], none⟩,
    ⟨(some 9), .mv (.tmp 1), none⟩,
    ⟨(some 10), .max2 (.const (.int .i64 1)) (.tmp 9), none⟩,
    ⟨(some 11), .min2 (.tmp 10) (.const (.int .i64 128)), none⟩,
    ⟨(some 12), .build [.nilptr, .nilslice, .nilslice, (.int .i64 0), (.int .i64 0)] [((0, 1), (.tmp 8)), ((3, 1), (.const (.int .i64 (-1)))), ((4, 1), (.tmp 11))], none⟩,
    ⟨(some 13), .box (.tmp 12), none⟩,
    ⟨(some 4), .mv (.tmp 13), none⟩])
  (.ret)), none⟩
set_option maxRecDepth 100000 in
theorem comp_48 : compFunc Tryz.prog 4 Tryz.f48 = some F48 := by kernel_rfl
theorem in_48 : F48.body.within F48.ntmps = true := by kernel_rfl

/-- 'hostler/cell.New' -/
def F49 : AFunc := ⟨9, [.tmp 2],
  .seq (.region [
    ⟨(some 2), .mv (.const .nilptr), none⟩])
  (.seq (.region [
    ⟨(some 3), .mv (.tmp 0), none⟩,
    ⟨(some 4), .max2 (.const (.int .i64 0)) (.tmp 3), none⟩,
    ⟨(some 5), .min2 (.tmp 4) (.const (.int .i64 65536)), none⟩,
    ⟨(some 6), .mkslice 1 8 [(.int .u64 0)] (.tmp 5) (.tmp 5), none⟩,
    ⟨(some 7), .build [.nilslice, (.int .i64 0)] [((0, 1), (.tmp 6))], none⟩,
    ⟨(some 8), .box (.tmp 7), none⟩,
    ⟨(some 2), .mv (.tmp 8), none⟩])
  (.ret)), none⟩
set_option maxRecDepth 100000 in
theorem comp_49 : compFunc Tryz.prog 4 Tryz.f49 = some F49 := by kernel_rfl
theorem in_49 : F49.body.within F49.ntmps = true := by kernel_rfl

/-- 'hostler/ring.New' -/
def F50 : AFunc := ⟨3, [.tmp 0],
  .seq (.region [
    ⟨(some 0), .mv (.const .nilptr), none⟩])
  (.seq (.region [
    ⟨(some 1), .build [(.int .i64 0), (.int .i64 0), (.int .i64 0), (.int .i64 0), (.int .i64 0), (.int .i64 0), (.int .i64 0), (.int .i64 0), (.int .i64 0), (.int .i64 0), (.int .i64 0), (.int .i64 0), (.int .i64 0), (.int .i64 0), (.int .i64 0), (.int .i64 0), (.int .i64 0), (.int .i64 0), (.int .i64 0), (.int .i64 0), (.int .i64 0), (.int .i64 0), (.int .i64 0), (.int .i64 0), (.int .i64 0), (.int .i64 0), (.int .i64 0), (.int .i64 0), (.int .i64 0), (.int .i64 0), (.int .i64 0), (.int .i64 0), (.int .i64 0), (.int .i64 0), (.int .i64 0), (.int .i64 0), (.int .i64 0), (.int .i64 0), (.int .i64 0), (.int .i64 0), (.int .i64 0), (.int .i64 0), (.int .i64 0), (.int .i64 0), (.int .i64 0), (.int .i64 0), (.int .i64 0), (.int .i64 0), (.int .i64 0), (.int .i64 0), (.int .i64 0), (.int .i64 0), (.int .i64 0), (.int .i64 0), (.int .i64 0), (.int .i64 0), (.int .i64 0), (.int .i64 0), (.int .i64 0), (.int .i64 0), (.int .i64 0), (.int .i64 0), (.int .i64 0), (.int .i64 0), (.int .i64 0), (.int .i64 0), (.int .i64 0), (.int .i64 0), (.int .i64 0), (.int .i64 0), (.int .i64 0), (.int .i64 0), (.int .i64 0), (.int .i64 0), (.int .i64 0), (.int .i64 0), (.int .i64 0), (.int .i64 0), (.int .i64 0), (.int .i64 0), (.int .i64 0), (.int .i64 0), (.int .i64 0), (.int .i64 0), (.int .i64 0), (.int .i64 0), (.int .i64 0), (.int .i64 0), (.int .i64 0), (.int .i64 0), (.int .i64 0), (.int .i64 0), (.int .i64 0), (.int .i64 0), (.int .i64 0), (.int .i64 0), (.int .i64 0), (.int .i64 0), (.int .i64 0), (.int .i64 0), (.int .i64 0), (.int .i64 0), (.int .i64 0), (.int .i64 0), (.int .i64 0), (.int .i64 0), (.int .i64 0), (.int .i64 0), (.int .i64 0), (.int .i64 0), (.int .i64 0), (.int .i64 0), (.int .i64 0), (.int .i64 0), (.int .i64 0), (.int .i64 0), (.int .i64 0), (.int .i64 0), (.int .i64 0), (.int .i64 0), (.int .i64 0), (.int .i64 0), (.int .i64 0), (.int .i64 0), (.int .i64 0), (.int .i64 0), (.int .i64 0), (.int .i64 0), (.int .i64 0), (.int .i64 0), (.int .i64 0), (.int .i64 0), (.int .i64 0), (.int .i64 0), (.int .i64 0), (.int .i64 0), (.int .i64 0), (.int .i64 0), (.int .i64 0), (.int .i64 0), (.int .i64 0), (.int .i64 0), (.int .i64 0), (.int .i64 0), (.int .i64 0), (.int .i64 0), (.int .i64 0), (.int .i64 0), (.int .i64 0), (.int .i64 0), (.int .i64 0), (.int .i64 0), (.int .i64 0), (.int .i64 0), (.int .i64 0), (.int .i64 0), (.int .i64 0), (.int .i64 0), (.int .i64 0), (.int .i64 0), (.int .i64 0), (.int .i64 0), (.int .i64 0), (.int .i64 0), (.int .i64 0), (.int .i64 0), (.int .i64 0), (.int .i64 0), (.int .i64 0), (.int .i64 0), (.int .i64 0), (.int .i64 0), (.int .i64 0), (.int .i64 0), (.int .i64 0), (.int .i64 0), (.int .i64 0), (.int .i64 0), (.int .i64 0), (.int .i64 0), (.int .i64 0), (.int .i64 0), (.int .i64 0), (.int .i64 0), (.int .i64 0), (.int .i64 0), (.int .i64 0), (.int .i64 0), (.int .i64 0), (.int .i64 0), (.int .i64 0), (.int .i64 0), (.int .i64 0), (.int .i64 0), (.int .i64 0), (.int .i64 0), (.int .i64 0), (.int .i64 0), (.int .i64 0), (.int .i64 0), (.int .i64 0), (.int .i64 0), (.int .i64 0), (.int .i64 0), (.int .i64 0), (.int .i64 0), (.int .i64 0), (.int .i64 0), (.int .i64 0), (.int .i64 0), (.int .i64 0), (.int .i64 0), (.int .i64 0), (.int .i64 0), (.int .i64 0), (.int .i64 0), (.int .i64 0), (.int .i64 0), (.int .i64 0), (.int .i64 0), (.int .i64 0), (.int .i64 0), (.int .i64 0), (.int .i64 0), (.int .i64 0), (.int .i64 0), (.int .i64 0), (.int .i64 0), (.int .i64 0), (.int .i64 0), (.int .i64 0), (.int .i64 0), (.int .i64 0), (.int .i64 0), (.int .i64 0), (.int .i64 0), (.int .i64 0), (.int .i64 0), (.int .i64 0), (.int .i64 0), (.int .i64 0), (.int .i64 0), (.int .i64 0), (.int .i64 0), (.int .i64 0), (.int .i64 0), (.int .i64 0), (.int .i64 0), (.int .i64 0), (.int .i64 0), (.int .i64 0), (.int .i64 0), (.int .i64 0), (.int .i64 0), (.int .i64 0), (.int .i64 0), (.int .i64 0), (.int .i64 0), (.bool false), (.int .i64 0), (.int .i64 0)] [((259, 1), (.const (.int .i64 (-1))))], none⟩,
    ⟨(some 2), .box (.tmp 1), none⟩,
    ⟨(some 0), .mv (.tmp 2), none⟩])
  (.ret)), none⟩
set_option maxRecDepth 100000 in
theorem comp_50 : compFunc Tryz.prog 4 Tryz.f50 = some F50 := by kernel_rfl
theorem in_50 : F50.body.within F50.ntmps = true := by kernel_rfl

/-- '(*hostler/idle.Idle).PutP' -/
def F51 : AFunc := ⟨20, [.tmp 4],
  .seq (.region [
    ⟨(some 4), .mv (.const (.bool false)), none⟩])
  (.seq (.region [
    ⟨(some 5), .mv (.tmp 0), none⟩,
    ⟨(some 6), .nilCheck (.tmp 5), none⟩,
    ⟨(some 7), .fieldAddr 1 (.tmp 6), none⟩,
    ⟨(some 8), .load1 (.tmp 7), none⟩,
    ⟨(some 9), .mv (.tmp 1), none⟩,
    ⟨(some 10), .call 93 [(.tmp 8), (.tmp 9)], none⟩,
    ⟨(some 11), .un .not (.tmp 10), none⟩,
    ⟨(some 12), .mv (.tmp 11), none⟩,
    ⟨(some 13), .mv (.tmp 0), (some (12, true))⟩,
    ⟨(some 14), .nilCheck (.tmp 13), (some (12, true))⟩,
    ⟨(some 15), .fieldAddr 0 (.tmp 14), (some (12, true))⟩,
    ⟨(some 16), .load1 (.tmp 15), (some (12, true))⟩,
    ⟨(some 17), .mv (.tmp 1), (some (12, true))⟩,
    ⟨(some 18), .call 94 [(.tmp 16), (.tmp 17)], (some (12, true))⟩,
    ⟨(some 19), .pick (.tmp 12) (.tmp 18) (.const (.bool false)), none⟩,
    ⟨(some 4), .mv (.tmp 19), none⟩])
  (.ret)), none⟩
set_option maxRecDepth 100000 in
theorem comp_51 : compFunc Tryz.prog 4 Tryz.f51 = some F51 := by kernel_rfl
theorem in_51 : F51.body.within F51.ntmps = true := by kernel_rfl

/-- 'hostler/mach.Fresh' -/
def F52 : AFunc := ⟨2, [.cellN 0 18],
  .seq (.region [
    ⟨(some 0), .alloc [(.int .i64 0), (.int .i64 0), (.int .i64 0), (.int .i64 0), (.int .i64 0), (.int .i64 0), (.int .i64 0), (.bool false), (.bool false), .nilslice, (.int .i64 0), (.int .i64 0), (.int .i64 0), (.int .i64 0), (.int .i64 0), (.int .i64 0), (.int .u64 0), (.int .i64 0)], none⟩])
  (.seq (.region [
    ⟨(some 1), .build [(.int .i64 0), (.int .i64 0), (.int .i64 0), (.int .i64 0), (.int .i64 0), (.int .i64 0), (.int .i64 0), (.bool false), (.bool false), .nilslice, (.int .i64 0), (.int .i64 0), (.int .i64 0), (.int .i64 0), (.int .i64 0), (.int .i64 0), (.int .u64 0), (.int .i64 0)] [((0, 1), (.const (.int .i64 16))), ((1, 1), (.const (.int .i64 (-1)))), ((2, 1), (.const (.int .i64 (-1)))), ((3, 1), (.const (.int .i64 (-1)))), ((4, 1), (.const (.int .i64 (-1)))), ((5, 1), (.const (.int .i64 (-1))))], none⟩,
    ⟨none, .store 18 (.tmp 0) (.tmp 1), none⟩])
  (.ret)), none⟩
set_option maxRecDepth 100000 in
theorem comp_52 : compFunc Tryz.prog 4 Tryz.f52 = some F52 := by kernel_rfl
theorem in_52 : F52.body.within F52.ntmps = true := by kernel_rfl

/-- '(*hostler/idle.Idle).Stop' -/
def F53 : AFunc := ⟨53, [.tmp 4, .tmp 5],
  .seq (.region [
    ⟨(some 4), .mv (.const (.bool false)), none⟩,
    ⟨(some 5), .mv (.const (.bool false)), none⟩])
  (.seq (.block 0 (.seq (.region [
    ⟨(some 7), .mv (.tmp 1), none⟩,
    ⟨(some 8), .bin .lss (.tmp 7) (.const (.int .i64 0)), none⟩,
    ⟨(some 9), .mv (.tmp 8), none⟩,
    ⟨(some 10), .mv (.tmp 1), (some (9, false))⟩,
    ⟨(some 11), .mv (.tmp 0), (some (9, false))⟩,
    ⟨(some 12), .nilCheck (.tmp 11), (some (9, false))⟩,
    ⟨(some 13), .fieldAddr 4 (.tmp 12), (some (9, false))⟩,
    ⟨(some 14), .load1 (.tmp 13), (some (9, false))⟩,
    ⟨(some 15), .bin .geq (.tmp 10) (.tmp 14), (some (9, false))⟩,
    ⟨(some 16), .pick (.tmp 9) (.const (.bool true)) (.tmp 15), none⟩,
    ⟨(some 17), .mv (.tmp 16), none⟩,
    ⟨(some 18), .mv (.tmp 1), (some (17, false))⟩,
    ⟨(some 19), .mv (.tmp 0), (some (17, false))⟩,
    ⟨(some 20), .nilCheck (.tmp 19), (some (17, false))⟩,
    ⟨(some 21), .fieldAddr 3 (.tmp 20), (some (17, false))⟩,
    ⟨(some 22), .load1 (.tmp 21), (some (17, false))⟩,
    ⟨(some 23), .bin .eql (.tmp 18) (.tmp 22), (some (17, false))⟩,
    ⟨(some 24), .pick (.tmp 17) (.const (.bool true)) (.tmp 23), none⟩,
    ⟨(some 25), .mv (.tmp 24), none⟩,
    ⟨(some 26), .mv (.tmp 0), (some (25, false))⟩,
    ⟨(some 27), .nilCheck (.tmp 26), (some (25, false))⟩,
    ⟨(some 28), .fieldAddr 2 (.tmp 27), (some (25, false))⟩,
    ⟨(some 29), .load1 (.tmp 28), (some (25, false))⟩,
    ⟨(some 30), .mv (.tmp 1), (some (25, false))⟩,
    ⟨(some 31), .call 93 [(.tmp 29), (.tmp 30)], (some (25, false))⟩,
    ⟨(some 32), .pick (.tmp 25) (.const (.bool true)) (.tmp 31), none⟩,
    ⟨(some 6), .mv (.tmp 32), none⟩])
  (.cond (.tmp 6)
    (.seq (.region [
      ⟨(some 4), .mv (.const (.bool false)), none⟩,
      ⟨(some 5), .mv (.const (.bool false)), none⟩])
    (.ret))
    (.seq (.region [
      ⟨(some 34), .mv (.tmp 0), none⟩,
      ⟨(some 35), .nilCheck (.tmp 34), none⟩,
      ⟨(some 36), .fieldAddr 3 (.tmp 35), none⟩,
      ⟨(some 37), .load1 (.tmp 36), none⟩,
      ⟨(some 38), .bin .eql (.tmp 37) (.const (.int .i64 (-1))), none⟩,
      ⟨(some 33), .mv (.tmp 38), none⟩])
    (.cond (.tmp 33)
      (.seq (.region [
        ⟨(some 39), .mv (.tmp 0), none⟩,
        ⟨(some 40), .mv (.tmp 1), none⟩,
        ⟨(some 41), .nilCheck (.tmp 39), none⟩,
        ⟨(some 42), .fieldAddr 3 (.tmp 41), none⟩,
        ⟨none, .store 1 (.tmp 42) (.tmp 40), none⟩])
      (.seq (.region [
        ⟨(some 4), .mv (.const (.bool true)), none⟩,
        ⟨(some 5), .mv (.const (.bool true)), none⟩])
      (.ret)))
      (.skip))))))
  (.seq (.region [
    ⟨(some 43), .mv (.tmp 0), none⟩,
    ⟨(some 44), .mv (.tmp 0), none⟩,
    ⟨(some 45), .nilCheck (.tmp 44), none⟩,
    ⟨(some 46), .fieldAddr 2 (.tmp 45), none⟩,
    ⟨(some 47), .load1 (.tmp 46), none⟩,
    ⟨(some 48), .mv (.tmp 1), none⟩,
    ⟨(some 49), .buildSlice [(.int .i64 0)] 1 [((0, 1), (.tmp 48))], none⟩,
    ⟨(some 50), .append 1 8 [(.int .i64 0)] (.tmp 47) (.tmp 49), none⟩,
    ⟨(some 51), .nilCheck (.tmp 43), none⟩,
    ⟨(some 52), .fieldAddr 2 (.tmp 51), none⟩,
    ⟨none, .store 1 (.tmp 52) (.tmp 50), none⟩])
  (.seq (.region [
    ⟨(some 4), .mv (.const (.bool false)), none⟩,
    ⟨(some 5), .mv (.const (.bool true)), none⟩])
  (.ret)))), none⟩
set_option maxRecDepth 100000 in
theorem comp_53 : compFunc Tryz.prog 4 Tryz.f53 = some F53 := by kernel_rfl
theorem in_53 : F53.body.within F53.ntmps = true := by kernel_rfl

/-- '(hostler/status.Table).Move' -/
def F54 : AFunc := ⟨29, [.tmp 10],
  .seq (.region [
    ⟨(some 5), .box (.tmp 0), none⟩,
    ⟨(some 10), .mv (.const (.bool false)), none⟩])
  (.seq (.region [
    ⟨(some 11), .loadN 2 (.tmp 5), none⟩,
    ⟨(some 12), .mv (.tmp 2), none⟩,
    ⟨(some 13), .call 95 [(.tmp 11), (.tmp 12)], none⟩,
    ⟨(some 14), .mv (.tmp 13), none⟩,
    ⟨(some 15), .mv (.tmp 3), (some (14, true))⟩,
    ⟨(some 16), .mv (.tmp 4), (some (14, true))⟩,
    ⟨(some 17), .call 96 [(.tmp 15), (.tmp 16)], (some (14, true))⟩,
    ⟨(some 18), .pick (.tmp 14) (.tmp 17) (.const (.bool false)), none⟩,
    ⟨(some 19), .mv (.tmp 18), none⟩,
    ⟨(some 20), .mv (.tmp 1), (some (19, true))⟩,
    ⟨(some 21), .fieldAddr 0 (.tmp 5), (some (19, true))⟩,
    ⟨(some 22), .load1 (.tmp 21), (some (19, true))⟩,
    ⟨(some 23), .mv (.tmp 2), (some (19, true))⟩,
    ⟨(some 24), .bin .add (.tmp 22) (.tmp 23), (some (19, true))⟩,
    ⟨(some 25), .mv (.tmp 3), (some (19, true))⟩,
    ⟨(some 26), .mv (.tmp 4), (some (19, true))⟩,
    ⟨(some 27), .call 97 [(.tmp 20), (.tmp 24), (.tmp 25), (.tmp 26)], (some (19, true))⟩,
    ⟨(some 28), .pick (.tmp 19) (.tmp 27) (.const (.bool false)), none⟩,
    ⟨(some 10), .mv (.tmp 28), none⟩])
  (.ret)), none⟩
set_option maxRecDepth 100000 in
theorem comp_54 : compFunc Tryz.prog 4 Tryz.f54 = some F54 := by kernel_rfl
theorem in_54 : F54.body.within F54.ntmps = true := by kernel_rfl

/-- '(*hostler/event.Log).Add' -/
def F55 : AFunc := ⟨18, [.tmp 4],
  .seq (.region [
    ⟨(some 3), .box (.tmp 1), none⟩,
    ⟨(some 4), .mv (.const (.bool false)), none⟩])
  (.seq (.seq (.region [
    ⟨(some 5), .loadN 5 (.tmp 3), none⟩,
    ⟨(some 6), .call 98 [(.tmp 5)], none⟩,
    ⟨(some 7), .un .not (.tmp 6), none⟩])
  (.cond (.tmp 7)
    (.seq (.region [
      ⟨(some 4), .mv (.const (.bool false)), none⟩])
    (.ret))
    (.skip)))
  (.seq (.draw [
    (⟨(some 8), .mv (.tmp 0), none⟩, .still),
    (⟨(some 9), .mv (.tmp 0), none⟩, .still),
    (⟨(some 10), .nilCheck (.tmp 9), none⟩, .still),
    (⟨(some 11), .fieldAddr 0 (.tmp 10), none⟩, .still),
    (⟨(some 12), .load1 (.tmp 11), none⟩, .reads 0 1),
    (⟨(some 13), .loadN 5 (.tmp 3), none⟩, .reads 0 0),
    (⟨(some 14), .buildSlice [(.int .i64 0), (.int .i64 0), (.int .i64 0), (.int .i64 0), (.int .i64 0)] 1 [((0, 5), (.tmp 13))], none⟩, .loud),
    (⟨(some 15), .append 5 40 [(.int .i64 0), (.int .i64 0), (.int .i64 0), (.int .i64 0), (.int .i64 0)] (.tmp 12) (.tmp 14), none⟩, .loud),
    (⟨(some 16), .nilCheck (.tmp 8), none⟩, .still),
    (⟨(some 17), .fieldAddr 0 (.tmp 16), none⟩, .still),
    (⟨none, .store 1 (.tmp 17) (.tmp 15), none⟩, .loud)])
  (.seq (.region [
    ⟨(some 4), .mv (.const (.bool true)), none⟩])
  (.ret)))), none⟩
set_option maxRecDepth 100000 in
theorem comp_55 : compFunc Tryz.prog 4 Tryz.f55 = some F55 := by kernel_rfl
theorem in_55 : F55.body.within F55.ntmps = true := by kernel_rfl

/-- '(*hostler/global.Queue).Put' -/
def F56 : AFunc := ⟨9, [],
  .region [
    ⟨(some 4), .mv (.tmp 0), none⟩,
    ⟨(some 5), .nilCheck (.tmp 4), none⟩,
    ⟨(some 6), .fieldAddr 0 (.tmp 5), none⟩,
    ⟨(some 7), .mv (.tmp 1), none⟩,
    ⟨(some 8), .call 99 [(.tmp 6), (.tmp 7)], none⟩], none⟩
set_option maxRecDepth 100000 in
theorem comp_56 : compFunc Tryz.prog 4 Tryz.f56 = some F56 := by kernel_rfl
theorem in_56 : F56.body.within F56.ntmps = true := by kernel_rfl

/-- 'hostler/round.New' -/
def F57 : AFunc := ⟨17, [.tmp 4],
  .seq (.region [
    ⟨(some 3), .box (.tmp 1), none⟩,
    ⟨(some 4), .mv (.const .nilptr), none⟩])
  (.seq (.region [
    ⟨(some 5), .fieldAddr 1 (.tmp 3), none⟩,
    ⟨(some 6), .load1 (.tmp 5), none⟩,
    ⟨(some 7), .max2 (.const (.int .i64 1)) (.tmp 6), none⟩,
    ⟨(some 8), .fieldAddr 1 (.tmp 3), none⟩,
    ⟨none, .store 1 (.tmp 8) (.tmp 7), none⟩])
  (.seq (.draw [
    (⟨(some 9), .mv (.tmp 0), none⟩, .still),
    (⟨(some 10), .loadN 2 (.tmp 3), none⟩, .reads 0 2),
    (⟨(some 11), .mv (.tmp 0), none⟩, .still),
    (⟨(some 12), .call 16 [(.tmp 11)], none⟩, .loud),
    (⟨(some 13), .field1 1 (.tmp 12), none⟩, .still),
    (⟨(some 14), .mkslice 1 8 [(.int .i64 0)] (.tmp 13) (.tmp 13), none⟩, .loud),
    (⟨(some 15), .build [.nilptr, (.int .u8 0), (.int .i64 0), (.int .i64 0), .nilslice] [((0, 1), (.tmp 9)), ((1, 2), (.tmp 10)), ((4, 1), (.tmp 14))], none⟩, .still),
    (⟨(some 16), .box (.tmp 15), none⟩, .loud),
    (⟨(some 4), .mv (.tmp 16), none⟩, .still)])
  (.ret))), none⟩
set_option maxRecDepth 100000 in
theorem comp_57 : compFunc Tryz.prog 4 Tryz.f57 = some F57 := by kernel_rfl
theorem in_57 : F57.body.within F57.ntmps = true := by kernel_rfl

/-- '(*hostler/round.Driver).Quiet' -/
def F58 : AFunc := ⟨8, [.tmp 4],
  .seq (.region [
    ⟨(some 4), .mv (.const (.bool false)), none⟩])
  (.seq (.region [
    ⟨(some 5), .mv (.tmp 0), none⟩,
    ⟨(some 6), .mv (.tmp 1), none⟩,
    ⟨(some 7), .call 100 [(.tmp 5), (.tmp 6), (.func 11)], none⟩,
    ⟨(some 4), .mv (.tmp 7), none⟩])
  (.ret)), none⟩
set_option maxRecDepth 100000 in
theorem comp_58 : compFunc Tryz.prog 4 Tryz.f58 = some F58 := by kernel_rfl
theorem in_58 : F58.body.within F58.ntmps = true := by kernel_rfl

/-- '(*hostler/round.Driver).Rounds' -/
def F59 : AFunc := ⟨7, [.tmp 2],
  .seq (.region [
    ⟨(some 2), .mv (.const (.int .i64 0)), none⟩])
  (.seq (.region [
    ⟨(some 3), .mv (.tmp 0), none⟩,
    ⟨(some 4), .nilCheck (.tmp 3), none⟩,
    ⟨(some 5), .fieldAddr 3 (.tmp 4), none⟩,
    ⟨(some 6), .load1 (.tmp 5), none⟩,
    ⟨(some 2), .mv (.tmp 6), none⟩])
  (.ret)), none⟩
set_option maxRecDepth 100000 in
theorem comp_59 : compFunc Tryz.prog 4 Tryz.f59 = some F59 := by kernel_rfl
theorem in_59 : F59.body.within F59.ntmps = true := by kernel_rfl

/-- 'hostler/mach.Copy' -/
def F60 : AFunc := ⟨8, [.cellN 2 18],
  .seq (.region [
    ⟨(some 1), .box (.tmp 0), none⟩,
    ⟨(some 2), .alloc [(.int .i64 0), (.int .i64 0), (.int .i64 0), (.int .i64 0), (.int .i64 0), (.int .i64 0), (.int .i64 0), (.bool false), (.bool false), .nilslice, (.int .i64 0), (.int .i64 0), (.int .i64 0), (.int .i64 0), (.int .i64 0), (.int .i64 0), (.int .u64 0), (.int .i64 0)], none⟩])
  (.seq (.region [
    ⟨(some 3), .fieldAddr 9 (.tmp 1), none⟩,
    ⟨(some 4), .load1 (.tmp 3), none⟩,
    ⟨(some 5), .call 83 [(.tmp 4)], none⟩,
    ⟨(some 6), .fieldAddr 9 (.tmp 1), none⟩,
    ⟨none, .store 1 (.tmp 6) (.tmp 5), none⟩])
  (.seq (.region [
    ⟨(some 7), .loadN 18 (.tmp 1), none⟩,
    ⟨none, .store 18 (.tmp 2) (.tmp 7), none⟩])
  (.ret))), none⟩
set_option maxRecDepth 100000 in
theorem comp_60 : compFunc Tryz.prog 4 Tryz.f60 = some F60 := by kernel_rfl
theorem in_60 : F60.body.within F60.ntmps = true := by kernel_rfl

/-- '(hostler/status.Table).Of' -/
def F61 : AFunc := ⟨17, [.tmp 6],
  .seq (.region [
    ⟨(some 3), .box (.tmp 0), none⟩,
    ⟨(some 6), .mv (.const (.int .u64 0)), none⟩])
  (.seq (.seq (.region [
    ⟨(some 7), .loadN 2 (.tmp 3), none⟩,
    ⟨(some 8), .mv (.tmp 2), none⟩,
    ⟨(some 9), .call 95 [(.tmp 7), (.tmp 8)], none⟩,
    ⟨(some 10), .un .not (.tmp 9), none⟩])
  (.cond (.tmp 10)
    (.seq (.region [
      ⟨(some 6), .mv (.const (.int .u64 0)), none⟩])
    (.ret))
    (.skip)))
  (.seq (.region [
    ⟨(some 11), .mv (.tmp 1), none⟩,
    ⟨(some 12), .fieldAddr 0 (.tmp 3), none⟩,
    ⟨(some 13), .load1 (.tmp 12), none⟩,
    ⟨(some 14), .mv (.tmp 2), none⟩,
    ⟨(some 15), .bin .add (.tmp 13) (.tmp 14), none⟩,
    ⟨(some 16), .call 37 [(.tmp 11), (.tmp 15)], none⟩,
    ⟨(some 6), .mv (.tmp 16), none⟩])
  (.ret))), none⟩
set_option maxRecDepth 100000 in
theorem comp_61 : compFunc Tryz.prog 4 Tryz.f61 = some F61 := by kernel_rfl
theorem in_61 : F61.body.within F61.ntmps = true := by kernel_rfl

/-- 'hostler/bound.right' -/
def F64 : AFunc := ⟨12, [.tmp 2],
  .seq (.region [
    ⟨(some 1), .box (.tmp 0), none⟩,
    ⟨(some 2), .mv (.const (.bool false)), none⟩])
  (.seq (.region [
    ⟨(some 6), .loadN 3 (.tmp 1), none⟩,
    ⟨(some 7), .call 20 [(.tmp 6)], none⟩,
    ⟨(some 5), .mv (.tmp 7), none⟩,
    ⟨(some 8), .extract 0 (.tmp 5), none⟩,
    ⟨(some 9), .extract 1 (.tmp 5), none⟩,
    ⟨(some 3), .mv (.tmp 8), none⟩,
    ⟨(some 4), .mv (.tmp 9), none⟩])
  (.seq (.region [
    ⟨(some 10), .mv (.tmp 4), none⟩,
    ⟨(some 11), .bin .eql (.tmp 10) (.const (.int .i64 0)), none⟩,
    ⟨(some 2), .mv (.tmp 11), none⟩])
  (.ret))), none⟩
set_option maxRecDepth 100000 in
theorem comp_64 : compFunc Tryz.prog 4 Tryz.f64 = some F64 := by kernel_rfl
theorem in_64 : F64.body.within F64.ntmps = true := by kernel_rfl

/-- '(*hostler/idle.Idle).Poller' -/
def F65 : AFunc := ⟨14, [.tmp 2, .tmp 3],
  .seq (.region [
    ⟨(some 2), .mv (.const (.int .i64 0)), none⟩,
    ⟨(some 3), .mv (.const (.bool false)), none⟩])
  (.seq (.draw [
    (⟨(some 4), .mv (.tmp 0), none⟩, .still),
    (⟨(some 5), .nilCheck (.tmp 4), none⟩, .still),
    (⟨(some 6), .fieldAddr 3 (.tmp 5), none⟩, .still),
    (⟨(some 7), .load1 (.tmp 6), none⟩, .reads 0 0),
    (⟨(some 8), .max2 (.const (.int .i64 0)) (.tmp 7), none⟩, .still),
    (⟨(some 9), .mv (.tmp 0), none⟩, .still),
    (⟨(some 10), .nilCheck (.tmp 9), none⟩, .still),
    (⟨(some 11), .fieldAddr 3 (.tmp 10), none⟩, .still),
    (⟨(some 12), .load1 (.tmp 11), none⟩, .reads 0 0),
    (⟨(some 13), .bin .neq (.tmp 12) (.const (.int .i64 (-1))), none⟩, .still),
    (⟨(some 2), .mv (.tmp 8), none⟩, .still),
    (⟨(some 3), .mv (.tmp 13), none⟩, .still)])
  (.ret)), none⟩
set_option maxRecDepth 100000 in
theorem comp_65 : compFunc Tryz.prog 4 Tryz.f65 = some F65 := by kernel_rfl
theorem in_65 : F65.body.within F65.ntmps = true := by kernel_rfl

/-- '(*hostler/idle.Idle).Pending' -/
def F66 : AFunc := ⟨8, [.tmp 2],
  .seq (.region [
    ⟨(some 2), .mv (.const (.int .i64 0)), none⟩])
  (.seq (.region [
    ⟨(some 3), .mv (.tmp 0), none⟩,
    ⟨(some 4), .nilCheck (.tmp 3), none⟩,
    ⟨(some 5), .fieldAddr 1 (.tmp 4), none⟩,
    ⟨(some 6), .load1 (.tmp 5), none⟩,
    ⟨(some 7), .lenS (.tmp 6), none⟩,
    ⟨(some 2), .mv (.tmp 7), none⟩])
  (.ret)), none⟩
set_option maxRecDepth 100000 in
theorem comp_66 : compFunc Tryz.prog 4 Tryz.f66 = some F66 := by kernel_rfl
theorem in_66 : F66.body.within F66.ntmps = true := by kernel_rfl

/-- 'hostler/quiet.kept' -/
def F68 : AFunc := ⟨28, [.tmp 2],
  .seq (.region [
    ⟨(some 2), .mv (.const (.bool false)), none⟩])
  (.seq (.seq (.region [
    ⟨(some 5), .mv (.tmp 0), none⟩,
    ⟨(some 6), .call 16 [(.tmp 5)], none⟩,
    ⟨(some 7), .field1 1 (.tmp 6), none⟩,
    ⟨(some 8), .mv (.const (.int .i64 0)), none⟩])
  (.block 0 (.loop (.seq (.region [
      ⟨(some 9), .bin .lss (.tmp 8) (.tmp 7), none⟩])
    (.seq (.cond (.tmp 9)
      (.skip)
      (.exit 0))
    (.seq (.block 1 (.seq (.region [
      ⟨(some 10), .mv (.tmp 8), none⟩,
      ⟨(some 3), .mv (.tmp 10), none⟩])
    (.seq (.region [
      ⟨(some 11), .mv (.tmp 0), none⟩,
      ⟨(some 12), .mv (.tmp 3), none⟩,
      ⟨(some 13), .call 22 [(.tmp 11), (.tmp 12)], none⟩,
      ⟨(some 4), .alloc [(.int .i64 0), (.int .i64 0), (.int .i64 0), (.int .i64 0), (.int .i64 0), (.int .i64 0), (.int .i64 0), (.bool false), (.bool false), .nilslice, (.int .i64 0), (.int .i64 0), (.int .i64 0), (.int .i64 0), (.int .i64 0), (.int .i64 0), (.int .u64 0), (.int .i64 0)], none⟩,
      ⟨none, .store 18 (.tmp 4) (.tmp 13), none⟩])
    (.seq (.region [
      ⟨(some 14), .mv (.tmp 0), none⟩,
      ⟨(some 15), .mv (.tmp 3), none⟩,
      ⟨(some 16), .call 35 [(.tmp 14), (.tmp 15)], none⟩,
      ⟨(some 17), .mv (.tmp 16), none⟩,
      ⟨(some 18), .fieldAddr 1 (.tmp 4), (some (17, true))⟩,
      ⟨(some 19), .load1 (.tmp 18), (some (17, true))⟩,
      ⟨(some 20), .bin .geq (.tmp 19) (.const (.int .i64 0)), (some (17, true))⟩,
      ⟨(some 21), .mv (.tmp 20), (some (17, true))⟩,
      ⟨(some 22), .fieldAddr 3 (.tmp 4), (some (21, false))⟩,
      ⟨(some 23), .load1 (.tmp 22), (some (21, false))⟩,
      ⟨(some 24), .bin .geq (.tmp 23) (.const (.int .i64 0)), (some (21, false))⟩,
      ⟨(some 25), .pick (.tmp 21) (.const (.bool true)) (.tmp 24), (some (17, true))⟩,
      ⟨(some 26), .pick (.tmp 17) (.tmp 25) (.const (.bool false)), none⟩])
    (.cond (.tmp 26)
      (.seq (.region [
        ⟨(some 2), .mv (.const (.bool true)), none⟩])
      (.ret))
      (.skip))))))
    (.region [
      ⟨(some 27), .bin .add (.tmp 8) (.const (.int .i64 1)), none⟩,
      ⟨(some 8), .mv (.tmp 27), none⟩])))))))
  (.seq (.region [
    ⟨(some 2), .mv (.const (.bool false)), none⟩])
  (.ret))), none⟩
set_option maxRecDepth 100000 in
theorem comp_68 : compFunc Tryz.prog 4 Tryz.f68 = some F68 := by kernel_rfl
theorem in_68 : F68.body.within F68.ntmps = true := by kernel_rfl

/-- '(*hostler/world.World).Events' -/
def F69 : AFunc := ⟨7, [.tmp 2],
  .seq (.region [
    ⟨(some 2), .mv (.const .nilslice), none⟩])
  (.seq (.region [
    ⟨(some 3), .mv (.tmp 0), none⟩,
    ⟨(some 4), .nilCheck (.tmp 3), none⟩,
    ⟨(some 5), .fieldAddr 15 (.tmp 4), none⟩,
    ⟨(some 6), .call 103 [(.tmp 5), (.const (.int .i64 0))], none⟩,
    ⟨(some 2), .mv (.tmp 6), none⟩])
  (.ret)), none⟩
set_option maxRecDepth 100000 in
theorem comp_69 : compFunc Tryz.prog 4 Tryz.f69 = some F69 := by kernel_rfl
theorem in_69 : F69.body.within F69.ntmps = true := by kernel_rfl

/-- '(*hostler/world.World).exec' -/
def F70 : AFunc := ⟨90, [.tmp 6],
  .seq (.region [
    ⟨(some 5), .box (.tmp 2), none⟩,
    ⟨(some 6), .mv (.const (.bool false)), none⟩])
  (.seq (.region [
    ⟨(some 9), .mv (.tmp 0), none⟩,
    ⟨(some 10), .nilCheck (.tmp 9), none⟩,
    ⟨(some 11), .fieldAddr 13 (.tmp 10), none⟩,
    ⟨(some 12), .load1 (.tmp 11), none⟩,
    ⟨(some 13), .mv (.tmp 1), none⟩,
    ⟨(some 14), .idxAddr 18 none (.tmp 12) (.tmp 13), none⟩,
    ⟨(some 7), .mv (.tmp 14), none⟩])
  (.seq (.seq (.region [
    ⟨(some 15), .fieldAddr 1 (.tmp 5), none⟩,
    ⟨(some 16), .load1 (.tmp 15), none⟩])
  (.block 0 (.seq (.region [
    ⟨(some 18), .bin .eql (.tmp 16) (.const (.int .u8 0)), none⟩,
    ⟨(some 17), .mv (.tmp 18), none⟩])
  (.cond (.tmp 17)
    (.skip)
    (.seq (.region [
      ⟨(some 20), .bin .eql (.tmp 16) (.const (.int .u8 1)), none⟩,
      ⟨(some 19), .mv (.tmp 20), none⟩])
    (.cond (.tmp 19)
      (.seq (.region [
        ⟨(some 21), .mv (.tmp 7), none⟩,
        ⟨(some 22), .nilCheck (.tmp 21), none⟩,
        ⟨(some 23), .fieldAddr 2 (.tmp 22), none⟩,
        ⟨(some 24), .load1 (.tmp 23), none⟩,
        ⟨(some 8), .mv (.tmp 24), none⟩])
      (.seq (.region [
        ⟨(some 25), .mv (.tmp 0), none⟩,
        ⟨(some 26), .mv (.tmp 1), none⟩,
        ⟨(some 27), .call 104 [(.tmp 25), (.tmp 26), (.const (.int .u64 1)), (.const (.int .i64 3))], none⟩])
      (.region [
        ⟨(some 28), .mv (.tmp 7), none⟩,
        ⟨(some 29), .mv (.tmp 7), none⟩,
        ⟨(some 30), .mv (.tmp 7), none⟩,
        ⟨(some 31), .mv (.tmp 8), none⟩,
        ⟨(some 32), .nilCheck (.tmp 28), none⟩,
        ⟨(some 33), .fieldAddr 4 (.tmp 32), none⟩,
        ⟨none, .store 1 (.tmp 33) (.tmp 31), none⟩,
        ⟨(some 34), .nilCheck (.tmp 29), none⟩,
        ⟨(some 35), .fieldAddr 10 (.tmp 34), none⟩,
        ⟨none, .store 1 (.tmp 35) (.const (.int .i64 1)), none⟩,
        ⟨(some 36), .nilCheck (.tmp 30), none⟩,
        ⟨(some 37), .fieldAddr 0 (.tmp 36), none⟩,
        ⟨none, .store 1 (.tmp 37) (.const (.int .i64 27)), none⟩])))
      (.seq (.region [
        ⟨(some 39), .bin .eql (.tmp 16) (.const (.int .u8 2)), none⟩,
        ⟨(some 38), .mv (.tmp 39), none⟩])
      (.cond (.tmp 38)
        (.region [
          ⟨(some 40), .mv (.tmp 0), none⟩,
          ⟨(some 41), .mv (.tmp 1), none⟩,
          ⟨(some 42), .call 104 [(.tmp 40), (.tmp 41), (.const (.int .u64 3)), (.const (.int .i64 4))], none⟩])
        (.seq (.region [
          ⟨(some 44), .bin .eql (.tmp 16) (.const (.int .u8 3)), none⟩,
          ⟨(some 43), .mv (.tmp 44), none⟩])
        (.cond (.tmp 43)
          (.region [
            ⟨(some 45), .mv (.tmp 0), none⟩,
            ⟨(some 46), .mv (.tmp 1), none⟩,
            ⟨(some 47), .call 104 [(.tmp 45), (.tmp 46), (.const (.int .u64 6)), (.const (.int .i64 7))], none⟩])
          (.seq (.region [
            ⟨(some 49), .bin .eql (.tmp 16) (.const (.int .u8 4)), none⟩,
            ⟨(some 48), .mv (.tmp 49), none⟩])
          (.cond (.tmp 48)
            (.seq (.region [
              ⟨(some 50), .mv (.tmp 0), none⟩,
              ⟨(some 51), .mv (.tmp 1), none⟩,
              ⟨(some 52), .fieldAddr 3 (.tmp 5), none⟩,
              ⟨(some 53), .load1 (.tmp 52), none⟩,
              ⟨(some 54), .call 105 [(.tmp 50), (.tmp 51), (.tmp 53), (.const (.int .u64 0)), (.const (.int .i64 0))], none⟩,
              ⟨(some 6), .mv (.tmp 54), none⟩])
            (.ret))
            (.seq (.region [
              ⟨(some 56), .bin .eql (.tmp 16) (.const (.int .u8 5)), none⟩,
              ⟨(some 55), .mv (.tmp 56), none⟩])
            (.cond (.tmp 55)
              (.seq (.region [
                ⟨(some 57), .mv (.tmp 0), none⟩,
                ⟨(some 58), .mv (.tmp 1), none⟩,
                ⟨(some 59), .fieldAddr 3 (.tmp 5), none⟩,
                ⟨(some 60), .load1 (.tmp 59), none⟩,
                ⟨(some 61), .call 105 [(.tmp 57), (.tmp 58), (.tmp 60), (.const (.int .u64 3)), (.const (.int .i64 1))], none⟩,
                ⟨(some 6), .mv (.tmp 61), none⟩])
              (.ret))
              (.seq (.region [
                ⟨(some 63), .bin .eql (.tmp 16) (.const (.int .u8 6)), none⟩,
                ⟨(some 62), .mv (.tmp 63), none⟩])
              (.cond (.tmp 62)
                (.region [
                  ⟨(some 64), .mv (.tmp 7), none⟩,
                  ⟨(some 65), .mv (.tmp 7), none⟩,
                  ⟨(some 66), .fieldAddr 4 (.tmp 5), none⟩,
                  ⟨(some 67), .load1 (.tmp 66), none⟩,
                  ⟨(some 68), .nilCheck (.tmp 64), none⟩,
                  ⟨(some 69), .fieldAddr 12 (.tmp 68), none⟩,
                  ⟨none, .store 1 (.tmp 69) (.tmp 67), none⟩,
                  ⟨(some 70), .nilCheck (.tmp 65), none⟩,
                  ⟨(some 71), .fieldAddr 0 (.tmp 70), none⟩,
                  ⟨none, .store 1 (.tmp 71) (.const (.int .i64 29)), none⟩])
                (.seq (.region [
                  ⟨(some 73), .bin .eql (.tmp 16) (.const (.int .u8 7)), none⟩,
                  ⟨(some 72), .mv (.tmp 73), none⟩])
                (.cond (.tmp 72)
                  (.seq (.seq (.region [
                    ⟨(some 74), .fieldAddr 3 (.tmp 5), none⟩,
                    ⟨(some 75), .load1 (.tmp 74), none⟩,
                    ⟨(some 76), .bin .lss (.tmp 75) (.const (.int .i64 0)), none⟩,
                    ⟨(some 77), .mv (.tmp 76), none⟩,
                    ⟨(some 78), .fieldAddr 3 (.tmp 5), (some (77, false))⟩,
                    ⟨(some 79), .load1 (.tmp 78), (some (77, false))⟩,
                    ⟨(some 80), .bin .geq (.tmp 79) (.const (.int .i64 65536)), (some (77, false))⟩,
                    ⟨(some 81), .pick (.tmp 77) (.const (.bool true)) (.tmp 80), none⟩])
                  (.cond (.tmp 81)
                    (.seq (.region [
                      ⟨(some 6), .mv (.const (.bool false)), none⟩])
                    (.ret))
                    (.skip)))
                  (.region [
                    ⟨(some 82), .mv (.tmp 7), none⟩,
                    ⟨(some 83), .mv (.tmp 7), none⟩,
                    ⟨(some 84), .fieldAddr 3 (.tmp 5), none⟩,
                    ⟨(some 85), .load1 (.tmp 84), none⟩,
                    ⟨(some 86), .nilCheck (.tmp 82), none⟩,
                    ⟨(some 87), .fieldAddr 12 (.tmp 86), none⟩,
                    ⟨none, .store 1 (.tmp 87) (.tmp 85), none⟩,
                    ⟨(some 88), .nilCheck (.tmp 83), none⟩,
                    ⟨(some 89), .fieldAddr 0 (.tmp 88), none⟩,
                    ⟨none, .store 1 (.tmp 89) (.const (.int .i64 30)), none⟩]))
                  (.seq (.region [
                    ⟨(some 6), .mv (.const (.bool false)), none⟩])
                  (.ret))))))))))))))))))))
  (.seq (.region [
    ⟨(some 6), .mv (.const (.bool true)), none⟩])
  (.ret)))), none⟩
set_option maxRecDepth 100000 in
theorem comp_70 : compFunc Tryz.prog 4 Tryz.f70 = some F70 := by kernel_rfl
theorem in_70 : F70.body.within F70.ntmps = true := by kernel_rfl

/-- '(*hostler/world.World).woken' -/
def F71 : AFunc := ⟨49, [.tmp 4],
  .seq (.region [
    ⟨(some 4), .mv (.const (.bool false)), none⟩])
  (.seq (.region [
    ⟨(some 6), .mv (.tmp 0), none⟩,
    ⟨(some 7), .nilCheck (.tmp 6), none⟩,
    ⟨(some 8), .fieldAddr 13 (.tmp 7), none⟩,
    ⟨(some 9), .load1 (.tmp 8), none⟩,
    ⟨(some 10), .mv (.tmp 1), none⟩,
    ⟨(some 11), .idxAddr 18 none (.tmp 9) (.tmp 10), none⟩,
    ⟨(some 5), .mv (.tmp 11), none⟩])
  (.seq (.seq (.draw [
    (⟨(some 12), .mv (.tmp 0), none⟩, .still),
    (⟨(some 13), .nilCheck (.tmp 12), none⟩, .still),
    (⟨(some 14), .fieldAddr 5 (.tmp 13), none⟩, .still),
    (⟨(some 15), .load1 (.tmp 14), none⟩, .reads 0 0),
    (⟨(some 16), .mv (.tmp 1), none⟩, .still),
    (⟨(some 17), .bin .add (.tmp 15) (.tmp 16), none⟩, .still),
    (⟨(some 18), .build [(.int .i64 0), (.int .i64 0)] [((0, 1), (.tmp 17)), ((1, 1), (.const (.int .i64 9223372036854775807)))], none⟩, .still),
    (⟨(some 19), .mv (.tmp 0), none⟩, .still),
    (⟨(some 20), .nilCheck (.tmp 19), none⟩, .still),
    (⟨(some 21), .fieldAddr 3 (.tmp 20), none⟩, .still),
    (⟨(some 22), .load1 (.tmp 21), none⟩, .reads 0 0),
    (⟨(some 23), .call 106 [(.tmp 18), (.tmp 22), (.const (.int .i64 0))], none⟩, .loud),
    (⟨(some 24), .bin .neq (.tmp 23) (.const (.int .i64 1)), none⟩, .still)])
  (.cond (.tmp 24)
    (.seq (.region [
      ⟨(some 4), .mv (.const (.bool false)), none⟩])
    (.ret))
    (.skip)))
  (.seq (.seq (.region [
    ⟨(some 25), .mv (.tmp 5), none⟩,
    ⟨(some 26), .nilCheck (.tmp 25), none⟩,
    ⟨(some 27), .fieldAddr 3 (.tmp 26), none⟩,
    ⟨(some 28), .load1 (.tmp 27), none⟩,
    ⟨(some 29), .bin .lss (.tmp 28) (.const (.int .i64 0)), none⟩])
  (.cond (.tmp 29)
    (.region [
      ⟨(some 30), .mv (.tmp 0), none⟩,
      ⟨(some 31), .mv (.tmp 1), none⟩,
      ⟨(some 32), .call 107 [(.tmp 30), (.tmp 31), (.const (.int .i64 13))], none⟩])
    (.region [
      ⟨(some 33), .mv (.tmp 5), none⟩,
      ⟨(some 34), .mv (.tmp 5), none⟩,
      ⟨(some 35), .mv (.tmp 5), none⟩,
      ⟨(some 36), .mv (.tmp 5), none⟩,
      ⟨(some 37), .mv (.tmp 5), none⟩,
      ⟨(some 38), .nilCheck (.tmp 37), none⟩,
      ⟨(some 39), .fieldAddr 3 (.tmp 38), none⟩,
      ⟨(some 40), .load1 (.tmp 39), none⟩,
      ⟨(some 41), .nilCheck (.tmp 33), none⟩,
      ⟨(some 42), .fieldAddr 1 (.tmp 41), none⟩,
      ⟨none, .store 1 (.tmp 42) (.tmp 40), none⟩,
      ⟨(some 43), .nilCheck (.tmp 34), none⟩,
      ⟨(some 44), .fieldAddr 3 (.tmp 43), none⟩,
      ⟨none, .store 1 (.tmp 44) (.const (.int .i64 (-1))), none⟩,
      ⟨(some 45), .nilCheck (.tmp 35), none⟩,
      ⟨(some 46), .fieldAddr 7 (.tmp 45), none⟩,
      ⟨none, .store 1 (.tmp 46) (.const (.bool true)), none⟩,
      ⟨(some 47), .nilCheck (.tmp 36), none⟩,
      ⟨(some 48), .fieldAddr 0 (.tmp 47), none⟩,
      ⟨none, .store 1 (.tmp 48) (.const (.int .i64 4)), none⟩])))
  (.seq (.region [
    ⟨(some 4), .mv (.const (.bool true)), none⟩])
  (.ret))))), none⟩
set_option maxRecDepth 100000 in
theorem comp_71 : compFunc Tryz.prog 4 Tryz.f71 = some F71 := by kernel_rfl
theorem in_71 : F71.body.within F71.ntmps = true := by kernel_rfl

/-- 'hostler/mach.Lock' -/
def F72 : AFunc := ⟨61, [.tmp 4],
  .seq (.region [
    ⟨(some 2), .box (.tmp 0), none⟩,
    ⟨(some 4), .mv (.const (.int .i64 0)), none⟩])
  (.seq (.region [
    ⟨(some 8), .fieldAddr 0 (.tmp 2), none⟩,
    ⟨(some 9), .load1 (.tmp 8), none⟩,
    ⟨(some 10), .call 108 [(.tmp 9)], none⟩,
    ⟨(some 7), .mv (.tmp 10), none⟩,
    ⟨(some 11), .extract 0 (.tmp 7), none⟩,
    ⟨(some 12), .extract 1 (.tmp 7), none⟩,
    ⟨(some 5), .alloc [(.str ⟨#[]⟩), (.int .i64 0)], none⟩,
    ⟨none, .store 2 (.tmp 5) (.tmp 11), none⟩,
    ⟨(some 6), .mv (.tmp 12), none⟩])
  (.seq (.seq (.region [
    ⟨(some 13), .mv (.tmp 6), none⟩,
    ⟨(some 14), .un .not (.tmp 13), none⟩,
    ⟨(some 15), .mv (.tmp 14), none⟩,
    ⟨(some 16), .mv (.tmp 1), (some (15, false))⟩,
    ⟨(some 17), .bin .lss (.tmp 16) (.const (.int .i64 1)), (some (15, false))⟩,
    ⟨(some 18), .pick (.tmp 15) (.const (.bool true)) (.tmp 17), none⟩])
  (.cond (.tmp 18)
    (.seq (.region [
      ⟨(some 4), .mv (.const (.int .i64 (-1))), none⟩])
    (.ret))
    (.skip)))
  (.seq (.seq (.region [
    ⟨(some 19), .fieldAddr 1 (.tmp 5), none⟩,
    ⟨(some 20), .load1 (.tmp 19), none⟩])
  (.block 0 (.seq (.region [
    ⟨(some 22), .bin .eql (.tmp 20) (.const (.int .i64 1)), none⟩,
    ⟨(some 21), .mv (.tmp 22), none⟩])
  (.cond (.tmp 21)
    (.seq (.region [
      ⟨(some 4), .mv (.const (.int .i64 0)), none⟩])
    (.ret))
    (.seq (.region [
      ⟨(some 24), .bin .eql (.tmp 20) (.const (.int .i64 5)), none⟩,
      ⟨(some 23), .mv (.tmp 24), none⟩])
    (.cond (.tmp 23)
      (.seq (.region [
        ⟨(some 25), .mv (.tmp 1), none⟩,
        ⟨(some 26), .bin .add (.tmp 25) (.const (.int .i64 1)), none⟩,
        ⟨(some 4), .mv (.tmp 26), none⟩])
      (.ret))
      (.seq (.region [
        ⟨(some 28), .bin .eql (.tmp 20) (.const (.int .i64 2)), none⟩,
        ⟨(some 27), .mv (.tmp 28), none⟩])
      (.cond (.tmp 27)
        (.seq (.region [
          ⟨(some 29), .fieldAddr 1 (.tmp 2), none⟩,
          ⟨(some 30), .load1 (.tmp 29), none⟩,
          ⟨(some 31), .mv (.tmp 1), none⟩,
          ⟨(some 32), .call 109 [(.tmp 30), (.tmp 31)], none⟩,
          ⟨(some 4), .mv (.tmp 32), none⟩])
        (.ret))
        (.seq (.region [
          ⟨(some 34), .bin .eql (.tmp 20) (.const (.int .i64 4)), none⟩,
          ⟨(some 33), .mv (.tmp 34), none⟩])
        (.cond (.tmp 33)
          (.seq (.region [
            ⟨(some 35), .fieldAddr 6 (.tmp 2), none⟩,
            ⟨(some 36), .load1 (.tmp 35), none⟩,
            ⟨(some 37), .mv (.tmp 1), none⟩,
            ⟨(some 38), .call 109 [(.tmp 36), (.tmp 37)], none⟩,
            ⟨(some 4), .mv (.tmp 38), none⟩])
          (.ret))
          (.seq (.region [
            ⟨(some 40), .bin .eql (.tmp 20) (.const (.int .i64 3)), none⟩,
            ⟨(some 39), .mv (.tmp 40), none⟩])
          (.cond (.tmp 39)
            (.seq (.region [
              ⟨(some 41), .fieldAddr 6 (.tmp 2), none⟩,
              ⟨(some 42), .load1 (.tmp 41), none⟩,
              ⟨(some 43), .bin .geq (.tmp 42) (.const (.int .i64 0)), none⟩,
              ⟨(some 44), .mv (.tmp 43), none⟩,
              ⟨(some 45), .fieldAddr 1 (.tmp 2), (some (44, true))⟩,
              ⟨(some 46), .load1 (.tmp 45), (some (44, true))⟩,
              ⟨(some 47), .mv (.tmp 1), (some (44, true))⟩,
              ⟨(some 48), .call 109 [(.tmp 46), (.tmp 47)], (some (44, true))⟩,
              ⟨(some 49), .bin .gtr (.tmp 48) (.const (.int .i64 0)), (some (44, true))⟩,
              ⟨(some 50), .pick (.tmp 44) (.tmp 49) (.const (.bool false)), none⟩])
            (.cond (.tmp 50)
              (.seq (.draw [
                (⟨(some 51), .fieldAddr 1 (.tmp 2), none⟩, .still),
                (⟨(some 52), .load1 (.tmp 51), none⟩, .reads 0 0),
                (⟨(some 53), .fieldAddr 6 (.tmp 2), none⟩, .still),
                (⟨(some 54), .load1 (.tmp 53), none⟩, .reads 0 0),
                (⟨(some 55), .mv (.tmp 1), none⟩, .still),
                (⟨(some 56), .bin .rem (.tmp 54) (.tmp 55), none⟩, .still),
                (⟨(some 57), .bin .add (.tmp 52) (.tmp 56), none⟩, .still),
                (⟨(some 58), .mv (.tmp 1), none⟩, .still),
                (⟨(some 59), .bin .rem (.tmp 57) (.tmp 58), none⟩, .still),
                (⟨(some 60), .bin .add (.tmp 59) (.const (.int .i64 1)), none⟩, .still),
                (⟨(some 4), .mv (.tmp 60), none⟩, .still)])
              (.ret))
              (.skip)))
            (.skip)))))))))))))
  (.seq (.region [
    ⟨(some 4), .mv (.const (.int .i64 (-1))), none⟩])
  (.ret))))), none⟩
set_option maxRecDepth 100000 in
theorem comp_72 : compFunc Tryz.prog 4 Tryz.f72 = some F72 := by kernel_rfl
theorem in_72 : F72.body.within F72.ntmps = true := by kernel_rfl

/-- '(*hostler/world.World).locked' -/
def F73 : AFunc := ⟨52, [],
  .seq (.region [
    ⟨(some 3), .box (.tmp 0), none⟩,
    ⟨(some 4), .box (.tmp 1), none⟩])
  (.seq (.draw [
    (⟨(some 7), .load1 (.tmp 3), none⟩, .reads 0 0),
    (⟨(some 8), .nilCheck (.tmp 7), none⟩, .still),
    (⟨(some 9), .fieldAddr 13 (.tmp 8), none⟩, .still),
    (⟨(some 10), .load1 (.tmp 9), none⟩, .reads 0 0),
    (⟨(some 11), .load1 (.tmp 4), none⟩, .reads 0 0),
    (⟨(some 12), .idxAddr 18 none (.tmp 10) (.tmp 11), none⟩, .still),
    (⟨(some 6), .mv (.tmp 12), none⟩, .still)])
  (.seq (.seq (.region [
    ⟨(some 13), .mv (.tmp 6), none⟩,
    ⟨(some 14), .nilCheck (.tmp 13), none⟩,
    ⟨(some 15), .fieldAddr 8 (.tmp 14), none⟩,
    ⟨(some 16), .load1 (.tmp 15), none⟩,
    ⟨(some 17), .un .not (.tmp 16), none⟩])
  (.cond (.tmp 17)
    (.seq (.region [
      ⟨(some 18), .mv (.tmp 6), none⟩,
      ⟨(some 19), .mv (.tmp 2), none⟩,
      ⟨(some 20), .bin .mul (.const (.int .i64 2)) (.tmp 19), none⟩,
      ⟨(some 21), .mv (.tmp 2), none⟩,
      ⟨(some 22), .bin .mul (.const (.int .i64 2)) (.tmp 21), none⟩,
      ⟨(some 23), .bin .add (.tmp 22) (.const (.int .i64 1)), none⟩,
      ⟨(some 24), .build [(.int .i64 0), (.int .i64 0)] [((0, 1), (.tmp 20)), ((1, 1), (.tmp 23))], none⟩,
      ⟨(some 25), .call 110 [(.tmp 24)], none⟩,
      ⟨(some 26), .nilCheck (.tmp 18), none⟩,
      ⟨(some 27), .fieldAddr 13 (.tmp 26), none⟩,
      ⟨none, .store 5 (.tmp 27) (.tmp 25), none⟩])
    (.seq (.region [
      ⟨(some 28), .mv (.tmp 6), none⟩,
      ⟨(some 29), .nilCheck (.tmp 28), none⟩,
      ⟨(some 30), .fieldAddr 8 (.tmp 29), none⟩,
      ⟨none, .store 1 (.tmp 30) (.const (.bool true)), none⟩])
    (.draw [
      (⟨(some 31), .load1 (.tmp 3), none⟩, .reads 0 0),
      (⟨(some 32), .nilCheck (.tmp 31), none⟩, .still),
      (⟨(some 33), .fieldAddr 14 (.tmp 32), none⟩, .still),
      (⟨(some 34), .load1 (.tmp 33), none⟩, .reads 0 0),
      (⟨(some 35), .load1 (.tmp 4), none⟩, .reads 0 0),
      (⟨(some 36), .idxAddr 1 none (.tmp 34) (.tmp 35), none⟩, .still),
      (⟨none, .store 1 (.tmp 36) (.const (.bool false)), none⟩, .loud)])))
    (.skip)))
  (.seq (.draw [
    (⟨(some 37), .mv (.tmp 6), none⟩, .still),
    (⟨(some 38), .nilCheck (.tmp 37), none⟩, .still),
    (⟨(some 39), .fieldAddr 13 (.tmp 38), none⟩, .still),
    (⟨(some 40), .load1 (.tmp 3), none⟩, .reads 0 0),
    (⟨(some 41), .nilCheck (.tmp 40), none⟩, .still),
    (⟨(some 42), .fieldAddr 3 (.tmp 41), none⟩, .still),
    (⟨(some 43), .load1 (.tmp 42), none⟩, .reads 0 0),
    (⟨(some 44), .mkfunc 112 [] [(.tmp 3), (.tmp 4)], none⟩, .still),
    (⟨(some 45), .call 111 [(.tmp 39), (.tmp 43), (.tmp 44)], none⟩, .loud)])
  (.cond (.tmp 45)
    (.seq (.region [
      ⟨(some 46), .mv (.tmp 6), none⟩,
      ⟨(some 47), .nilCheck (.tmp 46), none⟩,
      ⟨(some 48), .fieldAddr 8 (.tmp 47), none⟩,
      ⟨none, .store 1 (.tmp 48) (.const (.bool false)), none⟩])
    (.region [
      ⟨(some 49), .load1 (.tmp 3), none⟩,
      ⟨(some 50), .load1 (.tmp 4), none⟩,
      ⟨(some 51), .call 114 [(.tmp 49), (.tmp 50)], none⟩]))
    (.skip))))), none⟩
set_option maxRecDepth 100000 in
theorem comp_73 : compFunc Tryz.prog 4 Tryz.f73 = some F73 := by kernel_rfl
theorem in_73 : F73.body.within F73.ntmps = true := by kernel_rfl

/-- '(*hostler/world.World).bare' -/
def F74 : AFunc := ⟨246, [],
  .seq (.region [
    ⟨(some 5), .mv (.tmp 0), none⟩,
    ⟨(some 6), .nilCheck (.tmp 5), none⟩,
    ⟨(some 7), .fieldAddr 13 (.tmp 6), none⟩,
    ⟨(some 8), .load1 (.tmp 7), none⟩,
    ⟨(some 9), .mv (.tmp 1), none⟩,
    ⟨(some 10), .idxAddr 18 none (.tmp 8) (.tmp 9), none⟩,
    ⟨(some 4), .mv (.tmp 10), none⟩])
  (.seq (.region [
    ⟨(some 11), .mv (.tmp 4), none⟩,
    ⟨(some 12), .nilCheck (.tmp 11), none⟩,
    ⟨(some 13), .fieldAddr 0 (.tmp 12), none⟩,
    ⟨(some 14), .load1 (.tmp 13), none⟩])
  (.block 0 (.seq (.region [
    ⟨(some 16), .bin .eql (.tmp 14) (.const (.int .i64 1)), none⟩,
    ⟨(some 15), .mv (.tmp 16), none⟩])
  (.cond (.tmp 15)
    (.seq (.draw [
      (⟨(some 17), .mv (.tmp 0), none⟩, .still),
      (⟨(some 18), .nilCheck (.tmp 17), none⟩, .still),
      (⟨(some 19), .fieldAddr 9 (.tmp 18), none⟩, .still),
      (⟨(some 20), .load1 (.tmp 19), none⟩, .reads 0 0),
      (⟨(some 21), .mv (.tmp 4), none⟩, .still),
      (⟨(some 22), .nilCheck (.tmp 21), none⟩, .still),
      (⟨(some 23), .fieldAddr 1 (.tmp 22), none⟩, .still),
      (⟨(some 24), .load1 (.tmp 23), none⟩, .reads 0 0),
      (⟨(some 25), .idxAddr 1 none (.tmp 20) (.tmp 24), none⟩, .still),
      (⟨(some 26), .load1 (.tmp 25), none⟩, .reads 0 0),
      (⟨(some 27), .bin .add (.tmp 26) (.const (.int .i64 1)), none⟩, .still),
      (⟨(some 28), .idxAddr 1 none (.tmp 20) (.tmp 24), none⟩, .still),
      (⟨none, .store 1 (.tmp 28) (.tmp 27), none⟩, .loud)])
    (.seq (.region [
      ⟨(some 29), .mv (.tmp 4), none⟩,
      ⟨(some 30), .nilCheck (.tmp 29), none⟩,
      ⟨(some 31), .fieldAddr 0 (.tmp 30), none⟩,
      ⟨none, .store 1 (.tmp 31) (.const (.int .i64 3)), none⟩])
    (.seq (.draw [
      (⟨(some 32), .mv (.tmp 0), none⟩, .still),
      (⟨(some 33), .nilCheck (.tmp 32), none⟩, .still),
      (⟨(some 34), .fieldAddr 9 (.tmp 33), none⟩, .still),
      (⟨(some 35), .load1 (.tmp 34), none⟩, .reads 0 0),
      (⟨(some 36), .mv (.tmp 4), none⟩, .still),
      (⟨(some 37), .nilCheck (.tmp 36), none⟩, .still),
      (⟨(some 38), .fieldAddr 1 (.tmp 37), none⟩, .still),
      (⟨(some 39), .load1 (.tmp 38), none⟩, .reads 0 0),
      (⟨(some 40), .idxAddr 1 none (.tmp 35) (.tmp 39), none⟩, .still),
      (⟨(some 41), .load1 (.tmp 40), none⟩, .reads 0 0),
      (⟨(some 42), .bin .rem (.tmp 41) (.const (.int .i64 61)), none⟩, .still),
      (⟨(some 43), .bin .eql (.tmp 42) (.const (.int .i64 0)), none⟩, .still)])
    (.cond (.tmp 43)
      (.region [
        ⟨(some 44), .mv (.tmp 0), none⟩,
        ⟨(some 45), .mv (.tmp 1), none⟩,
        ⟨(some 46), .call 107 [(.tmp 44), (.tmp 45), (.const (.int .i64 2))], none⟩])
      (.skip)))))
    (.seq (.region [
      ⟨(some 48), .bin .eql (.tmp 14) (.const (.int .i64 5)), none⟩,
      ⟨(some 47), .mv (.tmp 48), none⟩])
    (.cond (.tmp 47)
      (.seq (.draw [
        (⟨(some 49), .mv (.tmp 0), none⟩, .still),
        (⟨(some 50), .nilCheck (.tmp 49), none⟩, .still),
        (⟨(some 51), .fieldAddr 3 (.tmp 50), none⟩, .still),
        (⟨(some 52), .load1 (.tmp 51), none⟩, .reads 0 0),
        (⟨(some 53), .mv (.tmp 0), none⟩, .still),
        (⟨(some 54), .nilCheck (.tmp 53), none⟩, .still),
        (⟨(some 55), .fieldAddr 4 (.tmp 54), none⟩, .still),
        (⟨(some 56), .load1 (.tmp 55), none⟩, .reads 0 0),
        (⟨(some 57), .call 115 [(.tmp 52), (.tmp 56), (.const (.int .i64 1))], none⟩, .loud)])
      (.seq (.region [
        ⟨(some 58), .mv (.tmp 4), none⟩,
        ⟨(some 59), .nilCheck (.tmp 58), none⟩,
        ⟨(some 60), .fieldAddr 7 (.tmp 59), none⟩,
        ⟨none, .store 1 (.tmp 60) (.const (.bool true)), none⟩])
      (.region [
        ⟨(some 61), .mv (.tmp 0), none⟩,
        ⟨(some 62), .mv (.tmp 1), none⟩,
        ⟨(some 63), .call 116 [(.tmp 61), (.tmp 62), (.const (.int .i64 1))], none⟩])))
      (.seq (.region [
        ⟨(some 65), .bin .eql (.tmp 14) (.const (.int .i64 12)), none⟩,
        ⟨(some 64), .mv (.tmp 65), none⟩])
      (.cond (.tmp 64)
        (.seq (.draw [
          (⟨(some 66), .mv (.tmp 0), none⟩, .still),
          (⟨(some 67), .nilCheck (.tmp 66), none⟩, .still),
          (⟨(some 68), .fieldAddr 3 (.tmp 67), none⟩, .still),
          (⟨(some 69), .load1 (.tmp 68), none⟩, .reads 0 0),
          (⟨(some 70), .mv (.tmp 0), none⟩, .still),
          (⟨(some 71), .nilCheck (.tmp 70), none⟩, .still),
          (⟨(some 72), .fieldAddr 4 (.tmp 71), none⟩, .still),
          (⟨(some 73), .load1 (.tmp 72), none⟩, .reads 0 0),
          (⟨(some 74), .call 115 [(.tmp 69), (.tmp 73), (.const (.int .i64 1))], none⟩, .loud)])
        (.region [
          ⟨(some 75), .mv (.tmp 4), none⟩,
          ⟨(some 76), .mv (.tmp 4), none⟩,
          ⟨(some 77), .nilCheck (.tmp 75), none⟩,
          ⟨(some 78), .fieldAddr 7 (.tmp 77), none⟩,
          ⟨none, .store 1 (.tmp 78) (.const (.bool true)), none⟩,
          ⟨(some 79), .nilCheck (.tmp 76), none⟩,
          ⟨(some 80), .fieldAddr 0 (.tmp 79), none⟩,
          ⟨none, .store 1 (.tmp 80) (.const (.int .i64 4)), none⟩]))
        (.seq (.region [
          ⟨(some 82), .bin .eql (.tmp 14) (.const (.int .i64 8)), none⟩,
          ⟨(some 81), .mv (.tmp 82), none⟩])
        (.cond (.tmp 81)
          (.seq (.draw [
            (⟨(some 83), .mv (.tmp 0), none⟩, .still),
            (⟨(some 84), .nilCheck (.tmp 83), none⟩, .still),
            (⟨(some 85), .fieldAddr 3 (.tmp 84), none⟩, .still),
            (⟨(some 86), .load1 (.tmp 85), none⟩, .reads 0 0),
            (⟨(some 87), .mv (.tmp 0), none⟩, .still),
            (⟨(some 88), .nilCheck (.tmp 87), none⟩, .still),
            (⟨(some 89), .fieldAddr 4 (.tmp 88), none⟩, .still),
            (⟨(some 90), .load1 (.tmp 89), none⟩, .reads 0 0),
            (⟨(some 91), .call 115 [(.tmp 86), (.tmp 90), (.const (.int .i64 (-1)))], none⟩, .loud)])
          (.region [
            ⟨(some 92), .mv (.tmp 4), none⟩,
            ⟨(some 93), .mv (.tmp 4), none⟩,
            ⟨(some 94), .mv (.tmp 4), none⟩,
            ⟨(some 95), .nilCheck (.tmp 92), none⟩,
            ⟨(some 96), .fieldAddr 7 (.tmp 95), none⟩,
            ⟨none, .store 1 (.tmp 96) (.const (.bool false)), none⟩,
            ⟨(some 97), .nilCheck (.tmp 93), none⟩,
            ⟨(some 98), .fieldAddr 6 (.tmp 97), none⟩,
            ⟨none, .store 1 (.tmp 98) (.const (.int .i64 0)), none⟩,
            ⟨(some 99), .nilCheck (.tmp 94), none⟩,
            ⟨(some 100), .fieldAddr 0 (.tmp 99), none⟩,
            ⟨none, .store 1 (.tmp 100) (.const (.int .i64 9)), none⟩]))
          (.seq (.region [
            ⟨(some 102), .bin .eql (.tmp 14) (.const (.int .i64 19)), none⟩,
            ⟨(some 101), .mv (.tmp 102), none⟩])
          (.cond (.tmp 101)
            (.seq (.draw [
              (⟨(some 103), .mv (.tmp 0), none⟩, .still),
              (⟨(some 104), .nilCheck (.tmp 103), none⟩, .still),
              (⟨(some 105), .fieldAddr 3 (.tmp 104), none⟩, .still),
              (⟨(some 106), .load1 (.tmp 105), none⟩, .reads 0 0),
              (⟨(some 107), .mv (.tmp 0), none⟩, .still),
              (⟨(some 108), .nilCheck (.tmp 107), none⟩, .still),
              (⟨(some 109), .fieldAddr 4 (.tmp 108), none⟩, .still),
              (⟨(some 110), .load1 (.tmp 109), none⟩, .reads 0 0),
              (⟨(some 111), .call 115 [(.tmp 106), (.tmp 110), (.const (.int .i64 (-1)))], none⟩, .loud)])
            (.region [
              ⟨(some 112), .mv (.tmp 4), none⟩,
              ⟨(some 113), .mv (.tmp 4), none⟩,
              ⟨(some 114), .nilCheck (.tmp 112), none⟩,
              ⟨(some 115), .fieldAddr 7 (.tmp 114), none⟩,
              ⟨none, .store 1 (.tmp 115) (.const (.bool false)), none⟩,
              ⟨(some 116), .nilCheck (.tmp 113), none⟩,
              ⟨(some 117), .fieldAddr 0 (.tmp 116), none⟩,
              ⟨none, .store 1 (.tmp 117) (.const (.int .i64 21)), none⟩]))
            (.seq (.region [
              ⟨(some 119), .bin .eql (.tmp 14) (.const (.int .i64 20)), none⟩,
              ⟨(some 118), .mv (.tmp 119), none⟩])
            (.cond (.tmp 118)
              (.seq (.draw [
                (⟨(some 120), .mv (.tmp 0), none⟩, .still),
                (⟨(some 121), .nilCheck (.tmp 120), none⟩, .still),
                (⟨(some 122), .fieldAddr 6 (.tmp 121), none⟩, .still),
                (⟨(some 123), .loadN 2 (.tmp 122), none⟩, .reads 0 0),
                (⟨(some 124), .mv (.tmp 0), none⟩, .still),
                (⟨(some 125), .nilCheck (.tmp 124), none⟩, .still),
                (⟨(some 126), .fieldAddr 3 (.tmp 125), none⟩, .still),
                (⟨(some 127), .load1 (.tmp 126), none⟩, .reads 0 0),
                (⟨(some 128), .mv (.tmp 4), none⟩, .still),
                (⟨(some 129), .nilCheck (.tmp 128), none⟩, .still),
                (⟨(some 130), .fieldAddr 4 (.tmp 129), none⟩, .still),
                (⟨(some 131), .load1 (.tmp 130), none⟩, .reads 0 0),
                (⟨(some 132), .call 54 [(.tmp 123), (.tmp 127), (.tmp 131), (.const (.int .u64 1)), (.const (.int .u64 2))], none⟩, .loud)])
              (.seq (.region [
                ⟨(some 133), .mv (.tmp 0), none⟩,
                ⟨(some 134), .mv (.tmp 1), none⟩,
                ⟨(some 135), .mv (.tmp 4), none⟩,
                ⟨(some 136), .nilCheck (.tmp 135), none⟩,
                ⟨(some 137), .fieldAddr 4 (.tmp 136), none⟩,
                ⟨(some 138), .load1 (.tmp 137), none⟩,
                ⟨(some 139), .call 117 [(.tmp 133), (.tmp 134), (.const (.int .i64 2)), (.tmp 138), (.const (.int .i64 0))], none⟩])
              (.region [
                ⟨(some 140), .mv (.tmp 4), none⟩,
                ⟨(some 141), .mv (.tmp 4), none⟩,
                ⟨(some 142), .mv (.tmp 4), none⟩,
                ⟨(some 143), .mv (.tmp 4), none⟩,
                ⟨(some 144), .nilCheck (.tmp 143), none⟩,
                ⟨(some 145), .fieldAddr 4 (.tmp 144), none⟩,
                ⟨(some 146), .load1 (.tmp 145), none⟩,
                ⟨(some 147), .nilCheck (.tmp 140), none⟩,
                ⟨(some 148), .fieldAddr 2 (.tmp 147), none⟩,
                ⟨none, .store 1 (.tmp 148) (.tmp 146), none⟩,
                ⟨(some 149), .nilCheck (.tmp 141), none⟩,
                ⟨(some 150), .fieldAddr 4 (.tmp 149), none⟩,
                ⟨none, .store 1 (.tmp 150) (.const (.int .i64 (-1))), none⟩,
                ⟨(some 151), .nilCheck (.tmp 142), none⟩,
                ⟨(some 152), .fieldAddr 0 (.tmp 151), none⟩,
                ⟨none, .store 1 (.tmp 152) (.const (.int .i64 0)), none⟩])))
              (.seq (.region [
                ⟨(some 154), .bin .eql (.tmp 14) (.const (.int .i64 21)), none⟩,
                ⟨(some 153), .mv (.tmp 154), none⟩])
              (.cond (.tmp 153)
                (.draw [
                  (⟨(some 155), .mv (.tmp 4), none⟩, .still),
                  (⟨(some 156), .mv (.tmp 0), none⟩, .still),
                  (⟨(some 157), .nilCheck (.tmp 156), none⟩, .still),
                  (⟨(some 158), .fieldAddr 3 (.tmp 157), none⟩, .still),
                  (⟨(some 159), .load1 (.tmp 158), none⟩, .reads 0 0),
                  (⟨(some 160), .mv (.tmp 0), none⟩, .still),
                  (⟨(some 161), .nilCheck (.tmp 160), none⟩, .still),
                  (⟨(some 162), .fieldAddr 4 (.tmp 161), none⟩, .still),
                  (⟨(some 163), .load1 (.tmp 162), none⟩, .reads 0 0),
                  (⟨(some 164), .call 37 [(.tmp 159), (.tmp 163)], none⟩, .loud),
                  (⟨(some 165), .bin .eql (.tmp 164) (.const (.int .u64 0)), none⟩, .still),
                  (⟨(some 166), .mv (.tmp 4), none⟩, .still),
                  (⟨(some 167), .nilCheck (.tmp 166), none⟩, .still),
                  (⟨(some 168), .fieldAddr 10 (.tmp 167), none⟩, .still),
                  (⟨(some 169), .load1 (.tmp 168), none⟩, .reads 0 1),
                  (⟨(some 170), .call 118 [(.tmp 165), (.const (.int .i64 22)), (.tmp 169)], none⟩, .loud),
                  (⟨(some 171), .nilCheck (.tmp 155), none⟩, .still),
                  (⟨(some 172), .fieldAddr 0 (.tmp 171), none⟩, .still),
                  (⟨none, .store 1 (.tmp 172) (.tmp 170), none⟩, .loud)])
                (.seq (.region [
                  ⟨(some 174), .bin .eql (.tmp 14) (.const (.int .i64 22)), none⟩,
                  ⟨(some 173), .mv (.tmp 174), none⟩])
                (.cond (.tmp 173)
                  (.draw [
                    (⟨(some 175), .mv (.tmp 4), none⟩, .still),
                    (⟨(some 176), .mv (.tmp 0), none⟩, .still),
                    (⟨(some 177), .nilCheck (.tmp 176), none⟩, .still),
                    (⟨(some 178), .fieldAddr 3 (.tmp 177), none⟩, .still),
                    (⟨(some 179), .load1 (.tmp 178), none⟩, .reads 0 0),
                    (⟨(some 180), .mv (.tmp 0), none⟩, .still),
                    (⟨(some 181), .nilCheck (.tmp 180), none⟩, .still),
                    (⟨(some 182), .fieldAddr 4 (.tmp 181), none⟩, .still),
                    (⟨(some 183), .load1 (.tmp 182), none⟩, .reads 0 0),
                    (⟨(some 184), .call 97 [(.tmp 179), (.tmp 183), (.const (.int .u64 0)), (.const (.int .u64 1))], none⟩, .loud),
                    (⟨(some 185), .mv (.tmp 4), none⟩, .still),
                    (⟨(some 186), .nilCheck (.tmp 185), none⟩, .still),
                    (⟨(some 187), .fieldAddr 10 (.tmp 186), none⟩, .still),
                    (⟨(some 188), .load1 (.tmp 187), none⟩, .reads 0 1),
                    (⟨(some 189), .call 118 [(.tmp 184), (.const (.int .i64 23)), (.tmp 188)], none⟩, .loud),
                    (⟨(some 190), .nilCheck (.tmp 175), none⟩, .still),
                    (⟨(some 191), .fieldAddr 0 (.tmp 190), none⟩, .still),
                    (⟨none, .store 1 (.tmp 191) (.tmp 189), none⟩, .loud)])
                  (.seq (.region [
                    ⟨(some 193), .bin .eql (.tmp 14) (.const (.int .i64 24)), none⟩,
                    ⟨(some 192), .mv (.tmp 193), none⟩])
                  (.cond (.tmp 192)
                    (.seq (.draw [
                      (⟨(some 194), .mv (.tmp 0), none⟩, .still),
                      (⟨(some 195), .nilCheck (.tmp 194), none⟩, .still),
                      (⟨(some 196), .fieldAddr 3 (.tmp 195), none⟩, .still),
                      (⟨(some 197), .load1 (.tmp 196), none⟩, .reads 0 0),
                      (⟨(some 198), .mv (.tmp 0), none⟩, .still),
                      (⟨(some 199), .nilCheck (.tmp 198), none⟩, .still),
                      (⟨(some 200), .fieldAddr 5 (.tmp 199), none⟩, .still),
                      (⟨(some 201), .load1 (.tmp 200), none⟩, .reads 0 0),
                      (⟨(some 202), .mv (.tmp 4), none⟩, .still),
                      (⟨(some 203), .nilCheck (.tmp 202), none⟩, .still),
                      (⟨(some 204), .fieldAddr 5 (.tmp 203), none⟩, .still),
                      (⟨(some 205), .load1 (.tmp 204), none⟩, .reads 0 0),
                      (⟨(some 206), .bin .add (.tmp 201) (.tmp 205), none⟩, .still),
                      (⟨(some 207), .call 76 [(.tmp 197), (.tmp 206)], none⟩, .loud)])
                    (.region [
                      ⟨(some 208), .mv (.tmp 4), none⟩,
                      ⟨(some 209), .mv (.tmp 4), none⟩,
                      ⟨(some 210), .mv (.tmp 4), none⟩,
                      ⟨(some 211), .nilCheck (.tmp 210), none⟩,
                      ⟨(some 212), .fieldAddr 10 (.tmp 211), none⟩,
                      ⟨(some 213), .load1 (.tmp 212), none⟩,
                      ⟨(some 214), .nilCheck (.tmp 208), none⟩,
                      ⟨(some 215), .fieldAddr 5 (.tmp 214), none⟩,
                      ⟨none, .store 1 (.tmp 215) (.const (.int .i64 (-1))), none⟩,
                      ⟨(some 216), .nilCheck (.tmp 209), none⟩,
                      ⟨(some 217), .fieldAddr 0 (.tmp 216), none⟩,
                      ⟨none, .store 1 (.tmp 217) (.tmp 213), none⟩]))
                    (.seq (.region [
                      ⟨(some 219), .bin .eql (.tmp 14) (.const (.int .i64 26)), none⟩,
                      ⟨(some 218), .mv (.tmp 219), none⟩])
                    (.cond (.tmp 218)
                      (.seq (.draw [
                        (⟨(some 220), .mv (.tmp 0), none⟩, .still),
                        (⟨(some 221), .nilCheck (.tmp 220), none⟩, .still),
                        (⟨(some 222), .fieldAddr 6 (.tmp 221), none⟩, .still),
                        (⟨(some 223), .loadN 2 (.tmp 222), none⟩, .reads 0 0),
                        (⟨(some 224), .mv (.tmp 0), none⟩, .still),
                        (⟨(some 225), .nilCheck (.tmp 224), none⟩, .still),
                        (⟨(some 226), .fieldAddr 3 (.tmp 225), none⟩, .still),
                        (⟨(some 227), .load1 (.tmp 226), none⟩, .reads 0 0),
                        (⟨(some 228), .mv (.tmp 4), none⟩, .still),
                        (⟨(some 229), .nilCheck (.tmp 228), none⟩, .still),
                        (⟨(some 230), .fieldAddr 4 (.tmp 229), none⟩, .still),
                        (⟨(some 231), .load1 (.tmp 230), none⟩, .reads 0 0),
                        (⟨(some 232), .call 119 [(.tmp 223), (.tmp 227), (.tmp 231), (.const (.int .u64 1))], none⟩, .loud)])
                      (.seq (.region [
                        ⟨(some 233), .mv (.tmp 0), none⟩,
                        ⟨(some 234), .mv (.tmp 1), none⟩,
                        ⟨(some 235), .mv (.tmp 4), none⟩,
                        ⟨(some 236), .nilCheck (.tmp 235), none⟩,
                        ⟨(some 237), .fieldAddr 4 (.tmp 236), none⟩,
                        ⟨(some 238), .load1 (.tmp 237), none⟩,
                        ⟨(some 239), .call 117 [(.tmp 233), (.tmp 234), (.const (.int .i64 1)), (.tmp 238), (.const (.int .i64 0))], none⟩])
                      (.region [
                        ⟨(some 240), .mv (.tmp 4), none⟩,
                        ⟨(some 241), .mv (.tmp 4), none⟩,
                        ⟨(some 242), .nilCheck (.tmp 240), none⟩,
                        ⟨(some 243), .fieldAddr 10 (.tmp 242), none⟩,
                        ⟨none, .store 1 (.tmp 243) (.const (.int .i64 25)), none⟩,
                        ⟨(some 244), .nilCheck (.tmp 241), none⟩,
                        ⟨(some 245), .fieldAddr 0 (.tmp 244), none⟩,
                        ⟨none, .store 1 (.tmp 245) (.const (.int .i64 27)), none⟩])))
                      (.skip))))))))))))))))))))))), none⟩
set_option maxRecDepth 100000 in
theorem comp_74 : compFunc Tryz.prog 4 Tryz.f74 = some F74 := by kernel_rfl
theorem in_74 : F74.body.within F74.ntmps = true := by kernel_rfl

/-- '(*hostler/idle.Idle).Leave' -/
def F75 : AFunc := ⟨18, [.tmp 4],
  .seq (.region [
    ⟨(some 4), .mv (.const (.bool false)), none⟩])
  (.seq (.seq (.region [
    ⟨(some 5), .mv (.tmp 1), none⟩,
    ⟨(some 6), .bin .lss (.tmp 5) (.const (.int .i64 0)), none⟩,
    ⟨(some 7), .mv (.tmp 6), none⟩,
    ⟨(some 8), .mv (.tmp 1), (some (7, false))⟩,
    ⟨(some 9), .mv (.tmp 0), (some (7, false))⟩,
    ⟨(some 10), .nilCheck (.tmp 9), (some (7, false))⟩,
    ⟨(some 11), .fieldAddr 3 (.tmp 10), (some (7, false))⟩,
    ⟨(some 12), .load1 (.tmp 11), (some (7, false))⟩,
    ⟨(some 13), .bin .neq (.tmp 8) (.tmp 12), (some (7, false))⟩,
    ⟨(some 14), .pick (.tmp 7) (.const (.bool true)) (.tmp 13), none⟩])
  (.cond (.tmp 14)
    (.seq (.region [
      ⟨(some 4), .mv (.const (.bool false)), none⟩])
    (.ret))
    (.skip)))
  (.seq (.region [
    ⟨(some 15), .mv (.tmp 0), none⟩,
    ⟨(some 16), .nilCheck (.tmp 15), none⟩,
    ⟨(some 17), .fieldAddr 3 (.tmp 16), none⟩,
    ⟨none, .store 1 (.tmp 17) (.const (.int .i64 (-1))), none⟩])
  (.seq (.region [
    ⟨(some 4), .mv (.const (.bool true)), none⟩])
  (.ret)))), none⟩
set_option maxRecDepth 100000 in
theorem comp_75 : compFunc Tryz.prog 4 Tryz.f75 = some F75 := by kernel_rfl
theorem in_75 : F75.body.within F75.ntmps = true := by kernel_rfl

/-- 'hostler/note.Wake' -/
def F76 : AFunc := ⟨8, [.tmp 4],
  .seq (.region [
    ⟨(some 4), .mv (.const (.bool false)), none⟩])
  (.seq (.region [
    ⟨(some 5), .mv (.tmp 0), none⟩,
    ⟨(some 6), .mv (.tmp 1), none⟩,
    ⟨(some 7), .call 97 [(.tmp 5), (.tmp 6), (.const (.int .u64 0)), (.const (.int .u64 1))], none⟩,
    ⟨(some 4), .mv (.tmp 7), none⟩])
  (.ret)), none⟩
set_option maxRecDepth 100000 in
theorem comp_76 : compFunc Tryz.prog 4 Tryz.f76 = some F76 := by kernel_rfl
theorem in_76 : F76.body.within F76.ntmps = true := by kernel_rfl

/-- 'slices.Clone[[]uint64,uint64]' -/
def F80 : AFunc := ⟨8, [.tmp 2],
  .seq (.region [
    ⟨(some 2), .mv (.const .nilslice), none⟩])
  (.seq (.seq (.region [
    ⟨(some 3), .mv (.tmp 0), none⟩,
    ⟨(some 4), .cmpNil false 1 (.tmp 3) (.const .nilslice), none⟩])
  (.cond (.tmp 4)
    (.seq (.region [
      ⟨(some 2), .mv (.const .nilslice), none⟩])
    (.ret))
    (.skip)))
  (.seq (.region [
    ⟨(some 5), .buildSlice [] 0 [], none⟩,
    ⟨(some 6), .mv (.tmp 0), none⟩,
    ⟨(some 7), .append 1 8 [(.int .u64 0)] (.tmp 5) (.tmp 6), none⟩,
    ⟨(some 2), .mv (.tmp 7), none⟩])
  (.ret))), none⟩
set_option maxRecDepth 100000 in
theorem comp_80 : compFunc Tryz.prog 4 Tryz.f80 = some F80 := by kernel_rfl
theorem in_80 : F80.body.within F80.ntmps = true := by kernel_rfl

/-- '(*hostler/cell.Memory).at' -/
def F81 : AFunc := ⟨26, [.tmp 4],
  .seq (.region [
    ⟨(some 4), .mv (.const .nilptr), none⟩])
  (.seq (.seq (.region [
    ⟨(some 5), .mv (.tmp 1), none⟩,
    ⟨(some 6), .bin .lss (.tmp 5) (.const (.int .i64 0)), none⟩,
    ⟨(some 7), .mv (.tmp 6), none⟩,
    ⟨(some 8), .mv (.tmp 1), (some (7, false))⟩,
    ⟨(some 9), .mv (.tmp 0), (some (7, false))⟩,
    ⟨(some 10), .call 122 [(.tmp 9)], (some (7, false))⟩,
    ⟨(some 11), .bin .geq (.tmp 8) (.tmp 10), (some (7, false))⟩,
    ⟨(some 12), .pick (.tmp 7) (.const (.bool true)) (.tmp 11), none⟩])
  (.cond (.tmp 12)
    (.seq (.region [
      ⟨(some 4), .mv (.const .nilptr), none⟩])
    (.ret))
    (.skip)))
  (.seq (.region [
    ⟨(some 13), .mv (.tmp 0), none⟩,
    ⟨(some 14), .nilCheck (.tmp 13), none⟩,
    ⟨(some 15), .fieldAddr 1 (.tmp 14), none⟩,
    ⟨(some 16), .load1 (.tmp 15), none⟩,
    ⟨(some 17), .bin .add (.tmp 16) (.const (.int .i64 1)), none⟩,
    ⟨(some 18), .nilCheck (.tmp 13), none⟩,
    ⟨(some 19), .fieldAddr 1 (.tmp 18), none⟩,
    ⟨none, .store 1 (.tmp 19) (.tmp 17), none⟩])
  (.seq (.region [
    ⟨(some 20), .mv (.tmp 0), none⟩,
    ⟨(some 21), .nilCheck (.tmp 20), none⟩,
    ⟨(some 22), .fieldAddr 0 (.tmp 21), none⟩,
    ⟨(some 23), .load1 (.tmp 22), none⟩,
    ⟨(some 24), .mv (.tmp 1), none⟩,
    ⟨(some 25), .idxAddr 1 none (.tmp 23) (.tmp 24), none⟩,
    ⟨(some 4), .mv (.tmp 25), none⟩])
  (.ret)))), none⟩
set_option maxRecDepth 100000 in
theorem comp_81 : compFunc Tryz.prog 4 Tryz.f81 = some F81 := by kernel_rfl
theorem in_81 : F81.body.within F81.ntmps = true := by kernel_rfl

/-- '(*hostler/mask.Mask).Copy' -/
def F82 : AFunc := ⟨14, [.tmp 2],
  .seq (.region [
    ⟨(some 2), .mv (.const .nilptr), none⟩])
  (.seq (.draw [
    (⟨(some 3), .mv (.tmp 0), none⟩, .still),
    (⟨(some 4), .nilCheck (.tmp 3), none⟩, .still),
    (⟨(some 5), .fieldAddr 0 (.tmp 4), none⟩, .still),
    (⟨(some 6), .load1 (.tmp 5), none⟩, .reads 0 1),
    (⟨(some 7), .mv (.tmp 0), none⟩, .still),
    (⟨(some 8), .nilCheck (.tmp 7), none⟩, .still),
    (⟨(some 9), .fieldAddr 1 (.tmp 8), none⟩, .still),
    (⟨(some 10), .load1 (.tmp 9), none⟩, .reads 0 0),
    (⟨(some 11), .call 80 [(.tmp 10)], none⟩, .loud),
    (⟨(some 12), .build [(.int .i64 0), .nilslice] [((0, 1), (.tmp 6)), ((1, 1), (.tmp 11))], none⟩, .still),
    (⟨(some 13), .box (.tmp 12), none⟩, .loud),
    (⟨(some 2), .mv (.tmp 13), none⟩, .still)])
  (.ret)), none⟩
set_option maxRecDepth 100000 in
theorem comp_82 : compFunc Tryz.prog 4 Tryz.f82 = some F82 := by kernel_rfl
theorem in_82 : F82.body.within F82.ntmps = true := by kernel_rfl

/-- 'slices.Clone[[]int,int]' -/
def F83 : AFunc := ⟨8, [.tmp 2],
  .seq (.region [
    ⟨(some 2), .mv (.const .nilslice), none⟩])
  (.seq (.seq (.region [
    ⟨(some 3), .mv (.tmp 0), none⟩,
    ⟨(some 4), .cmpNil false 1 (.tmp 3) (.const .nilslice), none⟩])
  (.cond (.tmp 4)
    (.seq (.region [
      ⟨(some 2), .mv (.const .nilslice), none⟩])
    (.ret))
    (.skip)))
  (.seq (.region [
    ⟨(some 5), .buildSlice [] 0 [], none⟩,
    ⟨(some 6), .mv (.tmp 0), none⟩,
    ⟨(some 7), .append 1 8 [(.int .i64 0)] (.tmp 5) (.tmp 6), none⟩,
    ⟨(some 2), .mv (.tmp 7), none⟩])
  (.ret))), none⟩
set_option maxRecDepth 100000 in
theorem comp_83 : compFunc Tryz.prog 4 Tryz.f83 = some F83 := by kernel_rfl
theorem in_83 : F83.body.within F83.ntmps = true := by kernel_rfl

/-- 'math/bits.OnesCount64' -/
def F84 : AFunc := ⟨35, [.tmp 2],
  .seq (.region [
    ⟨(some 2), .mv (.const (.int .i64 0)), none⟩])
  (.seq (.region [
    ⟨(some 3), .mv (.tmp 0), none⟩,
    ⟨(some 4), .bin .shr (.tmp 3) (.const (.int .u64 1)), none⟩,
    ⟨(some 5), .bin .and (.tmp 4) (.const (.int .u64 6148914691236517205)), none⟩,
    ⟨(some 6), .mv (.tmp 0), none⟩,
    ⟨(some 7), .bin .and (.tmp 6) (.const (.int .u64 6148914691236517205)), none⟩,
    ⟨(some 8), .bin .add (.tmp 5) (.tmp 7), none⟩,
    ⟨(some 0), .mv (.tmp 8), none⟩])
  (.seq (.region [
    ⟨(some 9), .mv (.tmp 0), none⟩,
    ⟨(some 10), .bin .shr (.tmp 9) (.const (.int .u64 2)), none⟩,
    ⟨(some 11), .bin .and (.tmp 10) (.const (.int .u64 3689348814741910323)), none⟩,
    ⟨(some 12), .mv (.tmp 0), none⟩,
    ⟨(some 13), .bin .and (.tmp 12) (.const (.int .u64 3689348814741910323)), none⟩,
    ⟨(some 14), .bin .add (.tmp 11) (.tmp 13), none⟩,
    ⟨(some 0), .mv (.tmp 14), none⟩])
  (.seq (.region [
    ⟨(some 15), .mv (.tmp 0), none⟩,
    ⟨(some 16), .bin .shr (.tmp 15) (.const (.int .u64 4)), none⟩,
    ⟨(some 17), .mv (.tmp 0), none⟩,
    ⟨(some 18), .bin .add (.tmp 16) (.tmp 17), none⟩,
    ⟨(some 19), .bin .and (.tmp 18) (.const (.int .u64 1085102592571150095)), none⟩,
    ⟨(some 0), .mv (.tmp 19), none⟩])
  (.seq (.region [
    ⟨(some 20), .mv (.tmp 0), none⟩,
    ⟨(some 21), .mv (.tmp 0), none⟩,
    ⟨(some 22), .bin .shr (.tmp 21) (.const (.int .u64 8)), none⟩,
    ⟨(some 23), .bin .add (.tmp 20) (.tmp 22), none⟩,
    ⟨(some 0), .mv (.tmp 23), none⟩])
  (.seq (.region [
    ⟨(some 24), .mv (.tmp 0), none⟩,
    ⟨(some 25), .mv (.tmp 0), none⟩,
    ⟨(some 26), .bin .shr (.tmp 25) (.const (.int .u64 16)), none⟩,
    ⟨(some 27), .bin .add (.tmp 24) (.tmp 26), none⟩,
    ⟨(some 0), .mv (.tmp 27), none⟩])
  (.seq (.region [
    ⟨(some 28), .mv (.tmp 0), none⟩,
    ⟨(some 29), .mv (.tmp 0), none⟩,
    ⟨(some 30), .bin .shr (.tmp 29) (.const (.int .u64 32)), none⟩,
    ⟨(some 31), .bin .add (.tmp 28) (.tmp 30), none⟩,
    ⟨(some 0), .mv (.tmp 31), none⟩])
  (.seq (.region [
    ⟨(some 32), .mv (.tmp 0), none⟩,
    ⟨(some 33), .toInt .i64 (.tmp 32), none⟩,
    ⟨(some 34), .bin .and (.tmp 33) (.const (.int .i64 127)), none⟩,
    ⟨(some 2), .mv (.tmp 34), none⟩])
  (.ret)))))))), none⟩
set_option maxRecDepth 100000 in
theorem comp_84 : compFunc Tryz.prog 4 Tryz.f84 = some F84 := by kernel_rfl
theorem in_84 : F84.body.within F84.ntmps = true := by kernel_rfl

/-- '(*hostler/batch.Batch).List' -/
def F85 : AFunc := ⟨8, [.tmp 2],
  .seq (.region [
    ⟨(some 2), .mv (.const .nilslice), none⟩])
  (.seq (.region [
    ⟨(some 3), .mv (.tmp 0), none⟩,
    ⟨(some 4), .nilCheck (.tmp 3), none⟩,
    ⟨(some 5), .fieldAddr 0 (.tmp 4), none⟩,
    ⟨(some 6), .load1 (.tmp 5), none⟩,
    ⟨(some 7), .call 83 [(.tmp 6)], none⟩,
    ⟨(some 2), .mv (.tmp 7), none⟩])
  (.ret)), none⟩
set_option maxRecDepth 100000 in
theorem comp_85 : compFunc Tryz.prog 4 Tryz.f85 = some F85 := by kernel_rfl
theorem in_85 : F85.body.within F85.ntmps = true := by kernel_rfl

/-- '(*hostler/ring.Ring).pop' -/
def F87 : AFunc := ⟨41, [.tmp 4],
  .seq (.region [
    ⟨(some 4), .mv (.const .nilslice), none⟩])
  (.seq (.region [
    ⟨(some 6), .mv (.tmp 1), none⟩,
    ⟨(some 7), .mkslice 1 8 [(.int .i64 0)] (.const (.int .i64 0)) (.tmp 6), none⟩,
    ⟨(some 5), .mv (.tmp 7), none⟩])
  (.seq (.seq (.region [
    ⟨(some 8), .mv (.tmp 1), none⟩,
    ⟨(some 9), .mv (.const (.int .i64 0)), none⟩])
  (.block 0 (.loop (.seq (.region [
      ⟨(some 10), .bin .lss (.tmp 9) (.tmp 8), none⟩])
    (.seq (.cond (.tmp 10)
      (.skip)
      (.exit 0))
    (.seq (.block 1 (.seq (.draw [
      (⟨(some 11), .mv (.tmp 5), none⟩, .still),
      (⟨(some 12), .mv (.tmp 0), none⟩, .still),
      (⟨(some 13), .mv (.tmp 0), none⟩, .still),
      (⟨(some 14), .nilCheck (.tmp 13), none⟩, .still),
      (⟨(some 15), .fieldAddr 256 (.tmp 14), none⟩, .still),
      (⟨(some 16), .load1 (.tmp 15), none⟩, .reads 0 0),
      (⟨(some 17), .nilCheck (.tmp 12), none⟩, .still),
      (⟨(some 18), .fieldAddr 0 (.tmp 17), none⟩, .still),
      (⟨(some 19), .idxAddr 1 (some 256) (.tmp 18) (.tmp 16), none⟩, .still),
      (⟨(some 20), .load1 (.tmp 19), none⟩, .reads 0 0),
      (⟨(some 21), .buildSlice [(.int .i64 0)] 1 [((0, 1), (.tmp 20))], none⟩, .loud),
      (⟨(some 22), .append 1 8 [(.int .i64 0)] (.tmp 11) (.tmp 21), none⟩, .loud),
      (⟨(some 5), .mv (.tmp 22), none⟩, .still)])
    (.seq (.region [
      ⟨(some 23), .mv (.tmp 0), none⟩,
      ⟨(some 24), .mv (.tmp 0), none⟩,
      ⟨(some 25), .nilCheck (.tmp 24), none⟩,
      ⟨(some 26), .fieldAddr 256 (.tmp 25), none⟩,
      ⟨(some 27), .load1 (.tmp 26), none⟩,
      ⟨(some 28), .bin .add (.tmp 27) (.const (.int .i64 1)), none⟩,
      ⟨(some 29), .bin .rem (.tmp 28) (.const (.int .i64 256)), none⟩,
      ⟨(some 30), .nilCheck (.tmp 23), none⟩,
      ⟨(some 31), .fieldAddr 256 (.tmp 30), none⟩,
      ⟨none, .store 1 (.tmp 31) (.tmp 29), none⟩])
    (.region [
      ⟨(some 32), .mv (.tmp 0), none⟩,
      ⟨(some 33), .nilCheck (.tmp 32), none⟩,
      ⟨(some 34), .fieldAddr 257 (.tmp 33), none⟩,
      ⟨(some 35), .load1 (.tmp 34), none⟩,
      ⟨(some 36), .bin .sub (.tmp 35) (.const (.int .i64 1)), none⟩,
      ⟨(some 37), .nilCheck (.tmp 32), none⟩,
      ⟨(some 38), .fieldAddr 257 (.tmp 37), none⟩,
      ⟨none, .store 1 (.tmp 38) (.tmp 36), none⟩]))))
    (.region [
      ⟨(some 39), .bin .add (.tmp 9) (.const (.int .i64 1)), none⟩,
      ⟨(some 9), .mv (.tmp 39), none⟩])))))))
  (.seq (.region [
    ⟨(some 40), .mv (.tmp 5), none⟩,
    ⟨(some 4), .mv (.tmp 40), none⟩])
  (.ret)))), none⟩
set_option maxRecDepth 100000 in
theorem comp_87 : compFunc Tryz.prog 4 Tryz.f87 = some F87 := by kernel_rfl
theorem in_87 : F87.body.within F87.ntmps = true := by kernel_rfl

/-- 'hostler/timer.New' -/
def F90 : AFunc := ⟨10, [.tmp 2],
  .seq (.region [
    ⟨(some 2), .mv (.const .nilptr), none⟩])
  (.seq (.region [
    ⟨(some 3), .mv (.tmp 0), none⟩,
    ⟨(some 4), .max2 (.const (.int .i64 1)) (.tmp 3), none⟩,
    ⟨(some 5), .min2 (.tmp 4) (.const (.int .i64 64)), none⟩,
    ⟨(some 6), .mkslice 1 24 [.nilslice] (.tmp 5) (.tmp 5), none⟩,
    ⟨(some 7), .mkmap, none⟩,
    ⟨(some 8), .build [.nilslice, (.int .u64 0), .nilmap] [((0, 1), (.tmp 6)), ((2, 1), (.tmp 7))], none⟩,
    ⟨(some 9), .box (.tmp 8), none⟩,
    ⟨(some 2), .mv (.tmp 9), none⟩])
  (.ret)), none⟩
set_option maxRecDepth 100000 in
theorem comp_90 : compFunc Tryz.prog 4 Tryz.f90 = some F90 := by kernel_rfl
theorem in_90 : F90.body.within F90.ntmps = true := by kernel_rfl

/-- 'hostler/poll.New' -/
def F91 : AFunc := ⟨5, [.tmp 0],
  .seq (.region [
    ⟨(some 0), .mv (.const .nilptr), none⟩])
  (.seq (.region [
    ⟨(some 1), .mkmap, none⟩,
    ⟨(some 2), .mkmap, none⟩,
    ⟨(some 3), .build [.nilmap, .nilmap] [((0, 1), (.tmp 1)), ((1, 1), (.tmp 2))], none⟩,
    ⟨(some 4), .box (.tmp 3), none⟩,
    ⟨(some 0), .mv (.tmp 4), none⟩])
  (.ret)), none⟩
set_option maxRecDepth 100000 in
theorem comp_91 : compFunc Tryz.prog 4 Tryz.f91 = some F91 := by kernel_rfl
theorem in_91 : F91.body.within F91.ntmps = true := by kernel_rfl

/-- 'hostler/mask.New' -/
def F92 : AFunc := ⟨14, [.tmp 2],
  .seq (.region [
    ⟨(some 2), .mv (.const .nilptr), none⟩])
  (.seq (.region [
    ⟨(some 3), .mv (.tmp 0), none⟩,
    ⟨(some 4), .max2 (.const (.int .i64 0)) (.tmp 3), none⟩,
    ⟨(some 5), .min2 (.tmp 4) (.const (.int .i64 4096)), none⟩,
    ⟨(some 0), .mv (.tmp 5), none⟩])
  (.seq (.region [
    ⟨(some 6), .mv (.tmp 0), none⟩,
    ⟨(some 7), .mv (.tmp 0), none⟩,
    ⟨(some 8), .bin .add (.tmp 7) (.const (.int .i64 64)), none⟩,
    ⟨(some 9), .bin .sub (.tmp 8) (.const (.int .i64 1)), none⟩,
    ⟨(some 10), .bin .quo (.tmp 9) (.const (.int .i64 64)), none⟩,
    ⟨(some 11), .mkslice 1 8 [(.int .u64 0)] (.tmp 10) (.tmp 10), none⟩,
    ⟨(some 12), .build [(.int .i64 0), .nilslice] [((0, 1), (.tmp 6)), ((1, 1), (.tmp 11))], none⟩,
    ⟨(some 13), .box (.tmp 12), none⟩,
    ⟨(some 2), .mv (.tmp 13), none⟩])
  (.ret))), none⟩
set_option maxRecDepth 100000 in
theorem comp_92 : compFunc Tryz.prog 4 Tryz.f92 = some F92 := by kernel_rfl
theorem in_92 : F92.body.within F92.ntmps = true := by kernel_rfl

/-- 'slices.Contains[[]int,int]' -/
def F93 : AFunc := ⟨9, [.tmp 4],
  .seq (.region [
    ⟨(some 4), .mv (.const (.bool false)), none⟩])
  (.seq (.region [
    ⟨(some 5), .mv (.tmp 0), none⟩,
    ⟨(some 6), .mv (.tmp 1), none⟩,
    ⟨(some 7), .call 126 [(.tmp 5), (.tmp 6)], none⟩,
    ⟨(some 8), .bin .geq (.tmp 7) (.const (.int .i64 0)), none⟩,
    ⟨(some 4), .mv (.tmp 8), none⟩])
  (.ret)), none⟩
set_option maxRecDepth 100000 in
theorem comp_93 : compFunc Tryz.prog 4 Tryz.f93 = some F93 := by kernel_rfl
theorem in_93 : F93.body.within F93.ntmps = true := by kernel_rfl

/-- '(*hostler/mask.Mask).Put' -/
def F94 : AFunc := ⟨8, [.tmp 4],
  .seq (.region [
    ⟨(some 4), .mv (.const (.bool false)), none⟩])
  (.seq (.region [
    ⟨(some 5), .mv (.tmp 0), none⟩,
    ⟨(some 6), .mv (.tmp 1), none⟩,
    ⟨(some 7), .call 127 [(.tmp 5), (.tmp 6), (.const (.bool false))], none⟩,
    ⟨(some 4), .mv (.tmp 7), none⟩])
  (.ret)), none⟩
set_option maxRecDepth 100000 in
theorem comp_94 : compFunc Tryz.prog 4 Tryz.f94 = some F94 := by kernel_rfl
theorem in_94 : F94.body.within F94.ntmps = true := by kernel_rfl

/-- '(hostler/status.Table).in' -/
def F95 : AFunc := ⟨13, [.tmp 4],
  .seq (.region [
    ⟨(some 2), .box (.tmp 0), none⟩,
    ⟨(some 4), .mv (.const (.bool false)), none⟩])
  (.seq (.region [
    ⟨(some 5), .mv (.tmp 1), none⟩,
    ⟨(some 6), .bin .geq (.tmp 5) (.const (.int .i64 0)), none⟩,
    ⟨(some 7), .mv (.tmp 6), none⟩,
    ⟨(some 8), .mv (.tmp 1), (some (7, true))⟩,
    ⟨(some 9), .fieldAddr 1 (.tmp 2), (some (7, true))⟩,
    ⟨(some 10), .load1 (.tmp 9), (some (7, true))⟩,
    ⟨(some 11), .bin .lss (.tmp 8) (.tmp 10), (some (7, true))⟩,
    ⟨(some 12), .pick (.tmp 7) (.tmp 11) (.const (.bool false)), none⟩,
    ⟨(some 4), .mv (.tmp 12), none⟩])
  (.ret)), none⟩
set_option maxRecDepth 100000 in
theorem comp_95 : compFunc Tryz.prog 4 Tryz.f95 = some F95 := by kernel_rfl
theorem in_95 : F95.body.within F95.ntmps = true := by kernel_rfl

/-- 'hostler/status.Legal' -/
def F96 : AFunc := ⟨14, [.tmp 4],
  .seq (.region [
    ⟨(some 4), .mv (.const (.bool false)), none⟩])
  (.seq (.region [
    ⟨(some 5), .mv (.tmp 0), none⟩,
    ⟨(some 6), .bin .lss (.tmp 5) (.const (.int .u64 7)), none⟩,
    ⟨(some 7), .mv (.tmp 6), none⟩,
    ⟨(some 8), .mv (.tmp 0), (some (7, true))⟩,
    ⟨(some 9), .idxAddr 1 (some 7) (.glob 0) (.tmp 8), (some (7, true))⟩,
    ⟨(some 10), .load1 (.tmp 9), (some (7, true))⟩,
    ⟨(some 11), .mv (.tmp 1), (some (7, true))⟩,
    ⟨(some 12), .call 128 [(.tmp 10), (.tmp 11)], (some (7, true))⟩,
    ⟨(some 13), .pick (.tmp 7) (.tmp 12) (.const (.bool false)), none⟩,
    ⟨(some 4), .mv (.tmp 13), none⟩])
  (.ret)), none⟩
set_option maxRecDepth 100000 in
theorem comp_96 : compFunc Tryz.prog 4 Tryz.f96 = some F96 := by kernel_rfl
theorem in_96 : F96.body.within F96.ntmps = true := by kernel_rfl

/-- '(*hostler/cell.Memory).Swap' -/
def F97 : AFunc := ⟨25, [.tmp 8],
  .seq (.region [
    ⟨(some 8), .mv (.const (.bool false)), none⟩])
  (.seq (.region [
    ⟨(some 10), .mv (.tmp 0), none⟩,
    ⟨(some 11), .mv (.tmp 1), none⟩,
    ⟨(some 12), .call 81 [(.tmp 10), (.tmp 11)], none⟩,
    ⟨(some 9), .mv (.tmp 12), none⟩])
  (.seq (.seq (.region [
    ⟨(some 13), .mv (.tmp 9), none⟩,
    ⟨(some 14), .cmpNil false 0 (.tmp 13) (.const .nilptr), none⟩,
    ⟨(some 15), .mv (.tmp 14), none⟩,
    ⟨(some 16), .mv (.tmp 9), (some (15, false))⟩,
    ⟨(some 17), .nilCheck (.tmp 16), (some (15, false))⟩,
    ⟨(some 18), .load1 (.tmp 17), (some (15, false))⟩,
    ⟨(some 19), .mv (.tmp 2), (some (15, false))⟩,
    ⟨(some 20), .bin .neq (.tmp 18) (.tmp 19), (some (15, false))⟩,
    ⟨(some 21), .pick (.tmp 15) (.const (.bool true)) (.tmp 20), none⟩])
  (.cond (.tmp 21)
    (.seq (.region [
      ⟨(some 8), .mv (.const (.bool false)), none⟩])
    (.ret))
    (.skip)))
  (.seq (.region [
    ⟨(some 22), .mv (.tmp 9), none⟩,
    ⟨(some 23), .mv (.tmp 3), none⟩,
    ⟨(some 24), .nilCheck (.tmp 22), none⟩,
    ⟨none, .store 1 (.tmp 24) (.tmp 23), none⟩])
  (.seq (.region [
    ⟨(some 8), .mv (.const (.bool true)), none⟩])
  (.ret))))), none⟩
set_option maxRecDepth 100000 in
theorem comp_97 : compFunc Tryz.prog 4 Tryz.f97 = some F97 := by kernel_rfl
theorem in_97 : F97.body.within F97.ntmps = true := by kernel_rfl

/-- 'hostler/event.Right' -/
def F98 : AFunc := ⟨46, [.tmp 2],
  .seq (.region [
    ⟨(some 1), .box (.tmp 0), none⟩,
    ⟨(some 2), .mv (.const (.bool false)), none⟩])
  (.seq (.region [
    ⟨(some 6), .fieldAddr 0 (.tmp 1), none⟩,
    ⟨(some 7), .load1 (.tmp 6), none⟩,
    ⟨(some 8), .call 129 [(.tmp 7)], none⟩,
    ⟨(some 5), .mv (.tmp 8), none⟩,
    ⟨(some 9), .extract 0 (.tmp 5), none⟩,
    ⟨(some 10), .extract 1 (.tmp 5), none⟩,
    ⟨(some 3), .alloc [(.str ⟨#[]⟩), (.int .u64 0), (.int .u64 0)], none⟩,
    ⟨none, .store 3 (.tmp 3) (.tmp 9), none⟩,
    ⟨(some 4), .mv (.tmp 10), none⟩])
  (.seq (.region [
    ⟨(some 11), .mv (.tmp 4), none⟩,
    ⟨(some 12), .mv (.tmp 11), none⟩,
    ⟨(some 13), .fieldAddr 1 (.tmp 1), (some (12, true))⟩,
    ⟨(some 14), .load1 (.tmp 13), (some (12, true))⟩,
    ⟨(some 15), .bin .geq (.tmp 14) (.const (.int .i64 0)), (some (12, true))⟩,
    ⟨(some 16), .pick (.tmp 12) (.tmp 15) (.const (.bool false)), none⟩,
    ⟨(some 17), .mv (.tmp 16), none⟩,
    ⟨(some 18), .fieldAddr 1 (.tmp 1), (some (17, true))⟩,
    ⟨(some 19), .load1 (.tmp 18), (some (17, true))⟩,
    ⟨(some 20), .bin .lss (.tmp 19) (.const (.int .i64 4096)), (some (17, true))⟩,
    ⟨(some 21), .pick (.tmp 17) (.tmp 20) (.const (.bool false)), none⟩,
    ⟨(some 22), .mv (.tmp 21), none⟩,
    ⟨(some 23), .fieldAddr 2 (.tmp 1), (some (22, true))⟩,
    ⟨(some 24), .load1 (.tmp 23), (some (22, true))⟩,
    ⟨(some 25), .bin .geq (.tmp 24) (.const (.int .i64 (-1))), (some (22, true))⟩,
    ⟨(some 26), .pick (.tmp 22) (.tmp 25) (.const (.bool false)), none⟩,
    ⟨(some 27), .mv (.tmp 26), none⟩,
    ⟨(some 28), .fieldAddr 2 (.tmp 1), (some (27, true))⟩,
    ⟨(some 29), .load1 (.tmp 28), (some (27, true))⟩,
    ⟨(some 30), .bin .lss (.tmp 29) (.const (.int .i64 128)), (some (27, true))⟩,
    ⟨(some 31), .pick (.tmp 27) (.tmp 30) (.const (.bool false)), none⟩,
    ⟨(some 32), .mv (.tmp 31), none⟩,
    ⟨(some 33), .fieldAddr 3 (.tmp 1), (some (32, true))⟩,
    ⟨(some 34), .load1 (.tmp 33), (some (32, true))⟩,
    ⟨(some 35), .bin .geq (.tmp 34) (.const (.int .i64 (-1))), (some (32, true))⟩,
    ⟨(some 36), .pick (.tmp 32) (.tmp 35) (.const (.bool false)), none⟩,
    ⟨(some 37), .mv (.tmp 36), none⟩,
    ⟨(some 38), .fieldAddr 3 (.tmp 1), (some (37, true))⟩,
    ⟨(some 39), .load1 (.tmp 38), (some (37, true))⟩,
    ⟨(some 40), .bin .lss (.tmp 39) (.const (.int .i64 64)), (some (37, true))⟩,
    ⟨(some 41), .pick (.tmp 37) (.tmp 40) (.const (.bool false)), none⟩,
    ⟨(some 42), .mv (.tmp 41), none⟩,
    ⟨(some 43), .loadN 5 (.tmp 1), (some (42, true))⟩,
    ⟨(some 44), .call 130 [(.tmp 43)], (some (42, true))⟩,
    ⟨(some 45), .pick (.tmp 42) (.tmp 44) (.const (.bool false)), none⟩,
    ⟨(some 2), .mv (.tmp 45), none⟩])
  (.ret))), none⟩
set_option maxRecDepth 100000 in
theorem comp_98 : compFunc Tryz.prog 4 Tryz.f98 = some F98 := by kernel_rfl
theorem in_98 : F98.body.within F98.ntmps = true := by kernel_rfl

/-- '(*hostler/batch.Batch).Put' -/
def F99 : AFunc := ⟨13, [],
  .region [
    ⟨(some 4), .mv (.tmp 0), none⟩,
    ⟨(some 5), .mv (.tmp 0), none⟩,
    ⟨(some 6), .nilCheck (.tmp 5), none⟩,
    ⟨(some 7), .fieldAddr 0 (.tmp 6), none⟩,
    ⟨(some 8), .load1 (.tmp 7), none⟩,
    ⟨(some 9), .mv (.tmp 1), none⟩,
    ⟨(some 10), .append 1 8 [(.int .i64 0)] (.tmp 8) (.tmp 9), none⟩,
    ⟨(some 11), .nilCheck (.tmp 4), none⟩,
    ⟨(some 12), .fieldAddr 0 (.tmp 11), none⟩,
    ⟨none, .store 1 (.tmp 12) (.tmp 10), none⟩], none⟩
set_option maxRecDepth 100000 in
theorem comp_99 : compFunc Tryz.prog 4 Tryz.f99 = some F99 := by kernel_rfl
theorem in_99 : F99.body.within F99.ntmps = true := by kernel_rfl

/-- '(*hostler/round.Driver).Until' -/
def F100 : AFunc := ⟨20, [.tmp 6],
  .seq (.region [
    ⟨(some 3), .box (.tmp 0), none⟩,
    ⟨(some 5), .box (.tmp 2), none⟩,
    ⟨(some 6), .mv (.const (.bool false)), none⟩])
  (.seq (.region [
    ⟨(some 8), .mkfunc 131 [] [(.tmp 5), (.tmp 3)], none⟩,
    ⟨(some 7), .mv (.tmp 8), none⟩])
  (.seq (.seq (.region [
    ⟨(some 9), .mv (.tmp 1), none⟩,
    ⟨(some 10), .max2 (.const (.int .i64 0)) (.tmp 9), none⟩,
    ⟨(some 11), .mv (.const (.int .i64 0)), none⟩])
  (.block 0 (.loop (.seq (.region [
      ⟨(some 12), .bin .lss (.tmp 11) (.tmp 10), none⟩])
    (.seq (.cond (.tmp 12)
      (.skip)
      (.exit 0))
    (.seq (.block 1 (.seq (.seq (.region [
      ⟨(some 13), .mv (.tmp 7), none⟩,
      ⟨(some 14), .callv (.tmp 13) [], none⟩])
    (.cond (.tmp 14)
      (.seq (.region [
        ⟨(some 6), .mv (.const (.bool true)), none⟩])
      (.ret))
      (.skip)))
    (.region [
      ⟨(some 15), .load1 (.tmp 3), none⟩,
      ⟨(some 16), .call 132 [(.tmp 15)], none⟩])))
    (.region [
      ⟨(some 17), .bin .add (.tmp 11) (.const (.int .i64 1)), none⟩,
      ⟨(some 11), .mv (.tmp 17), none⟩])))))))
  (.seq (.region [
    ⟨(some 18), .mv (.tmp 7), none⟩,
    ⟨(some 19), .callv (.tmp 18) [], none⟩,
    ⟨(some 6), .mv (.tmp 19), none⟩])
  (.ret)))), none⟩
set_option maxRecDepth 100000 in
theorem comp_100 : compFunc Tryz.prog 4 Tryz.f100 = some F100 := by kernel_rfl
theorem in_100 : F100.body.within F100.ntmps = true := by kernel_rfl

end Go.Proofs.YtblhcbmcbhoeiaaGreatDoor.Ev
end
