/- Texts of the proof of one statement, part 7: each as it stood by itself. -/
import Derived.Test.YtblhcbmcbhoeiaaGreatDoorChecked
import Derived.KernelRfl
import Derived.Test.YtblhcbmcbhoeiaaGreatDoorPkF

section
/- The program's functions as the evaluator takes them, printed by a program of this repository (PrintTab.lean, mktab.py), part 2. -/
namespace Go.Proofs.YtblhcbmcbhoeiaaGreatDoor.Ev
open Go

/-- '(*hostler/event.Log).From' -/
def F103 : AFunc := ⟨19, [.tmp 4],
  .seq (.region [
    ⟨(some 4), .mv (.const .nilslice), none⟩])
  (.seq (.draw [
    (⟨(some 5), .mv (.tmp 0), none⟩, .still),
    (⟨(some 6), .nilCheck (.tmp 5), none⟩, .still),
    (⟨(some 7), .fieldAddr 0 (.tmp 6), none⟩, .still),
    (⟨(some 8), .load1 (.tmp 7), none⟩, .reads 0 0),
    (⟨(some 9), .mv (.tmp 1), none⟩, .still),
    (⟨(some 10), .max2 (.const (.int .i64 0)) (.tmp 9), none⟩, .still),
    (⟨(some 11), .mv (.tmp 0), none⟩, .still),
    (⟨(some 12), .nilCheck (.tmp 11), none⟩, .still),
    (⟨(some 13), .fieldAddr 0 (.tmp 12), none⟩, .still),
    (⟨(some 14), .load1 (.tmp 13), none⟩, .reads 0 0),
    (⟨(some 15), .lenS (.tmp 14), none⟩, .still),
    (⟨(some 16), .min2 (.tmp 10) (.tmp 15), none⟩, .still),
    (⟨(some 17), .slc 5 none (.tmp 8) (some (.tmp 16)) none none, none⟩, .reads 0 0),
    (⟨(some 18), .call 134 [(.tmp 17)], none⟩, .loud),
    (⟨(some 4), .mv (.tmp 18), none⟩, .still)])
  (.ret)), none⟩
set_option maxRecDepth 100000 in
theorem comp_103 : compFunc Tryz.prog 4 Tryz.f103 = some F103 := by kernel_rfl
theorem in_103 : F103.body.within F103.ntmps = true := by kernel_rfl

/-- '(*hostler/world.World).leave' -/
def F104 : AFunc := ⟨46, [],
  .seq (.region [
    ⟨(some 9), .mv (.tmp 0), none⟩,
    ⟨(some 10), .nilCheck (.tmp 9), none⟩,
    ⟨(some 11), .fieldAddr 13 (.tmp 10), none⟩,
    ⟨(some 12), .load1 (.tmp 11), none⟩,
    ⟨(some 13), .mv (.tmp 1), none⟩,
    ⟨(some 14), .idxAddr 18 none (.tmp 12) (.tmp 13), none⟩,
    ⟨(some 8), .mv (.tmp 14), none⟩])
  (.seq (.draw [
    (⟨(some 15), .mv (.tmp 0), none⟩, .still),
    (⟨(some 16), .nilCheck (.tmp 15), none⟩, .still),
    (⟨(some 17), .fieldAddr 6 (.tmp 16), none⟩, .still),
    (⟨(some 18), .loadN 2 (.tmp 17), none⟩, .reads 0 0),
    (⟨(some 19), .mv (.tmp 0), none⟩, .still),
    (⟨(some 20), .nilCheck (.tmp 19), none⟩, .still),
    (⟨(some 21), .fieldAddr 3 (.tmp 20), none⟩, .still),
    (⟨(some 22), .load1 (.tmp 21), none⟩, .reads 0 0),
    (⟨(some 23), .mv (.tmp 8), none⟩, .still),
    (⟨(some 24), .nilCheck (.tmp 23), none⟩, .still),
    (⟨(some 25), .fieldAddr 2 (.tmp 24), none⟩, .still),
    (⟨(some 26), .load1 (.tmp 25), none⟩, .reads 0 0),
    (⟨(some 27), .mv (.tmp 2), none⟩, .still),
    (⟨(some 28), .call 54 [(.tmp 18), (.tmp 22), (.tmp 26), (.const (.int .u64 2)), (.tmp 27)], none⟩, .loud)])
  (.seq (.region [
    ⟨(some 29), .mv (.tmp 0), none⟩,
    ⟨(some 30), .mv (.tmp 1), none⟩,
    ⟨(some 31), .mv (.tmp 3), none⟩,
    ⟨(some 32), .mv (.tmp 8), none⟩,
    ⟨(some 33), .nilCheck (.tmp 32), none⟩,
    ⟨(some 34), .fieldAddr 2 (.tmp 33), none⟩,
    ⟨(some 35), .load1 (.tmp 34), none⟩,
    ⟨(some 36), .call 117 [(.tmp 29), (.tmp 30), (.tmp 31), (.tmp 35), (.const (.int .i64 0))], none⟩])
  (.region [
    ⟨(some 37), .mv (.tmp 8), none⟩,
    ⟨(some 38), .mv (.tmp 8), none⟩,
    ⟨(some 39), .mv (.tmp 8), none⟩,
    ⟨(some 40), .nilCheck (.tmp 37), none⟩,
    ⟨(some 41), .fieldAddr 4 (.tmp 40), none⟩,
    ⟨none, .store 1 (.tmp 41) (.const (.int .i64 (-1))), none⟩,
    ⟨(some 42), .nilCheck (.tmp 38), none⟩,
    ⟨(some 43), .fieldAddr 2 (.tmp 42), none⟩,
    ⟨none, .store 1 (.tmp 43) (.const (.int .i64 (-1))), none⟩,
    ⟨(some 44), .nilCheck (.tmp 39), none⟩,
    ⟨(some 45), .fieldAddr 0 (.tmp 44), none⟩,
    ⟨none, .store 1 (.tmp 45) (.const (.int .i64 1)), none⟩]))), none⟩
set_option maxRecDepth 100000 in
theorem comp_104 : compFunc Tryz.prog 4 Tryz.f104 = some F104 := by kernel_rfl
theorem in_104 : F104.body.within F104.ntmps = true := by kernel_rfl

/-- '(*hostler/world.World).rouse' -/
def F105 : AFunc := ⟨42, [.tmp 10],
  .seq (.region [
    ⟨(some 10), .mv (.const (.bool false)), none⟩])
  (.seq (.region [
    ⟨(some 12), .mv (.tmp 0), none⟩,
    ⟨(some 13), .nilCheck (.tmp 12), none⟩,
    ⟨(some 14), .fieldAddr 13 (.tmp 13), none⟩,
    ⟨(some 15), .load1 (.tmp 14), none⟩,
    ⟨(some 16), .mv (.tmp 1), none⟩,
    ⟨(some 17), .idxAddr 18 none (.tmp 15) (.tmp 16), none⟩,
    ⟨(some 11), .mv (.tmp 17), none⟩])
  (.seq (.seq (.draw [
    (⟨(some 18), .mv (.tmp 0), none⟩, .still),
    (⟨(some 19), .nilCheck (.tmp 18), none⟩, .still),
    (⟨(some 20), .fieldAddr 6 (.tmp 19), none⟩, .still),
    (⟨(some 21), .loadN 2 (.tmp 20), none⟩, .reads 0 0),
    (⟨(some 22), .mv (.tmp 0), none⟩, .still),
    (⟨(some 23), .nilCheck (.tmp 22), none⟩, .still),
    (⟨(some 24), .fieldAddr 3 (.tmp 23), none⟩, .still),
    (⟨(some 25), .load1 (.tmp 24), none⟩, .reads 0 0),
    (⟨(some 26), .mv (.tmp 2), none⟩, .still),
    (⟨(some 27), .mv (.tmp 3), none⟩, .still),
    (⟨(some 28), .call 54 [(.tmp 21), (.tmp 25), (.tmp 26), (.tmp 27), (.const (.int .u64 1))], none⟩, .loud),
    (⟨(some 29), .un .not (.tmp 28), none⟩, .still)])
  (.cond (.tmp 29)
    (.seq (.region [
      ⟨(some 10), .mv (.const (.bool false)), none⟩])
    (.ret))
    (.skip)))
  (.seq (.region [
    ⟨(some 30), .mv (.tmp 0), none⟩,
    ⟨(some 31), .mv (.tmp 1), none⟩,
    ⟨(some 32), .mv (.tmp 4), none⟩,
    ⟨(some 33), .mv (.tmp 2), none⟩,
    ⟨(some 34), .call 117 [(.tmp 30), (.tmp 31), (.tmp 32), (.tmp 33), (.const (.int .i64 0))], none⟩])
  (.seq (.region [
    ⟨(some 35), .mv (.tmp 11), none⟩,
    ⟨(some 36), .mv (.tmp 11), none⟩,
    ⟨(some 37), .mv (.tmp 2), none⟩,
    ⟨(some 38), .nilCheck (.tmp 35), none⟩,
    ⟨(some 39), .fieldAddr 4 (.tmp 38), none⟩,
    ⟨none, .store 1 (.tmp 39) (.tmp 37), none⟩,
    ⟨(some 40), .nilCheck (.tmp 36), none⟩,
    ⟨(some 41), .fieldAddr 0 (.tmp 40), none⟩,
    ⟨none, .store 1 (.tmp 41) (.const (.int .i64 28)), none⟩])
  (.seq (.region [
    ⟨(some 10), .mv (.const (.bool true)), none⟩])
  (.ret)))))), none⟩
set_option maxRecDepth 100000 in
theorem comp_105 : compFunc Tryz.prog 4 Tryz.f105 = some F105 := by kernel_rfl
theorem in_105 : F105.body.within F105.ntmps = true := by kernel_rfl

/-- '(hostler/note.Sleeper).Step' -/
def F106 : AFunc := ⟨16, [.tmp 6],
  .seq (.region [
    ⟨(some 3), .box (.tmp 0), none⟩,
    ⟨(some 6), .mv (.const (.int .i64 0)), none⟩])
  (.seq (.block 0 (.seq (.region [
    ⟨(some 8), .mv (.tmp 1), none⟩,
    ⟨(some 9), .fieldAddr 0 (.tmp 3), none⟩,
    ⟨(some 10), .load1 (.tmp 9), none⟩,
    ⟨(some 11), .call 97 [(.tmp 8), (.tmp 10), (.const (.int .u64 1)), (.const (.int .u64 0))], none⟩,
    ⟨(some 7), .mv (.tmp 11), none⟩])
  (.cond (.tmp 7)
    (.seq (.region [
      ⟨(some 6), .mv (.const (.int .i64 1)), none⟩])
    (.ret))
    (.seq (.region [
      ⟨(some 13), .loadN 2 (.tmp 3), none⟩,
      ⟨(some 14), .mv (.tmp 2), none⟩,
      ⟨(some 15), .call 135 [(.tmp 13), (.tmp 14)], none⟩,
      ⟨(some 12), .mv (.tmp 15), none⟩])
    (.cond (.tmp 12)
      (.seq (.region [
        ⟨(some 6), .mv (.const (.int .i64 2)), none⟩])
      (.ret))
      (.skip))))))
  (.seq (.region [
    ⟨(some 6), .mv (.const (.int .i64 0)), none⟩])
  (.ret))), none⟩
set_option maxRecDepth 100000 in
theorem comp_106 : compFunc Tryz.prog 4 Tryz.f106 = some F106 := by kernel_rfl
theorem in_106 : F106.body.within F106.ntmps = true := by kernel_rfl

/-- '(*hostler/world.World).deliver' -/
def F107 : AFunc := ⟨21, [],
  .draw [
    (⟨(some 6), .mv (.tmp 0), none⟩, .still),
    (⟨(some 7), .nilCheck (.tmp 6), none⟩, .still),
    (⟨(some 8), .fieldAddr 13 (.tmp 7), none⟩, .still),
    (⟨(some 9), .load1 (.tmp 8), none⟩, .reads 0 0),
    (⟨(some 10), .mv (.tmp 1), none⟩, .still),
    (⟨(some 11), .mv (.tmp 0), none⟩, .still),
    (⟨(some 12), .nilCheck (.tmp 11), none⟩, .still),
    (⟨(some 13), .fieldAddr 13 (.tmp 12), none⟩, .still),
    (⟨(some 14), .load1 (.tmp 13), none⟩, .reads 0 0),
    (⟨(some 15), .mv (.tmp 1), none⟩, .still),
    (⟨(some 16), .mv (.tmp 2), none⟩, .still),
    (⟨(some 17), .idxAddr 18 none (.tmp 9) (.tmp 10), none⟩, .still),
    (⟨(some 18), .fieldAddr 11 (.tmp 17), none⟩, .still),
    (⟨none, .store 1 (.tmp 18) (.tmp 16), none⟩, .loud),
    (⟨(some 19), .idxAddr 18 none (.tmp 14) (.tmp 15), none⟩, .still),
    (⟨(some 20), .fieldAddr 0 (.tmp 19), none⟩, .still),
    (⟨none, .store 1 (.tmp 20) (.const (.int .i64 25)), none⟩, .loud)], none⟩
set_option maxRecDepth 100000 in
theorem comp_107 : compFunc Tryz.prog 4 Tryz.f107 = some F107 := by kernel_rfl
theorem in_107 : F107.body.within F107.ntmps = true := by kernel_rfl

/-- 'hostler/mach.of' -/
def F108 : AFunc := ⟨14, [.cellN 2 2, .tmp 3],
  .seq (.region [
    ⟨(some 2), .alloc [(.str ⟨#[]⟩), (.int .i64 0)], none⟩,
    ⟨(some 3), .mv (.const (.bool false)), none⟩])
  (.seq (.seq (.region [
    ⟨(some 4), .mv (.tmp 0), none⟩,
    ⟨(some 5), .bin .lss (.tmp 4) (.const (.int .i64 0)), none⟩,
    ⟨(some 6), .mv (.tmp 5), none⟩,
    ⟨(some 7), .mv (.tmp 0), (some (6, false))⟩,
    ⟨(some 8), .bin .geq (.tmp 7) (.const (.int .i64 31)), (some (6, false))⟩,
    ⟨(some 9), .pick (.tmp 6) (.const (.bool true)) (.tmp 8), none⟩])
  (.cond (.tmp 9)
    (.seq (.region [
      ⟨(some 10), .build [(.str ⟨#[]⟩), (.int .i64 0)] [], none⟩,
      ⟨none, .store 2 (.tmp 2) (.tmp 10), none⟩,
      ⟨(some 3), .mv (.const (.bool false)), none⟩])
    (.ret))
    (.skip)))
  (.seq (.region [
    ⟨(some 11), .mv (.tmp 0), none⟩,
    ⟨(some 12), .idxAddr 2 (some 31) (.glob 1) (.tmp 11), none⟩,
    ⟨(some 13), .loadN 2 (.tmp 12), none⟩,
    ⟨none, .store 2 (.tmp 2) (.tmp 13), none⟩,
    ⟨(some 3), .mv (.const (.bool true)), none⟩])
  (.ret))), none⟩
set_option maxRecDepth 100000 in
theorem comp_108 : compFunc Tryz.prog 4 Tryz.f108 = some F108 := by kernel_rfl
theorem in_108 : F108.body.within F108.ntmps = true := by kernel_rfl

/-- 'hostler/mach.ring' -/
def F109 : AFunc := ⟨14, [.tmp 4],
  .seq (.region [
    ⟨(some 4), .mv (.const (.int .i64 0)), none⟩])
  (.seq (.seq (.region [
    ⟨(some 5), .mv (.tmp 0), none⟩,
    ⟨(some 6), .bin .lss (.tmp 5) (.const (.int .i64 0)), none⟩,
    ⟨(some 7), .mv (.tmp 6), none⟩,
    ⟨(some 8), .mv (.tmp 0), (some (7, false))⟩,
    ⟨(some 9), .mv (.tmp 1), (some (7, false))⟩,
    ⟨(some 10), .bin .geq (.tmp 8) (.tmp 9), (some (7, false))⟩,
    ⟨(some 11), .pick (.tmp 7) (.const (.bool true)) (.tmp 10), none⟩])
  (.cond (.tmp 11)
    (.seq (.region [
      ⟨(some 4), .mv (.const (.int .i64 (-1))), none⟩])
    (.ret))
    (.skip)))
  (.seq (.region [
    ⟨(some 12), .mv (.tmp 0), none⟩,
    ⟨(some 13), .bin .add (.tmp 12) (.const (.int .i64 1)), none⟩,
    ⟨(some 4), .mv (.tmp 13), none⟩])
  (.ret))), none⟩
set_option maxRecDepth 100000 in
theorem comp_109 : compFunc Tryz.prog 4 Tryz.f109 = some F109 := by kernel_rfl
theorem in_109 : F109.body.within F109.ntmps = true := by kernel_rfl

/-- 'hostler/section.Begin' -/
def F110 : AFunc := ⟨5, [.cellN 2 5],
  .seq (.region [
    ⟨(some 1), .box (.tmp 0), none⟩,
    ⟨(some 2), .alloc [(.int .i64 0), (.int .i64 0), (.int .i64 0), (.int .u64 0), (.int .i64 0)], none⟩])
  (.seq (.region [
    ⟨(some 3), .loadN 2 (.tmp 1), none⟩,
    ⟨(some 4), .build [(.int .i64 0), (.int .i64 0), (.int .i64 0), (.int .u64 0), (.int .i64 0)] [((0, 2), (.tmp 3))], none⟩,
    ⟨none, .store 5 (.tmp 2) (.tmp 4), none⟩])
  (.ret)), none⟩
set_option maxRecDepth 100000 in
theorem comp_110 : compFunc Tryz.prog 4 Tryz.f110 = some F110 := by kernel_rfl
theorem in_110 : F110.body.within F110.ntmps = true := by kernel_rfl

/-- '(*hostler/section.Section).Step' -/
def F111 : AFunc := ⟨85, [.tmp 6],
  .seq (.region [
    ⟨(some 6), .mv (.const (.bool false)), none⟩])
  (.seq (.seq (.region [
    ⟨(some 8), .mv (.tmp 0), none⟩,
    ⟨(some 9), .nilCheck (.tmp 8), none⟩,
    ⟨(some 10), .fieldAddr 2 (.tmp 9), none⟩,
    ⟨(some 11), .load1 (.tmp 10), none⟩])
  (.block 0 (.seq (.region [
    ⟨(some 13), .bin .eql (.tmp 11) (.const (.int .i64 0)), none⟩,
    ⟨(some 12), .mv (.tmp 13), none⟩])
  (.cond (.tmp 12)
    (.seq (.region [
      ⟨(some 14), .mv (.tmp 0), none⟩,
      ⟨(some 15), .mv (.tmp 0), none⟩,
      ⟨(some 16), .nilCheck (.tmp 15), none⟩,
      ⟨(some 17), .fieldAddr 0 (.tmp 16), none⟩,
      ⟨(some 18), .loadN 2 (.tmp 17), none⟩,
      ⟨(some 19), .mv (.tmp 1), none⟩,
      ⟨(some 20), .call 136 [(.tmp 18), (.tmp 19)], none⟩,
      ⟨(some 21), .nilCheck (.tmp 14), none⟩,
      ⟨(some 22), .fieldAddr 3 (.tmp 21), none⟩,
      ⟨none, .store 1 (.tmp 22) (.tmp 20), none⟩])
    (.region [
      ⟨(some 23), .mv (.tmp 0), none⟩,
      ⟨(some 24), .nilCheck (.tmp 23), none⟩,
      ⟨(some 25), .fieldAddr 2 (.tmp 24), none⟩,
      ⟨none, .store 1 (.tmp 25) (.const (.int .i64 1)), none⟩]))
    (.seq (.region [
      ⟨(some 27), .bin .eql (.tmp 11) (.const (.int .i64 1)), none⟩,
      ⟨(some 26), .mv (.tmp 27), none⟩])
    (.cond (.tmp 26)
      (.seq (.draw [
        (⟨(some 28), .mv (.tmp 0), none⟩, .still),
        (⟨(some 29), .nilCheck (.tmp 28), none⟩, .still),
        (⟨(some 30), .fieldAddr 0 (.tmp 29), none⟩, .still),
        (⟨(some 31), .loadN 2 (.tmp 30), none⟩, .reads 0 0),
        (⟨(some 32), .mv (.tmp 1), none⟩, .still),
        (⟨(some 33), .mv (.tmp 0), none⟩, .still),
        (⟨(some 34), .nilCheck (.tmp 33), none⟩, .still),
        (⟨(some 35), .fieldAddr 3 (.tmp 34), none⟩, .still),
        (⟨(some 36), .load1 (.tmp 35), none⟩, .reads 0 0),
        (⟨(some 37), .call 137 [(.tmp 31), (.tmp 32), (.tmp 36)], none⟩, .loud)])
      (.cond (.tmp 37)
        (.region [
          ⟨(some 38), .mv (.tmp 0), none⟩,
          ⟨(some 39), .nilCheck (.tmp 38), none⟩,
          ⟨(some 40), .fieldAddr 2 (.tmp 39), none⟩,
          ⟨none, .store 1 (.tmp 40) (.const (.int .i64 2)), none⟩])
        (.skip)))
      (.seq (.region [
        ⟨(some 42), .bin .eql (.tmp 11) (.const (.int .i64 2)), none⟩,
        ⟨(some 41), .mv (.tmp 42), none⟩])
      (.cond (.tmp 41)
        (.seq (.region [
          ⟨(some 43), .mv (.tmp 2), none⟩,
          ⟨(some 44), .cmpNil true 3 (.tmp 43) (.const .nilfunc), none⟩,
          ⟨(some 45), .mv (.tmp 44), none⟩,
          ⟨(some 46), .mv (.tmp 2), (some (45, true))⟩,
          ⟨(some 47), .mv (.tmp 0), (some (45, true))⟩,
          ⟨(some 48), .nilCheck (.tmp 47), (some (45, true))⟩,
          ⟨(some 49), .fieldAddr 4 (.tmp 48), (some (45, true))⟩,
          ⟨(some 50), .load1 (.tmp 49), (some (45, true))⟩,
          ⟨(some 51), .callv (.tmp 46) [(.tmp 50)], (some (45, true))⟩,
          ⟨(some 52), .pick (.tmp 45) (.tmp 51) (.const (.bool false)), none⟩,
          ⟨(some 7), .mv (.tmp 52), none⟩])
        (.seq (.region [
          ⟨(some 53), .mv (.tmp 0), none⟩,
          ⟨(some 54), .nilCheck (.tmp 53), none⟩,
          ⟨(some 55), .fieldAddr 4 (.tmp 54), none⟩,
          ⟨(some 56), .load1 (.tmp 55), none⟩,
          ⟨(some 57), .bin .add (.tmp 56) (.const (.int .i64 1)), none⟩,
          ⟨(some 58), .nilCheck (.tmp 53), none⟩,
          ⟨(some 59), .fieldAddr 4 (.tmp 58), none⟩,
          ⟨none, .store 1 (.tmp 59) (.tmp 57), none⟩])
        (.seq (.region [
          ⟨(some 60), .mv (.tmp 7), none⟩,
          ⟨(some 61), .un .not (.tmp 60), none⟩])
        (.cond (.tmp 61)
          (.region [
            ⟨(some 62), .mv (.tmp 0), none⟩,
            ⟨(some 63), .nilCheck (.tmp 62), none⟩,
            ⟨(some 64), .fieldAddr 2 (.tmp 63), none⟩,
            ⟨none, .store 1 (.tmp 64) (.const (.int .i64 3)), none⟩])
          (.skip)))))
        (.seq (.region [
          ⟨(some 66), .bin .eql (.tmp 11) (.const (.int .i64 3)), none⟩,
          ⟨(some 65), .mv (.tmp 66), none⟩])
        (.cond (.tmp 65)
          (.seq (.draw [
            (⟨(some 67), .mv (.tmp 0), none⟩, .still),
            (⟨(some 68), .nilCheck (.tmp 67), none⟩, .still),
            (⟨(some 69), .fieldAddr 0 (.tmp 68), none⟩, .still),
            (⟨(some 70), .loadN 2 (.tmp 69), none⟩, .reads 0 0),
            (⟨(some 71), .mv (.tmp 1), none⟩, .still),
            (⟨(some 72), .mv (.tmp 0), none⟩, .still),
            (⟨(some 73), .nilCheck (.tmp 72), none⟩, .still),
            (⟨(some 74), .fieldAddr 3 (.tmp 73), none⟩, .still),
            (⟨(some 75), .load1 (.tmp 74), none⟩, .reads 0 0),
            (⟨(some 76), .call 138 [(.tmp 70), (.tmp 71), (.tmp 75)], none⟩, .loud)])
          (.region [
            ⟨(some 77), .mv (.tmp 0), none⟩,
            ⟨(some 78), .nilCheck (.tmp 77), none⟩,
            ⟨(some 79), .fieldAddr 2 (.tmp 78), none⟩,
            ⟨none, .store 1 (.tmp 79) (.const (.int .i64 4)), none⟩]))
          (.skip)))))))))))
  (.seq (.region [
    ⟨(some 80), .mv (.tmp 0), none⟩,
    ⟨(some 81), .nilCheck (.tmp 80), none⟩,
    ⟨(some 82), .fieldAddr 2 (.tmp 81), none⟩,
    ⟨(some 83), .load1 (.tmp 82), none⟩,
    ⟨(some 84), .bin .eql (.tmp 83) (.const (.int .i64 4)), none⟩,
    ⟨(some 6), .mv (.tmp 84), none⟩])
  (.ret))), none⟩
set_option maxRecDepth 100000 in
theorem comp_111 : compFunc Tryz.prog 4 Tryz.f111 = some F111 := by kernel_rfl
theorem in_111 : F111.body.within F111.ntmps = true := by kernel_rfl

/-- '(*hostler/world.World).locked$1' -/
def F112 : AFunc := ⟨9, [.tmp 4],
  .seq (.region [
    ⟨(some 4), .mv (.const (.bool false)), none⟩])
  (.seq (.region [
    ⟨(some 5), .load1 (.tmp 1), none⟩,
    ⟨(some 6), .load1 (.tmp 2), none⟩,
    ⟨(some 7), .mv (.tmp 0), none⟩,
    ⟨(some 8), .call 113 [(.tmp 5), (.tmp 6), (.tmp 7)], none⟩,
    ⟨(some 4), .mv (.tmp 8), none⟩])
  (.ret)), none⟩
set_option maxRecDepth 100000 in
theorem comp_112 : compFunc Tryz.prog 4 Tryz.f112 = some F112 := by kernel_rfl
theorem in_112 : F112.body.within F112.ntmps = true := by kernel_rfl

/-- '(*hostler/world.World).do' -/
def F113 : AFunc := ⟨343, [.tmp 6],
  .seq (.region [
    ⟨(some 6), .mv (.const (.bool false)), none⟩])
  (.seq (.region [
    ⟨(some 18), .mv (.tmp 0), none⟩,
    ⟨(some 19), .nilCheck (.tmp 18), none⟩,
    ⟨(some 20), .fieldAddr 13 (.tmp 19), none⟩,
    ⟨(some 21), .load1 (.tmp 20), none⟩,
    ⟨(some 22), .mv (.tmp 1), none⟩,
    ⟨(some 23), .idxAddr 18 none (.tmp 21) (.tmp 22), none⟩,
    ⟨(some 7), .mv (.tmp 23), none⟩])
  (.seq (.seq (.region [
    ⟨(some 24), .mv (.tmp 7), none⟩,
    ⟨(some 25), .nilCheck (.tmp 24), none⟩,
    ⟨(some 26), .fieldAddr 0 (.tmp 25), none⟩,
    ⟨(some 27), .load1 (.tmp 26), none⟩])
  (.block 0 (.seq (.region [
    ⟨(some 29), .bin .eql (.tmp 27) (.const (.int .i64 2)), none⟩,
    ⟨(some 28), .mv (.tmp 29), none⟩])
  (.cond (.tmp 28)
    (.seq (.region [
      ⟨(some 31), .mv (.tmp 0), none⟩,
      ⟨(some 32), .nilCheck (.tmp 31), none⟩,
      ⟨(some 33), .fieldAddr 10 (.tmp 32), none⟩,
      ⟨(some 34), .load1 (.tmp 33), none⟩,
      ⟨(some 35), .call 139 [(.tmp 34)], none⟩,
      ⟨(some 30), .mv (.tmp 35), none⟩,
      ⟨(some 36), .extract 0 (.tmp 30), none⟩,
      ⟨(some 37), .extract 1 (.tmp 30), none⟩,
      ⟨(some 8), .mv (.tmp 36), none⟩,
      ⟨(some 9), .mv (.tmp 37), none⟩])
    (.region [
      ⟨(some 38), .mv (.tmp 0), none⟩,
      ⟨(some 39), .mv (.tmp 1), none⟩,
      ⟨(some 40), .mv (.tmp 8), none⟩,
      ⟨(some 41), .mv (.tmp 9), none⟩,
      ⟨(some 42), .call 140 [(.tmp 38), (.tmp 39), (.tmp 40), (.tmp 41)], none⟩]))
    (.seq (.region [
      ⟨(some 44), .bin .eql (.tmp 27) (.const (.int .i64 3)), none⟩,
      ⟨(some 43), .mv (.tmp 44), none⟩])
    (.cond (.tmp 43)
      (.seq (.draw [
        (⟨(some 46), .mv (.tmp 0), none⟩, .still),
        (⟨(some 47), .nilCheck (.tmp 46), none⟩, .still),
        (⟨(some 48), .fieldAddr 8 (.tmp 47), none⟩, .still),
        (⟨(some 49), .load1 (.tmp 48), none⟩, .reads 0 0),
        (⟨(some 50), .mv (.tmp 7), none⟩, .still),
        (⟨(some 51), .nilCheck (.tmp 50), none⟩, .still),
        (⟨(some 52), .fieldAddr 1 (.tmp 51), none⟩, .still),
        (⟨(some 53), .load1 (.tmp 52), none⟩, .reads 0 0),
        (⟨(some 54), .idxAddr 1 none (.tmp 49) (.tmp 53), none⟩, .still),
        (⟨(some 55), .load1 (.tmp 54), none⟩, .reads 0 0),
        (⟨(some 56), .call 141 [(.tmp 55)], none⟩, .loud),
        (⟨(some 45), .mv (.tmp 56), none⟩, .still),
        (⟨(some 57), .extract 0 (.tmp 45), none⟩, .still),
        (⟨(some 58), .extract 1 (.tmp 45), none⟩, .still),
        (⟨(some 10), .mv (.tmp 57), none⟩, .still),
        (⟨(some 11), .mv (.tmp 58), none⟩, .still)])
      (.region [
        ⟨(some 59), .mv (.tmp 0), none⟩,
        ⟨(some 60), .mv (.tmp 1), none⟩,
        ⟨(some 61), .mv (.tmp 10), none⟩,
        ⟨(some 62), .mv (.tmp 11), none⟩,
        ⟨(some 63), .call 140 [(.tmp 59), (.tmp 60), (.tmp 61), (.tmp 62)], none⟩]))
      (.seq (.region [
        ⟨(some 65), .bin .eql (.tmp 27) (.const (.int .i64 4)), none⟩,
        ⟨(some 64), .mv (.tmp 65), none⟩])
      (.cond (.tmp 64)
        (.region [
          ⟨(some 66), .mv (.tmp 0), none⟩,
          ⟨(some 67), .mv (.tmp 1), none⟩,
          ⟨(some 68), .mv (.tmp 0), none⟩,
          ⟨(some 69), .nilCheck (.tmp 68), none⟩,
          ⟨(some 70), .fieldAddr 10 (.tmp 69), none⟩,
          ⟨(some 71), .load1 (.tmp 70), none⟩,
          ⟨(some 72), .call 143 [(.tmp 71)], none⟩,
          ⟨(some 73), .call 142 [(.tmp 66), (.tmp 67), (.tmp 72)], none⟩])
        (.seq (.region [
          ⟨(some 75), .bin .eql (.tmp 27) (.const (.int .i64 6)), none⟩,
          ⟨(some 74), .mv (.tmp 75), none⟩])
        (.cond (.tmp 74)
          (.draw [
            (⟨(some 76), .mv (.tmp 0), none⟩, .still),
            (⟨(some 77), .mv (.tmp 1), none⟩, .still),
            (⟨(some 78), .mv (.tmp 0), none⟩, .still),
            (⟨(some 79), .nilCheck (.tmp 78), none⟩, .still),
            (⟨(some 80), .fieldAddr 8 (.tmp 79), none⟩, .still),
            (⟨(some 81), .load1 (.tmp 80), none⟩, .reads 0 0),
            (⟨(some 82), .mv (.tmp 7), none⟩, .still),
            (⟨(some 83), .nilCheck (.tmp 82), none⟩, .still),
            (⟨(some 84), .fieldAddr 1 (.tmp 83), none⟩, .still),
            (⟨(some 85), .load1 (.tmp 84), none⟩, .reads 0 0),
            (⟨(some 86), .mv (.tmp 7), none⟩, .still),
            (⟨(some 87), .nilCheck (.tmp 86), none⟩, .still),
            (⟨(some 88), .fieldAddr 6 (.tmp 87), none⟩, .still),
            (⟨(some 89), .load1 (.tmp 88), none⟩, .reads 0 0),
            (⟨(some 90), .bin .add (.tmp 85) (.tmp 89), none⟩, .still),
            (⟨(some 91), .mv (.tmp 0), none⟩, .still),
            (⟨(some 92), .nilCheck (.tmp 91), none⟩, .still),
            (⟨(some 93), .fieldAddr 0 (.tmp 92), none⟩, .still),
            (⟨(some 94), .fieldAddr 0 (.tmp 93), none⟩, .still),
            (⟨(some 95), .load1 (.tmp 94), none⟩, .reads 0 0),
            (⟨(some 96), .bin .rem (.tmp 90) (.tmp 95), none⟩, .still),
            (⟨(some 97), .idxAddr 1 none (.tmp 81) (.tmp 96), none⟩, .still),
            (⟨(some 98), .load1 (.tmp 97), none⟩, .reads 0 0),
            (⟨(some 99), .call 144 [(.tmp 98)], none⟩, .loud),
            (⟨(some 100), .call 142 [(.tmp 76), (.tmp 77), (.tmp 99)], none⟩, .loud)])
          (.seq (.region [
            ⟨(some 102), .bin .eql (.tmp 27) (.const (.int .i64 7)), none⟩,
            ⟨(some 101), .mv (.tmp 102), none⟩])
          (.cond (.tmp 101)
            (.seq (.region [
              ⟨(some 103), .mv (.tmp 0), none⟩,
              ⟨(some 104), .mv (.tmp 1), none⟩,
              ⟨(some 105), .mv (.tmp 0), none⟩,
              ⟨(some 106), .nilCheck (.tmp 105), none⟩,
              ⟨(some 107), .fieldAddr 10 (.tmp 106), none⟩,
              ⟨(some 108), .load1 (.tmp 107), none⟩,
              ⟨(some 109), .call 143 [(.tmp 108)], none⟩,
              ⟨(some 110), .call 142 [(.tmp 103), (.tmp 104), (.tmp 109)], none⟩])
            (.seq (.region [
              ⟨(some 111), .mv (.tmp 0), none⟩,
              ⟨(some 112), .nilCheck (.tmp 111), none⟩,
              ⟨(some 113), .fieldAddr 14 (.tmp 112), none⟩,
              ⟨(some 114), .load1 (.tmp 113), none⟩,
              ⟨(some 115), .mv (.tmp 1), none⟩,
              ⟨(some 116), .idxAddr 1 none (.tmp 114) (.tmp 115), none⟩,
              ⟨(some 117), .load1 (.tmp 116), none⟩,
              ⟨(some 118), .un .not (.tmp 117), none⟩])
            (.cond (.tmp 118)
              (.seq (.draw [
                (⟨(some 119), .mv (.tmp 0), none⟩, .still),
                (⟨(some 120), .nilCheck (.tmp 119), none⟩, .still),
                (⟨(some 121), .fieldAddr 12 (.tmp 120), none⟩, .still),
                (⟨(some 122), .load1 (.tmp 121), none⟩, .reads 0 0),
                (⟨(some 123), .mv (.tmp 7), none⟩, .still),
                (⟨(some 124), .nilCheck (.tmp 123), none⟩, .still),
                (⟨(some 125), .fieldAddr 1 (.tmp 124), none⟩, .still),
                (⟨(some 126), .load1 (.tmp 125), none⟩, .reads 0 0),
                (⟨(some 127), .call 51 [(.tmp 122), (.tmp 126)], none⟩, .loud)])
              (.region [
                ⟨(some 128), .mv (.tmp 7), none⟩,
                ⟨(some 129), .nilCheck (.tmp 128), none⟩,
                ⟨(some 130), .fieldAddr 1 (.tmp 129), none⟩,
                ⟨none, .store 1 (.tmp 130) (.const (.int .i64 (-1))), none⟩]))
              (.skip))))
            (.seq (.region [
              ⟨(some 132), .bin .eql (.tmp 27) (.const (.int .i64 9)), none⟩,
              ⟨(some 131), .mv (.tmp 132), none⟩])
            (.cond (.tmp 131)
              (.draw [
                (⟨(some 133), .mv (.tmp 0), none⟩, .still),
                (⟨(some 134), .nilCheck (.tmp 133), none⟩, .still),
                (⟨(some 135), .fieldAddr 14 (.tmp 134), none⟩, .still),
                (⟨(some 136), .load1 (.tmp 135), none⟩, .reads 0 1),
                (⟨(some 137), .mv (.tmp 1), none⟩, .still),
                (⟨(some 138), .mv (.tmp 0), none⟩, .still),
                (⟨(some 139), .nilCheck (.tmp 138), none⟩, .still),
                (⟨(some 140), .fieldAddr 8 (.tmp 139), none⟩, .still),
                (⟨(some 141), .load1 (.tmp 140), none⟩, .reads 0 0),
                (⟨(some 142), .mv (.tmp 7), none⟩, .still),
                (⟨(some 143), .nilCheck (.tmp 142), none⟩, .still),
                (⟨(some 144), .fieldAddr 6 (.tmp 143), none⟩, .still),
                (⟨(some 145), .load1 (.tmp 144), none⟩, .reads 0 0),
                (⟨(some 146), .idxAddr 1 none (.tmp 141) (.tmp 145), none⟩, .still),
                (⟨(some 147), .load1 (.tmp 146), none⟩, .reads 0 0),
                (⟨(some 148), .call 145 [(.tmp 147)], none⟩, .loud),
                (⟨(some 149), .bin .gtr (.tmp 148) (.const (.int .i64 0)), none⟩, .still),
                (⟨(some 150), .idxAddr 1 none (.tmp 136) (.tmp 137), none⟩, .still),
                (⟨none, .store 1 (.tmp 150) (.tmp 149), none⟩, .loud)])
              (.seq (.region [
                ⟨(some 152), .bin .eql (.tmp 27) (.const (.int .i64 10)), none⟩,
                ⟨(some 151), .mv (.tmp 152), none⟩])
              (.cond (.tmp 151)
                (.draw [
                  (⟨(some 153), .mv (.tmp 0), none⟩, .still),
                  (⟨(some 154), .nilCheck (.tmp 153), none⟩, .still),
                  (⟨(some 155), .fieldAddr 14 (.tmp 154), none⟩, .still),
                  (⟨(some 156), .load1 (.tmp 155), none⟩, .reads 0 1),
                  (⟨(some 157), .mv (.tmp 1), none⟩, .still),
                  (⟨(some 158), .mv (.tmp 0), none⟩, .still),
                  (⟨(some 159), .nilCheck (.tmp 158), none⟩, .still),
                  (⟨(some 160), .fieldAddr 10 (.tmp 159), none⟩, .still),
                  (⟨(some 161), .load1 (.tmp 160), none⟩, .reads 0 0),
                  (⟨(some 162), .call 146 [(.tmp 161)], none⟩, .loud),
                  (⟨(some 163), .bin .gtr (.tmp 162) (.const (.int .i64 0)), none⟩, .still),
                  (⟨(some 164), .idxAddr 1 none (.tmp 156) (.tmp 157), none⟩, .still),
                  (⟨none, .store 1 (.tmp 164) (.tmp 163), none⟩, .loud)])
                (.seq (.region [
                  ⟨(some 166), .bin .eql (.tmp 27) (.const (.int .i64 11)), none⟩,
                  ⟨(some 165), .mv (.tmp 166), none⟩])
                (.cond (.tmp 165)
                  (.seq (.region [
                    ⟨(some 168), .mv (.tmp 0), none⟩,
                    ⟨(some 169), .nilCheck (.tmp 168), none⟩,
                    ⟨(some 170), .fieldAddr 12 (.tmp 169), none⟩,
                    ⟨(some 171), .load1 (.tmp 170), none⟩,
                    ⟨(some 172), .call 147 [(.tmp 171)], none⟩,
                    ⟨(some 167), .mv (.tmp 172), none⟩,
                    ⟨(some 173), .extract 0 (.tmp 167), none⟩,
                    ⟨(some 174), .extract 1 (.tmp 167), none⟩,
                    ⟨(some 12), .mv (.tmp 173), none⟩,
                    ⟨(some 13), .mv (.tmp 174), none⟩])
                  (.region [
                    ⟨(some 175), .mv (.tmp 0), none⟩,
                    ⟨(some 176), .mv (.tmp 1), none⟩,
                    ⟨(some 177), .mv (.tmp 12), none⟩,
                    ⟨(some 178), .mv (.tmp 13), none⟩,
                    ⟨(some 179), .call 148 [(.tmp 175), (.tmp 176), (.tmp 177), (.tmp 178)], none⟩]))
                  (.seq (.region [
                    ⟨(some 181), .bin .eql (.tmp 27) (.const (.int .i64 13)), none⟩,
                    ⟨(some 180), .mv (.tmp 181), none⟩])
                  (.cond (.tmp 180)
                    (.seq (.region [
                      ⟨(some 183), .mv (.tmp 0), none⟩,
                      ⟨(some 184), .nilCheck (.tmp 183), none⟩,
                      ⟨(some 185), .fieldAddr 12 (.tmp 184), none⟩,
                      ⟨(some 186), .load1 (.tmp 185), none⟩,
                      ⟨(some 187), .call 149 [(.tmp 186)], none⟩,
                      ⟨(some 182), .mv (.tmp 187), none⟩,
                      ⟨(some 188), .extract 0 (.tmp 182), none⟩,
                      ⟨(some 189), .extract 1 (.tmp 182), none⟩,
                      ⟨(some 14), .mv (.tmp 188), none⟩,
                      ⟨(some 15), .mv (.tmp 189), none⟩])
                    (.seq (.region [
                      ⟨(some 190), .mv (.tmp 0), none⟩,
                      ⟨(some 191), .mv (.tmp 1), none⟩,
                      ⟨(some 192), .mv (.tmp 14), none⟩,
                      ⟨(some 193), .mv (.tmp 15), none⟩,
                      ⟨(some 194), .call 148 [(.tmp 190), (.tmp 191), (.tmp 192), (.tmp 193)], none⟩])
                    (.seq (.region [
                      ⟨(some 195), .mv (.tmp 7), none⟩,
                      ⟨(some 196), .mv (.tmp 15), none⟩,
                      ⟨(some 197), .nilCheck (.tmp 195), none⟩,
                      ⟨(some 198), .fieldAddr 7 (.tmp 197), none⟩,
                      ⟨none, .store 1 (.tmp 198) (.tmp 196), none⟩])
                    (.seq (.region [
                      ⟨(some 199), .mv (.tmp 15), none⟩,
                      ⟨(some 200), .un .not (.tmp 199), none⟩])
                    (.cond (.tmp 200)
                      (.draw [
                        (⟨(some 202), .mv (.tmp 0), none⟩, .still),
                        (⟨(some 203), .nilCheck (.tmp 202), none⟩, .still),
                        (⟨(some 204), .fieldAddr 14 (.tmp 203), none⟩, .still),
                        (⟨(some 205), .load1 (.tmp 204), none⟩, .reads 0 1),
                        (⟨(some 206), .mv (.tmp 1), none⟩, .still),
                        (⟨(some 207), .mv (.tmp 0), none⟩, .still),
                        (⟨(some 208), .nilCheck (.tmp 207), none⟩, .still),
                        (⟨(some 209), .fieldAddr 12 (.tmp 208), none⟩, .still),
                        (⟨(some 210), .load1 (.tmp 209), none⟩, .reads 0 0),
                        (⟨(some 211), .mv (.tmp 1), none⟩, .still),
                        (⟨(some 212), .call 53 [(.tmp 210), (.tmp 211)], none⟩, .loud),
                        (⟨(some 201), .mv (.tmp 212), none⟩, .still),
                        (⟨(some 213), .extract 0 (.tmp 201), none⟩, .still),
                        (⟨(some 214), .extract 1 (.tmp 201), none⟩, .still),
                        (⟨(some 215), .idxAddr 1 none (.tmp 205) (.tmp 206), none⟩, .still),
                        (⟨none, .store 1 (.tmp 215) (.tmp 213), none⟩, .loud)])
                      (.skip))))))
                    (.seq (.region [
                      ⟨(some 217), .bin .eql (.tmp 27) (.const (.int .i64 15)), none⟩,
                      ⟨(some 216), .mv (.tmp 217), none⟩])
                    (.cond (.tmp 216)
                      (.draw [
                        (⟨(some 218), .mv (.tmp 0), none⟩, .still),
                        (⟨(some 219), .nilCheck (.tmp 218), none⟩, .still),
                        (⟨(some 220), .fieldAddr 14 (.tmp 219), none⟩, .still),
                        (⟨(some 221), .load1 (.tmp 220), none⟩, .reads 0 1),
                        (⟨(some 222), .mv (.tmp 1), none⟩, .still),
                        (⟨(some 223), .mv (.tmp 0), none⟩, .still),
                        (⟨(some 224), .nilCheck (.tmp 223), none⟩, .still),
                        (⟨(some 225), .fieldAddr 12 (.tmp 224), none⟩, .still),
                        (⟨(some 226), .load1 (.tmp 225), none⟩, .reads 0 0),
                        (⟨(some 227), .mv (.tmp 1), none⟩, .still),
                        (⟨(some 228), .call 75 [(.tmp 226), (.tmp 227)], none⟩, .loud),
                        (⟨(some 229), .idxAddr 1 none (.tmp 221) (.tmp 222), none⟩, .still),
                        (⟨none, .store 1 (.tmp 229) (.tmp 228), none⟩, .loud)])
                      (.seq (.region [
                        ⟨(some 231), .bin .eql (.tmp 27) (.const (.int .i64 18)), none⟩,
                        ⟨(some 230), .mv (.tmp 231), none⟩])
                      (.cond (.tmp 230)
                        (.seq (.draw [
                          (⟨(some 232), .mv (.tmp 0), none⟩, .still),
                          (⟨(some 233), .nilCheck (.tmp 232), none⟩, .still),
                          (⟨(some 234), .fieldAddr 10 (.tmp 233), none⟩, .still),
                          (⟨(some 235), .load1 (.tmp 234), none⟩, .reads 0 0),
                          (⟨(some 236), .mv (.tmp 7), none⟩, .still),
                          (⟨(some 237), .nilCheck (.tmp 236), none⟩, .still),
                          (⟨(some 238), .fieldAddr 9 (.tmp 237), none⟩, .still),
                          (⟨(some 239), .load1 (.tmp 238), none⟩, .reads 0 0),
                          (⟨(some 240), .call 56 [(.tmp 235), (.tmp 239)], none⟩, .loud)])
                        (.region [
                          ⟨(some 241), .mv (.tmp 7), none⟩,
                          ⟨(some 242), .nilCheck (.tmp 241), none⟩,
                          ⟨(some 243), .fieldAddr 9 (.tmp 242), none⟩,
                          ⟨none, .store 1 (.tmp 243) (.const .nilslice), none⟩]))
                        (.seq (.region [
                          ⟨(some 245), .bin .eql (.tmp 27) (.const (.int .i64 27)), none⟩,
                          ⟨(some 244), .mv (.tmp 245), none⟩])
                        (.cond (.tmp 244)
                          (.seq (.draw [
                            (⟨(some 246), .mv (.tmp 0), none⟩, .still),
                            (⟨(some 247), .nilCheck (.tmp 246), none⟩, .still),
                            (⟨(some 248), .fieldAddr 10 (.tmp 247), none⟩, .still),
                            (⟨(some 249), .load1 (.tmp 248), none⟩, .reads 0 1),
                            (⟨(some 250), .mv (.tmp 7), none⟩, .still),
                            (⟨(some 251), .nilCheck (.tmp 250), none⟩, .still),
                            (⟨(some 252), .fieldAddr 4 (.tmp 251), none⟩, .still),
                            (⟨(some 253), .load1 (.tmp 252), none⟩, .reads 0 0),
                            (⟨(some 254), .buildSlice [(.int .i64 0)] 1 [((0, 1), (.tmp 253))], none⟩, .loud),
                            (⟨(some 255), .call 56 [(.tmp 249), (.tmp 254)], none⟩, .loud)])
                          (.region [
                            ⟨(some 256), .mv (.tmp 7), none⟩,
                            ⟨(some 257), .nilCheck (.tmp 256), none⟩,
                            ⟨(some 258), .fieldAddr 4 (.tmp 257), none⟩,
                            ⟨none, .store 1 (.tmp 258) (.const (.int .i64 (-1))), none⟩]))
                          (.seq (.region [
                            ⟨(some 260), .bin .eql (.tmp 27) (.const (.int .i64 17)), none⟩,
                            ⟨(some 259), .mv (.tmp 260), none⟩])
                          (.cond (.tmp 259)
                            (.draw [
                              (⟨(some 261), .mv (.tmp 7), none⟩, .still),
                              (⟨(some 262), .mv (.tmp 0), none⟩, .still),
                              (⟨(some 263), .nilCheck (.tmp 262), none⟩, .still),
                              (⟨(some 264), .fieldAddr 8 (.tmp 263), none⟩, .still),
                              (⟨(some 265), .load1 (.tmp 264), none⟩, .reads 0 0),
                              (⟨(some 266), .mv (.tmp 7), none⟩, .still),
                              (⟨(some 267), .nilCheck (.tmp 266), none⟩, .still),
                              (⟨(some 268), .fieldAddr 1 (.tmp 267), none⟩, .still),
                              (⟨(some 269), .load1 (.tmp 268), none⟩, .reads 0 0),
                              (⟨(some 270), .idxAddr 1 none (.tmp 265) (.tmp 269), none⟩, .still),
                              (⟨(some 271), .load1 (.tmp 270), none⟩, .reads 0 0),
                              (⟨(some 272), .mv (.tmp 7), none⟩, .still),
                              (⟨(some 273), .nilCheck (.tmp 272), none⟩, .still),
                              (⟨(some 274), .fieldAddr 9 (.tmp 273), none⟩, .still),
                              (⟨(some 275), .load1 (.tmp 274), none⟩, .reads 0 0),
                              (⟨(some 276), .call 150 [(.tmp 271), (.tmp 275)], none⟩, .loud),
                              (⟨(some 277), .nilCheck (.tmp 261), none⟩, .still),
                              (⟨(some 278), .fieldAddr 9 (.tmp 277), none⟩, .still),
                              (⟨none, .store 1 (.tmp 278) (.tmp 276), none⟩, .loud)])
                            (.seq (.region [
                              ⟨(some 280), .bin .eql (.tmp 27) (.const (.int .i64 28)), none⟩,
                              ⟨(some 279), .mv (.tmp 280), none⟩])
                            (.cond (.tmp 279)
                              (.seq (.draw [
                                (⟨(some 281), .mv (.tmp 7), none⟩, .still),
                                (⟨(some 282), .mv (.tmp 0), none⟩, .still),
                                (⟨(some 283), .nilCheck (.tmp 282), none⟩, .still),
                                (⟨(some 284), .fieldAddr 8 (.tmp 283), none⟩, .still),
                                (⟨(some 285), .load1 (.tmp 284), none⟩, .reads 0 0),
                                (⟨(some 286), .mv (.tmp 7), none⟩, .still),
                                (⟨(some 287), .nilCheck (.tmp 286), none⟩, .still),
                                (⟨(some 288), .fieldAddr 1 (.tmp 287), none⟩, .still),
                                (⟨(some 289), .load1 (.tmp 288), none⟩, .reads 0 0),
                                (⟨(some 290), .idxAddr 1 none (.tmp 285) (.tmp 289), none⟩, .still),
                                (⟨(some 291), .load1 (.tmp 290), none⟩, .reads 0 0),
                                (⟨(some 292), .mv (.tmp 7), none⟩, .still),
                                (⟨(some 293), .nilCheck (.tmp 292), none⟩, .still),
                                (⟨(some 294), .fieldAddr 4 (.tmp 293), none⟩, .still),
                                (⟨(some 295), .load1 (.tmp 294), none⟩, .reads 0 0),
                                (⟨(some 296), .call 151 [(.tmp 291), (.tmp 295)], none⟩, .loud),
                                (⟨(some 297), .nilCheck (.tmp 281), none⟩, .still),
                                (⟨(some 298), .fieldAddr 9 (.tmp 297), none⟩, .still),
                                (⟨none, .store 1 (.tmp 298) (.tmp 296), none⟩, .loud)])
                              (.region [
                                ⟨(some 299), .mv (.tmp 7), none⟩,
                                ⟨(some 300), .nilCheck (.tmp 299), none⟩,
                                ⟨(some 301), .fieldAddr 4 (.tmp 300), none⟩,
                                ⟨none, .store 1 (.tmp 301) (.const (.int .i64 (-1))), none⟩]))
                              (.seq (.region [
                                ⟨(some 303), .bin .eql (.tmp 27) (.const (.int .i64 14)), none⟩,
                                ⟨(some 302), .mv (.tmp 303), none⟩])
                              (.cond (.tmp 302)
                                (.draw [
                                  (⟨(some 304), .mv (.tmp 0), none⟩, .still),
                                  (⟨(some 305), .nilCheck (.tmp 304), none⟩, .still),
                                  (⟨(some 306), .fieldAddr 14 (.tmp 305), none⟩, .still),
                                  (⟨(some 307), .load1 (.tmp 306), none⟩, .reads 0 1),
                                  (⟨(some 308), .mv (.tmp 1), none⟩, .still),
                                  (⟨(some 309), .mv (.tmp 0), none⟩, .still),
                                  (⟨(some 310), .nilCheck (.tmp 309), none⟩, .still),
                                  (⟨(some 311), .fieldAddr 11 (.tmp 310), none⟩, .still),
                                  (⟨(some 312), .load1 (.tmp 311), none⟩, .reads 0 0),
                                  (⟨(some 313), .call 19 [(.tmp 312)], none⟩, .loud),
                                  (⟨(some 314), .idxAddr 1 none (.tmp 307) (.tmp 308), none⟩, .still),
                                  (⟨none, .store 1 (.tmp 314) (.tmp 313), none⟩, .loud)])
                                (.seq (.region [
                                  ⟨(some 316), .bin .eql (.tmp 27) (.const (.int .i64 25)), none⟩,
                                  ⟨(some 315), .mv (.tmp 316), none⟩])
                                (.cond (.tmp 315)
                                  (.seq (.region [
                                    ⟨(some 318), .mv (.tmp 0), none⟩,
                                    ⟨(some 319), .nilCheck (.tmp 318), none⟩,
                                    ⟨(some 320), .fieldAddr 11 (.tmp 319), none⟩,
                                    ⟨(some 321), .load1 (.tmp 320), none⟩,
                                    ⟨(some 322), .call 152 [(.tmp 321)], none⟩,
                                    ⟨(some 317), .mv (.tmp 322), none⟩,
                                    ⟨(some 323), .extract 0 (.tmp 317), none⟩,
                                    ⟨(some 324), .extract 1 (.tmp 317), none⟩,
                                    ⟨(some 16), .mv (.tmp 323), none⟩,
                                    ⟨(some 17), .mv (.tmp 324), none⟩])
                                  (.region [
                                    ⟨(some 325), .mv (.tmp 0), none⟩,
                                    ⟨(some 326), .mv (.tmp 1), none⟩,
                                    ⟨(some 327), .mv (.tmp 16), none⟩,
                                    ⟨(some 328), .mv (.tmp 17), none⟩,
                                    ⟨(some 329), .call 140 [(.tmp 325), (.tmp 326), (.tmp 327), (.tmp 328)], none⟩]))
                                  (.seq (.region [
                                    ⟨(some 331), .bin .eql (.tmp 27) (.const (.int .i64 23)), none⟩,
                                    ⟨(some 330), .mv (.tmp 331), none⟩])
                                  (.cond (.tmp 330)
                                    (.seq (.region [
                                      ⟨(some 332), .mv (.tmp 0), none⟩,
                                      ⟨(some 333), .mv (.tmp 1), none⟩,
                                      ⟨(some 334), .mv (.tmp 2), none⟩,
                                      ⟨(some 335), .call 153 [(.tmp 332), (.tmp 333), (.tmp 334)], none⟩,
                                      ⟨(some 6), .mv (.tmp 335), none⟩])
                                    (.ret))
                                    (.seq (.seq (.region [
                                      ⟨(some 337), .bin .eql (.tmp 27) (.const (.int .i64 29)), none⟩,
                                      ⟨(some 336), .mv (.tmp 337), none⟩])
                                    (.cond (.tmp 336)
                                      (.skip)
                                      (.region [
                                        ⟨(some 338), .bin .eql (.tmp 27) (.const (.int .i64 30)), none⟩,
                                        ⟨(some 336), .mv (.tmp 338), none⟩])))
                                    (.cond (.tmp 336)
                                      (.seq (.region [
                                        ⟨(some 339), .mv (.tmp 0), none⟩,
                                        ⟨(some 340), .mv (.tmp 1), none⟩,
                                        ⟨(some 341), .mv (.tmp 2), none⟩,
                                        ⟨(some 342), .call 154 [(.tmp 339), (.tmp 340), (.tmp 341)], none⟩,
                                        ⟨(some 6), .mv (.tmp 342), none⟩])
                                      (.ret))
                                      (.skip)))))))))))))))))))))))))))))))))))))))
  (.seq (.region [
    ⟨(some 6), .mv (.const (.bool false)), none⟩])
  (.ret)))), none⟩
set_option maxRecDepth 100000 in
theorem comp_113 : compFunc Tryz.prog 4 Tryz.f113 = some F113 := by kernel_rfl
theorem in_113 : F113.body.within F113.ntmps = true := by kernel_rfl

/-- '(*hostler/world.World).then' -/
def F114 : AFunc := ⟨168, [],
  .seq (.region [
    ⟨(some 6), .mv (.tmp 0), none⟩,
    ⟨(some 7), .nilCheck (.tmp 6), none⟩,
    ⟨(some 8), .fieldAddr 13 (.tmp 7), none⟩,
    ⟨(some 9), .load1 (.tmp 8), none⟩,
    ⟨(some 10), .mv (.tmp 1), none⟩,
    ⟨(some 11), .idxAddr 18 none (.tmp 9) (.tmp 10), none⟩,
    ⟨(some 4), .mv (.tmp 11), none⟩])
  (.seq (.region [
    ⟨(some 12), .mv (.tmp 0), none⟩,
    ⟨(some 13), .nilCheck (.tmp 12), none⟩,
    ⟨(some 14), .fieldAddr 14 (.tmp 13), none⟩,
    ⟨(some 15), .load1 (.tmp 14), none⟩,
    ⟨(some 16), .mv (.tmp 1), none⟩,
    ⟨(some 17), .idxAddr 1 none (.tmp 15) (.tmp 16), none⟩,
    ⟨(some 18), .load1 (.tmp 17), none⟩,
    ⟨(some 5), .mv (.tmp 18), none⟩])
  (.seq (.region [
    ⟨(some 19), .mv (.tmp 4), none⟩,
    ⟨(some 20), .nilCheck (.tmp 19), none⟩,
    ⟨(some 21), .fieldAddr 0 (.tmp 20), none⟩,
    ⟨(some 22), .load1 (.tmp 21), none⟩])
  (.block 0 (.seq (.seq (.region [
    ⟨(some 24), .bin .eql (.tmp 22) (.const (.int .i64 2)), none⟩,
    ⟨(some 23), .mv (.tmp 24), none⟩])
  (.cond (.tmp 23)
    (.skip)
    (.seq (.region [
      ⟨(some 25), .bin .eql (.tmp 22) (.const (.int .i64 3)), none⟩,
      ⟨(some 23), .mv (.tmp 25), none⟩])
    (.cond (.tmp 23)
      (.skip)
      (.seq (.region [
        ⟨(some 26), .bin .eql (.tmp 22) (.const (.int .i64 4)), none⟩,
        ⟨(some 23), .mv (.tmp 26), none⟩])
      (.cond (.tmp 23)
        (.skip)
        (.seq (.region [
          ⟨(some 27), .bin .eql (.tmp 22) (.const (.int .i64 6)), none⟩,
          ⟨(some 23), .mv (.tmp 27), none⟩])
        (.cond (.tmp 23)
          (.skip)
          (.region [
            ⟨(some 28), .bin .eql (.tmp 22) (.const (.int .i64 7)), none⟩,
            ⟨(some 23), .mv (.tmp 28), none⟩])))))))))
  (.cond (.tmp 23)
    (.region [
      ⟨(some 29), .mv (.tmp 0), none⟩,
      ⟨(some 30), .mv (.tmp 1), none⟩,
      ⟨(some 31), .mv (.tmp 5), none⟩,
      ⟨(some 32), .call 155 [(.tmp 29), (.tmp 30), (.tmp 31)], none⟩])
    (.seq (.region [
      ⟨(some 34), .bin .eql (.tmp 22) (.const (.int .i64 9)), none⟩,
      ⟨(some 33), .mv (.tmp 34), none⟩])
    (.cond (.tmp 33)
      (.seq (.region [
        ⟨(some 35), .mv (.tmp 4), none⟩,
        ⟨(some 36), .nilCheck (.tmp 35), none⟩,
        ⟨(some 37), .fieldAddr 6 (.tmp 36), none⟩,
        ⟨(some 38), .load1 (.tmp 37), none⟩,
        ⟨(some 39), .bin .add (.tmp 38) (.const (.int .i64 1)), none⟩,
        ⟨(some 40), .nilCheck (.tmp 35), none⟩,
        ⟨(some 41), .fieldAddr 6 (.tmp 40), none⟩,
        ⟨none, .store 1 (.tmp 41) (.tmp 39), none⟩])
      (.draw [
        (⟨(some 42), .mv (.tmp 4), none⟩, .still),
        (⟨(some 43), .mv (.tmp 5), none⟩, .still),
        (⟨(some 44), .mv (.tmp 4), none⟩, .still),
        (⟨(some 45), .nilCheck (.tmp 44), none⟩, .still),
        (⟨(some 46), .fieldAddr 6 (.tmp 45), none⟩, .still),
        (⟨(some 47), .load1 (.tmp 46), none⟩, .reads 0 0),
        (⟨(some 48), .mv (.tmp 0), none⟩, .still),
        (⟨(some 49), .nilCheck (.tmp 48), none⟩, .still),
        (⟨(some 50), .fieldAddr 0 (.tmp 49), none⟩, .still),
        (⟨(some 51), .fieldAddr 0 (.tmp 50), none⟩, .still),
        (⟨(some 52), .load1 (.tmp 51), none⟩, .reads 0 0),
        (⟨(some 53), .bin .lss (.tmp 47) (.tmp 52), none⟩, .still),
        (⟨(some 54), .call 118 [(.tmp 53), (.const (.int .i64 9)), (.const (.int .i64 10))], none⟩, .loud),
        (⟨(some 55), .call 118 [(.tmp 43), (.const (.int .i64 11)), (.tmp 54)], none⟩, .loud),
        (⟨(some 56), .nilCheck (.tmp 42), none⟩, .still),
        (⟨(some 57), .fieldAddr 0 (.tmp 56), none⟩, .still),
        (⟨none, .store 1 (.tmp 57) (.tmp 55), none⟩, .loud)]))
      (.seq (.region [
        ⟨(some 59), .bin .eql (.tmp 22) (.const (.int .i64 10)), none⟩,
        ⟨(some 58), .mv (.tmp 59), none⟩])
      (.cond (.tmp 58)
        (.region [
          ⟨(some 60), .mv (.tmp 4), none⟩,
          ⟨(some 61), .mv (.tmp 5), none⟩,
          ⟨(some 62), .call 118 [(.tmp 61), (.const (.int .i64 11)), (.const (.int .i64 13))], none⟩,
          ⟨(some 63), .nilCheck (.tmp 60), none⟩,
          ⟨(some 64), .fieldAddr 0 (.tmp 63), none⟩,
          ⟨none, .store 1 (.tmp 64) (.tmp 62), none⟩])
        (.seq (.region [
          ⟨(some 66), .bin .eql (.tmp 22) (.const (.int .i64 11)), none⟩,
          ⟨(some 65), .mv (.tmp 66), none⟩])
        (.cond (.tmp 65)
          (.region [
            ⟨(some 67), .mv (.tmp 4), none⟩,
            ⟨(some 68), .mv (.tmp 5), none⟩,
            ⟨(some 69), .call 118 [(.tmp 68), (.const (.int .i64 12)), (.const (.int .i64 13))], none⟩,
            ⟨(some 70), .nilCheck (.tmp 67), none⟩,
            ⟨(some 71), .fieldAddr 0 (.tmp 70), none⟩,
            ⟨none, .store 1 (.tmp 71) (.tmp 69), none⟩])
          (.seq (.region [
            ⟨(some 73), .bin .eql (.tmp 22) (.const (.int .i64 13)), none⟩,
            ⟨(some 72), .mv (.tmp 73), none⟩])
          (.cond (.tmp 72)
            (.draw [
              (⟨(some 74), .mv (.tmp 4), none⟩, .still),
              (⟨(some 75), .mv (.tmp 4), none⟩, .still),
              (⟨(some 76), .nilCheck (.tmp 75), none⟩, .still),
              (⟨(some 77), .fieldAddr 7 (.tmp 76), none⟩, .still),
              (⟨(some 78), .load1 (.tmp 77), none⟩, .reads 0 1),
              (⟨(some 79), .mv (.tmp 5), none⟩, .still),
              (⟨(some 80), .call 118 [(.tmp 79), (.const (.int .i64 14)), (.const (.int .i64 16))], none⟩, .loud),
              (⟨(some 81), .call 118 [(.tmp 78), (.const (.int .i64 4)), (.tmp 80)], none⟩, .loud),
              (⟨(some 82), .nilCheck (.tmp 74), none⟩, .still),
              (⟨(some 83), .fieldAddr 0 (.tmp 82), none⟩, .still),
              (⟨none, .store 1 (.tmp 83) (.tmp 81), none⟩, .loud)])
            (.seq (.region [
              ⟨(some 85), .bin .eql (.tmp 22) (.const (.int .i64 14)), none⟩,
              ⟨(some 84), .mv (.tmp 85), none⟩])
            (.cond (.tmp 84)
              (.region [
                ⟨(some 86), .mv (.tmp 4), none⟩,
                ⟨(some 87), .mv (.tmp 5), none⟩,
                ⟨(some 88), .call 118 [(.tmp 87), (.const (.int .i64 15)), (.const (.int .i64 16))], none⟩,
                ⟨(some 89), .nilCheck (.tmp 86), none⟩,
                ⟨(some 90), .fieldAddr 0 (.tmp 89), none⟩,
                ⟨none, .store 1 (.tmp 90) (.tmp 88), none⟩])
              (.seq (.region [
                ⟨(some 92), .bin .eql (.tmp 22) (.const (.int .i64 15)), none⟩,
                ⟨(some 91), .mv (.tmp 92), none⟩])
              (.cond (.tmp 91)
                (.seq (.region [
                  ⟨(some 93), .mv (.tmp 4), none⟩,
                  ⟨(some 94), .nilCheck (.tmp 93), none⟩,
                  ⟨(some 95), .fieldAddr 0 (.tmp 94), none⟩,
                  ⟨none, .store 1 (.tmp 95) (.const (.int .i64 16)), none⟩])
                (.seq (.region [
                  ⟨(some 96), .mv (.tmp 5), none⟩])
                (.cond (.tmp 96)
                  (.region [
                    ⟨(some 97), .mv (.tmp 0), none⟩,
                    ⟨(some 98), .mv (.tmp 1), none⟩,
                    ⟨(some 99), .call 107 [(.tmp 97), (.tmp 98), (.const (.int .i64 13))], none⟩])
                  (.skip))))
                (.seq (.seq (.region [
                  ⟨(some 101), .bin .eql (.tmp 22) (.const (.int .i64 17)), none⟩,
                  ⟨(some 100), .mv (.tmp 101), none⟩])
                (.cond (.tmp 100)
                  (.skip)
                  (.region [
                    ⟨(some 102), .bin .eql (.tmp 22) (.const (.int .i64 18)), none⟩,
                    ⟨(some 100), .mv (.tmp 102), none⟩])))
                (.cond (.tmp 100)
                  (.region [
                    ⟨(some 103), .mv (.tmp 0), none⟩,
                    ⟨(some 104), .mv (.tmp 1), none⟩,
                    ⟨(some 105), .call 156 [(.tmp 103), (.tmp 104)], none⟩])
                  (.seq (.region [
                    ⟨(some 107), .bin .eql (.tmp 22) (.const (.int .i64 28)), none⟩,
                    ⟨(some 106), .mv (.tmp 107), none⟩])
                  (.cond (.tmp 106)
                    (.seq (.region [
                      ⟨(some 108), .mv (.tmp 4), none⟩,
                      ⟨(some 109), .nilCheck (.tmp 108), none⟩,
                      ⟨(some 110), .fieldAddr 10 (.tmp 109), none⟩,
                      ⟨none, .store 1 (.tmp 110) (.const (.int .i64 0)), none⟩])
                    (.region [
                      ⟨(some 111), .mv (.tmp 0), none⟩,
                      ⟨(some 112), .mv (.tmp 1), none⟩,
                      ⟨(some 113), .call 156 [(.tmp 111), (.tmp 112)], none⟩]))
                    (.seq (.region [
                      ⟨(some 115), .bin .eql (.tmp 22) (.const (.int .i64 27)), none⟩,
                      ⟨(some 114), .mv (.tmp 115), none⟩])
                    (.cond (.tmp 114)
                      (.region [
                        ⟨(some 116), .mv (.tmp 4), none⟩,
                        ⟨(some 117), .nilCheck (.tmp 116), none⟩,
                        ⟨(some 118), .fieldAddr 0 (.tmp 117), none⟩,
                        ⟨none, .store 1 (.tmp 118) (.const (.int .i64 21)), none⟩])
                      (.seq (.region [
                        ⟨(some 120), .bin .eql (.tmp 22) (.const (.int .i64 23)), none⟩,
                        ⟨(some 119), .mv (.tmp 120), none⟩])
                      (.cond (.tmp 119)
                        (.draw [
                          (⟨(some 121), .mv (.tmp 4), none⟩, .still),
                          (⟨(some 122), .mv (.tmp 4), none⟩, .still),
                          (⟨(some 123), .nilCheck (.tmp 122), none⟩, .still),
                          (⟨(some 124), .fieldAddr 5 (.tmp 123), none⟩, .still),
                          (⟨(some 125), .load1 (.tmp 124), none⟩, .reads 0 0),
                          (⟨(some 126), .bin .geq (.tmp 125) (.const (.int .i64 0)), none⟩, .still),
                          (⟨(some 127), .mv (.tmp 4), none⟩, .still),
                          (⟨(some 128), .nilCheck (.tmp 127), none⟩, .still),
                          (⟨(some 129), .fieldAddr 10 (.tmp 128), none⟩, .still),
                          (⟨(some 130), .load1 (.tmp 129), none⟩, .reads 0 0),
                          (⟨(some 131), .call 118 [(.tmp 126), (.const (.int .i64 24)), (.tmp 130)], none⟩, .loud),
                          (⟨(some 132), .nilCheck (.tmp 121), none⟩, .still),
                          (⟨(some 133), .fieldAddr 0 (.tmp 132), none⟩, .still),
                          (⟨none, .store 1 (.tmp 133) (.tmp 131), none⟩, .loud)])
                        (.seq (.region [
                          ⟨(some 135), .bin .eql (.tmp 22) (.const (.int .i64 25)), none⟩,
                          ⟨(some 134), .mv (.tmp 135), none⟩])
                        (.cond (.tmp 134)
                          (.region [
                            ⟨(some 136), .mv (.tmp 4), none⟩,
                            ⟨(some 137), .mv (.tmp 5), none⟩,
                            ⟨(some 138), .mv (.tmp 4), none⟩,
                            ⟨(some 139), .nilCheck (.tmp 138), none⟩,
                            ⟨(some 140), .fieldAddr 11 (.tmp 139), none⟩,
                            ⟨(some 141), .load1 (.tmp 140), none⟩,
                            ⟨(some 142), .call 118 [(.tmp 137), (.const (.int .i64 26)), (.tmp 141)], none⟩,
                            ⟨(some 143), .nilCheck (.tmp 136), none⟩,
                            ⟨(some 144), .fieldAddr 0 (.tmp 143), none⟩,
                            ⟨none, .store 1 (.tmp 144) (.tmp 142), none⟩])
                          (.seq (.seq (.region [
                            ⟨(some 146), .bin .eql (.tmp 22) (.const (.int .i64 29)), none⟩,
                            ⟨(some 145), .mv (.tmp 146), none⟩])
                          (.cond (.tmp 145)
                            (.skip)
                            (.region [
                              ⟨(some 147), .bin .eql (.tmp 22) (.const (.int .i64 30)), none⟩,
                              ⟨(some 145), .mv (.tmp 147), none⟩])))
                          (.cond (.tmp 145)
                            (.seq (.region [
                              ⟨(some 148), .mv (.tmp 4), none⟩,
                              ⟨(some 149), .mv (.tmp 4), none⟩,
                              ⟨(some 150), .nilCheck (.tmp 149), none⟩,
                              ⟨(some 151), .fieldAddr 2 (.tmp 150), none⟩,
                              ⟨(some 152), .load1 (.tmp 151), none⟩,
                              ⟨(some 153), .bin .geq (.tmp 152) (.const (.int .i64 0)), none⟩,
                              ⟨(some 154), .call 118 [(.tmp 153), (.const (.int .i64 0)), (.const (.int .i64 1))], none⟩,
                              ⟨(some 155), .nilCheck (.tmp 148), none⟩,
                              ⟨(some 156), .fieldAddr 0 (.tmp 155), none⟩,
                              ⟨none, .store 1 (.tmp 156) (.tmp 154), none⟩])
                            (.seq (.region [
                              ⟨(some 157), .mv (.tmp 4), none⟩,
                              ⟨(some 158), .nilCheck (.tmp 157), none⟩,
                              ⟨(some 159), .fieldAddr 2 (.tmp 158), none⟩,
                              ⟨(some 160), .load1 (.tmp 159), none⟩,
                              ⟨(some 161), .bin .lss (.tmp 160) (.const (.int .i64 0)), none⟩,
                              ⟨(some 162), .mv (.tmp 161), none⟩,
                              ⟨(some 163), .mv (.tmp 5), (some (162, true))⟩,
                              ⟨(some 164), .pick (.tmp 162) (.tmp 163) (.const (.bool false)), none⟩])
                            (.cond (.tmp 164)
                              (.region [
                                ⟨(some 165), .mv (.tmp 0), none⟩,
                                ⟨(some 166), .mv (.tmp 1), none⟩,
                                ⟨(some 167), .call 107 [(.tmp 165), (.tmp 166), (.const (.int .i64 1))], none⟩])
                              (.skip))))
                            (.skip)))))))))))))))))))))))))))))), none⟩
set_option maxRecDepth 100000 in
theorem comp_114 : compFunc Tryz.prog 4 Tryz.f114 = some F114 := by kernel_rfl
theorem in_114 : F114.body.within F114.ntmps = true := by kernel_rfl

/-- '(*hostler/cell.Memory).Add' -/
def F115 : AFunc := ⟨23, [.tmp 6],
  .seq (.region [
    ⟨(some 6), .mv (.const (.int .u64 0)), none⟩])
  (.seq (.region [
    ⟨(some 8), .mv (.tmp 0), none⟩,
    ⟨(some 9), .mv (.tmp 1), none⟩,
    ⟨(some 10), .call 81 [(.tmp 8), (.tmp 9)], none⟩,
    ⟨(some 7), .mv (.tmp 10), none⟩])
  (.seq (.seq (.region [
    ⟨(some 11), .mv (.tmp 7), none⟩,
    ⟨(some 12), .cmpNil false 0 (.tmp 11) (.const .nilptr), none⟩])
  (.cond (.tmp 12)
    (.seq (.region [
      ⟨(some 6), .mv (.const (.int .u64 0)), none⟩])
    (.ret))
    (.skip)))
  (.seq (.region [
    ⟨(some 13), .mv (.tmp 7), none⟩,
    ⟨(some 14), .nilCheck (.tmp 13), none⟩,
    ⟨(some 15), .load1 (.tmp 14), none⟩,
    ⟨(some 16), .mv (.tmp 2), none⟩,
    ⟨(some 17), .toInt .u64 (.tmp 16), none⟩,
    ⟨(some 18), .bin .add (.tmp 15) (.tmp 17), none⟩,
    ⟨(some 19), .nilCheck (.tmp 13), none⟩,
    ⟨none, .store 1 (.tmp 19) (.tmp 18), none⟩])
  (.seq (.region [
    ⟨(some 20), .mv (.tmp 7), none⟩,
    ⟨(some 21), .nilCheck (.tmp 20), none⟩,
    ⟨(some 22), .load1 (.tmp 21), none⟩,
    ⟨(some 6), .mv (.tmp 22), none⟩])
  (.ret))))), none⟩
set_option maxRecDepth 100000 in
theorem comp_115 : compFunc Tryz.prog 4 Tryz.f115 = some F115 := by kernel_rfl
theorem in_115 : F115.body.within F115.ntmps = true := by kernel_rfl

/-- '(*hostler/world.World).steal' -/
def F116 : AFunc := ⟨30, [],
  .seq (.region [
    ⟨(some 7), .mv (.tmp 0), none⟩,
    ⟨(some 8), .nilCheck (.tmp 7), none⟩,
    ⟨(some 9), .fieldAddr 13 (.tmp 8), none⟩,
    ⟨(some 10), .load1 (.tmp 9), none⟩,
    ⟨(some 11), .mv (.tmp 1), none⟩,
    ⟨(some 12), .idxAddr 18 none (.tmp 10) (.tmp 11), none⟩,
    ⟨(some 6), .mv (.tmp 12), none⟩])
  (.seq (.region [
    ⟨(some 13), .mv (.tmp 6), none⟩,
    ⟨(some 14), .mv (.tmp 2), none⟩,
    ⟨(some 15), .nilCheck (.tmp 13), none⟩,
    ⟨(some 16), .fieldAddr 6 (.tmp 15), none⟩,
    ⟨none, .store 1 (.tmp 16) (.tmp 14), none⟩])
  (.seq (.region [
    ⟨(some 17), .mv (.tmp 6), none⟩,
    ⟨(some 18), .nilCheck (.tmp 17), none⟩,
    ⟨(some 19), .fieldAddr 0 (.tmp 18), none⟩,
    ⟨none, .store 1 (.tmp 19) (.const (.int .i64 6)), none⟩])
  (.seq (.region [
    ⟨(some 20), .mv (.tmp 2), none⟩,
    ⟨(some 21), .mv (.tmp 0), none⟩,
    ⟨(some 22), .nilCheck (.tmp 21), none⟩,
    ⟨(some 23), .fieldAddr 0 (.tmp 22), none⟩,
    ⟨(some 24), .fieldAddr 0 (.tmp 23), none⟩,
    ⟨(some 25), .load1 (.tmp 24), none⟩,
    ⟨(some 26), .bin .geq (.tmp 20) (.tmp 25), none⟩])
  (.cond (.tmp 26)
    (.region [
      ⟨(some 27), .mv (.tmp 6), none⟩,
      ⟨(some 28), .nilCheck (.tmp 27), none⟩,
      ⟨(some 29), .fieldAddr 0 (.tmp 28), none⟩,
      ⟨none, .store 1 (.tmp 29) (.const (.int .i64 7)), none⟩])
    (.skip))))), none⟩
set_option maxRecDepth 100000 in
theorem comp_116 : compFunc Tryz.prog 4 Tryz.f116 = some F116 := by kernel_rfl
theorem in_116 : F116.body.within F116.ntmps = true := by kernel_rfl

/-- '(*hostler/world.World).add' -/
def F117 : AFunc := ⟨27, [],
  .draw [
    (⟨(some 10), .mv (.tmp 0), none⟩, .still),
    (⟨(some 11), .nilCheck (.tmp 10), none⟩, .still),
    (⟨(some 12), .fieldAddr 15 (.tmp 11), none⟩, .still),
    (⟨(some 13), .mv (.tmp 2), none⟩, .still),
    (⟨(some 14), .mv (.tmp 3), none⟩, .still),
    (⟨(some 15), .mv (.tmp 1), none⟩, .still),
    (⟨(some 16), .mv (.tmp 0), none⟩, .still),
    (⟨(some 17), .nilCheck (.tmp 16), none⟩, .still),
    (⟨(some 18), .fieldAddr 13 (.tmp 17), none⟩, .still),
    (⟨(some 19), .load1 (.tmp 18), none⟩, .reads 0 0),
    (⟨(some 20), .mv (.tmp 1), none⟩, .still),
    (⟨(some 21), .idxAddr 18 none (.tmp 19) (.tmp 20), none⟩, .still),
    (⟨(some 22), .fieldAddr 1 (.tmp 21), none⟩, .still),
    (⟨(some 23), .load1 (.tmp 22), none⟩, .reads 0 0),
    (⟨(some 24), .mv (.tmp 4), none⟩, .still),
    (⟨(some 25), .build [(.int .i64 0), (.int .i64 0), (.int .i64 0), (.int .i64 0), (.int .i64 0)] [((0, 1), (.tmp 13)), ((1, 1), (.tmp 14)), ((2, 1), (.tmp 15)), ((3, 1), (.tmp 23)), ((4, 1), (.tmp 24))], none⟩, .still),
    (⟨(some 26), .call 55 [(.tmp 12), (.tmp 25)], none⟩, .loud)], none⟩
set_option maxRecDepth 100000 in
theorem comp_117 : compFunc Tryz.prog 4 Tryz.f117 = some F117 := by kernel_rfl
theorem in_117 : F117.body.within F117.ntmps = true := by kernel_rfl

/-- 'hostler/world.either' -/
def F118 : AFunc := ⟨10, [.tmp 6],
  .seq (.region [
    ⟨(some 6), .mv (.const (.int .i64 0)), none⟩])
  (.seq (.seq (.region [
    ⟨(some 7), .mv (.tmp 0), none⟩])
  (.cond (.tmp 7)
    (.seq (.region [
      ⟨(some 8), .mv (.tmp 1), none⟩,
      ⟨(some 6), .mv (.tmp 8), none⟩])
    (.ret))
    (.skip)))
  (.seq (.region [
    ⟨(some 9), .mv (.tmp 2), none⟩,
    ⟨(some 6), .mv (.tmp 9), none⟩])
  (.ret))), none⟩
set_option maxRecDepth 100000 in
theorem comp_118 : compFunc Tryz.prog 4 Tryz.f118 = some F118 := by kernel_rfl
theorem in_118 : F118.body.within F118.ntmps = true := by kernel_rfl

/-- '(*hostler/cell.Memory).Len' -/
def F122 : AFunc := ⟨10, [.tmp 2],
  .seq (.region [
    ⟨(some 2), .mv (.const (.int .i64 0)), none⟩])
  (.seq (.seq (.region [
    ⟨(some 3), .mv (.tmp 0), none⟩,
    ⟨(some 4), .cmpNil false 0 (.tmp 3) (.const .nilptr), none⟩])
  (.cond (.tmp 4)
    (.seq (.region [
      ⟨(some 2), .mv (.const (.int .i64 0)), none⟩])
    (.ret))
    (.skip)))
  (.seq (.region [
    ⟨(some 5), .mv (.tmp 0), none⟩,
    ⟨(some 6), .nilCheck (.tmp 5), none⟩,
    ⟨(some 7), .fieldAddr 0 (.tmp 6), none⟩,
    ⟨(some 8), .load1 (.tmp 7), none⟩,
    ⟨(some 9), .lenS (.tmp 8), none⟩,
    ⟨(some 2), .mv (.tmp 9), none⟩])
  (.ret))), none⟩
set_option maxRecDepth 100000 in
theorem comp_122 : compFunc Tryz.prog 4 Tryz.f122 = some F122 := by kernel_rfl
theorem in_122 : F122.body.within F122.ntmps = true := by kernel_rfl

/-- 'slices.Index[[]int,int]' -/
def F126 : AFunc := ⟨19, [.tmp 4],
  .seq (.region [
    ⟨(some 4), .mv (.const (.int .i64 0)), none⟩])
  (.seq (.seq (.region [
    ⟨(some 6), .mv (.tmp 0), none⟩,
    ⟨(some 7), .lenS (.tmp 6), none⟩,
    ⟨(some 8), .mv (.const (.int .i64 0)), none⟩])
  (.block 0 (.loop (.seq (.region [
      ⟨(some 9), .bin .lss (.tmp 8) (.tmp 7), none⟩])
    (.seq (.cond (.tmp 9)
      (.skip)
      (.exit 0))
    (.seq (.block 1 (.seq (.region [
      ⟨(some 10), .mv (.tmp 8), none⟩,
      ⟨(some 5), .mv (.tmp 10), none⟩])
    (.seq (.region [
      ⟨(some 11), .mv (.tmp 1), none⟩,
      ⟨(some 12), .mv (.tmp 0), none⟩,
      ⟨(some 13), .mv (.tmp 5), none⟩,
      ⟨(some 14), .idxAddr 1 none (.tmp 12) (.tmp 13), none⟩,
      ⟨(some 15), .load1 (.tmp 14), none⟩,
      ⟨(some 16), .bin .eql (.tmp 11) (.tmp 15), none⟩])
    (.cond (.tmp 16)
      (.seq (.region [
        ⟨(some 17), .mv (.tmp 5), none⟩,
        ⟨(some 4), .mv (.tmp 17), none⟩])
      (.ret))
      (.skip)))))
    (.region [
      ⟨(some 18), .bin .add (.tmp 8) (.const (.int .i64 1)), none⟩,
      ⟨(some 8), .mv (.tmp 18), none⟩])))))))
  (.seq (.region [
    ⟨(some 4), .mv (.const (.int .i64 (-1))), none⟩])
  (.ret))), none⟩
set_option maxRecDepth 100000 in
theorem comp_126 : compFunc Tryz.prog 4 Tryz.f126 = some F126 := by kernel_rfl
theorem in_126 : F126.body.within F126.ntmps = true := by kernel_rfl

/-- '(*hostler/mask.Mask).turn' -/
def F127 : AFunc := ⟨37, [.tmp 6],
  .seq (.region [
    ⟨(some 6), .mv (.const (.bool false)), none⟩])
  (.seq (.seq (.region [
    ⟨(some 7), .mv (.tmp 1), none⟩,
    ⟨(some 8), .bin .lss (.tmp 7) (.const (.int .i64 0)), none⟩,
    ⟨(some 9), .mv (.tmp 8), none⟩,
    ⟨(some 10), .mv (.tmp 1), (some (9, false))⟩,
    ⟨(some 11), .mv (.tmp 0), (some (9, false))⟩,
    ⟨(some 12), .nilCheck (.tmp 11), (some (9, false))⟩,
    ⟨(some 13), .fieldAddr 0 (.tmp 12), (some (9, false))⟩,
    ⟨(some 14), .load1 (.tmp 13), (some (9, false))⟩,
    ⟨(some 15), .bin .geq (.tmp 10) (.tmp 14), (some (9, false))⟩,
    ⟨(some 16), .pick (.tmp 9) (.const (.bool true)) (.tmp 15), none⟩,
    ⟨(some 17), .mv (.tmp 16), none⟩,
    ⟨(some 18), .mv (.tmp 0), (some (17, false))⟩,
    ⟨(some 19), .mv (.tmp 1), (some (17, false))⟩,
    ⟨(some 20), .call 161 [(.tmp 18), (.tmp 19)], (some (17, false))⟩,
    ⟨(some 21), .mv (.tmp 2), (some (17, false))⟩,
    ⟨(some 22), .eqBool true (.tmp 20) (.tmp 21), (some (17, false))⟩,
    ⟨(some 23), .pick (.tmp 17) (.const (.bool true)) (.tmp 22), none⟩])
  (.cond (.tmp 23)
    (.seq (.region [
      ⟨(some 6), .mv (.const (.bool false)), none⟩])
    (.ret))
    (.skip)))
  (.seq (.draw [
    (⟨(some 24), .mv (.tmp 0), none⟩, .still),
    (⟨(some 25), .nilCheck (.tmp 24), none⟩, .still),
    (⟨(some 26), .fieldAddr 1 (.tmp 25), none⟩, .still),
    (⟨(some 27), .load1 (.tmp 26), none⟩, .reads 0 0),
    (⟨(some 28), .mv (.tmp 1), none⟩, .still),
    (⟨(some 29), .bin .quo (.tmp 28) (.const (.int .i64 64)), none⟩, .still),
    (⟨(some 30), .idxAddr 1 none (.tmp 27) (.tmp 29), none⟩, .still),
    (⟨(some 31), .load1 (.tmp 30), none⟩, .reads 0 0),
    (⟨(some 32), .mv (.tmp 1), none⟩, .still),
    (⟨(some 33), .bin .rem (.tmp 32) (.const (.int .i64 64)), none⟩, .still),
    (⟨(some 34), .bin .shl (.const (.int .u64 1)) (.tmp 33), none⟩, .still),
    (⟨(some 35), .bin .xor (.tmp 31) (.tmp 34), none⟩, .still),
    (⟨(some 36), .idxAddr 1 none (.tmp 27) (.tmp 29), none⟩, .still),
    (⟨none, .store 1 (.tmp 36) (.tmp 35), none⟩, .loud)])
  (.seq (.region [
    ⟨(some 6), .mv (.const (.bool true)), none⟩])
  (.ret)))), none⟩
set_option maxRecDepth 100000 in
theorem comp_127 : compFunc Tryz.prog 4 Tryz.f127 = some F127 := by kernel_rfl
theorem in_127 : F127.body.within F127.ntmps = true := by kernel_rfl

/-- 'slices.Contains[[]hostler/status.Status,hostler/status.Status]' -/
def F128 : AFunc := ⟨9, [.tmp 4],
  .seq (.region [
    ⟨(some 4), .mv (.const (.bool false)), none⟩])
  (.seq (.region [
    ⟨(some 5), .mv (.tmp 0), none⟩,
    ⟨(some 6), .mv (.tmp 1), none⟩,
    ⟨(some 7), .call 162 [(.tmp 5), (.tmp 6)], none⟩,
    ⟨(some 8), .bin .geq (.tmp 7) (.const (.int .i64 0)), none⟩,
    ⟨(some 4), .mv (.tmp 8), none⟩])
  (.ret)), none⟩
set_option maxRecDepth 100000 in
theorem comp_128 : compFunc Tryz.prog 4 Tryz.f128 = some F128 := by kernel_rfl
theorem in_128 : F128.body.within F128.ntmps = true := by kernel_rfl

/-- 'hostler/event.of' -/
def F129 : AFunc := ⟨14, [.cellN 2 3, .tmp 3],
  .seq (.region [
    ⟨(some 2), .alloc [(.str ⟨#[]⟩), (.int .u64 0), (.int .u64 0)], none⟩,
    ⟨(some 3), .mv (.const (.bool false)), none⟩])
  (.seq (.seq (.region [
    ⟨(some 4), .mv (.tmp 0), none⟩,
    ⟨(some 5), .bin .lss (.tmp 4) (.const (.int .i64 0)), none⟩,
    ⟨(some 6), .mv (.tmp 5), none⟩,
    ⟨(some 7), .mv (.tmp 0), (some (6, false))⟩,
    ⟨(some 8), .bin .geq (.tmp 7) (.const (.int .i64 8)), (some (6, false))⟩,
    ⟨(some 9), .pick (.tmp 6) (.const (.bool true)) (.tmp 8), none⟩])
  (.cond (.tmp 9)
    (.seq (.region [
      ⟨(some 10), .build [(.str ⟨#[]⟩), (.int .u64 0), (.int .u64 0)] [], none⟩,
      ⟨none, .store 3 (.tmp 2) (.tmp 10), none⟩,
      ⟨(some 3), .mv (.const (.bool false)), none⟩])
    (.ret))
    (.skip)))
  (.seq (.region [
    ⟨(some 11), .mv (.tmp 0), none⟩,
    ⟨(some 12), .idxAddr 3 (some 8) (.glob 2) (.tmp 11), none⟩,
    ⟨(some 13), .loadN 3 (.tmp 12), none⟩,
    ⟨none, .store 3 (.tmp 2) (.tmp 13), none⟩,
    ⟨(some 3), .mv (.const (.bool true)), none⟩])
  (.ret))), none⟩
set_option maxRecDepth 100000 in
theorem comp_129 : compFunc Tryz.prog 4 Tryz.f129 = some F129 := by kernel_rfl
theorem in_129 : F129.body.within F129.ntmps = true := by kernel_rfl

/-- 'hostler/event.value' -/
def F130 : AFunc := ⟨20, [.tmp 2],
  .seq (.region [
    ⟨(some 1), .box (.tmp 0), none⟩,
    ⟨(some 2), .mv (.const (.bool false)), none⟩])
  (.seq (.seq (.region [
    ⟨(some 3), .fieldAddr 0 (.tmp 1), none⟩,
    ⟨(some 4), .load1 (.tmp 3), none⟩])
  (.block 0 (.seq (.region [
    ⟨(some 6), .bin .eql (.tmp 4) (.const (.int .i64 5)), none⟩,
    ⟨(some 5), .mv (.tmp 6), none⟩])
  (.cond (.tmp 5)
    (.seq (.region [
      ⟨(some 2), .mv (.const (.bool true)), none⟩])
    (.ret))
    (.seq (.region [
      ⟨(some 8), .bin .eql (.tmp 4) (.const (.int .i64 6)), none⟩,
      ⟨(some 7), .mv (.tmp 8), none⟩])
    (.cond (.tmp 7)
      (.seq (.region [
        ⟨(some 9), .fieldAddr 4 (.tmp 1), none⟩,
        ⟨(some 10), .load1 (.tmp 9), none⟩,
        ⟨(some 11), .bin .geq (.tmp 10) (.const (.int .i64 0)), none⟩,
        ⟨(some 12), .mv (.tmp 11), none⟩,
        ⟨(some 13), .fieldAddr 4 (.tmp 1), (some (12, true))⟩,
        ⟨(some 14), .load1 (.tmp 13), (some (12, true))⟩,
        ⟨(some 15), .bin .lss (.tmp 14) (.const (.int .i64 65536)), (some (12, true))⟩,
        ⟨(some 16), .pick (.tmp 12) (.tmp 15) (.const (.bool false)), none⟩,
        ⟨(some 2), .mv (.tmp 16), none⟩])
      (.ret))
      (.skip)))))))
  (.seq (.region [
    ⟨(some 17), .fieldAddr 4 (.tmp 1), none⟩,
    ⟨(some 18), .load1 (.tmp 17), none⟩,
    ⟨(some 19), .bin .eql (.tmp 18) (.const (.int .i64 0)), none⟩,
    ⟨(some 2), .mv (.tmp 19), none⟩])
  (.ret))), none⟩
set_option maxRecDepth 100000 in
theorem comp_130 : compFunc Tryz.prog 4 Tryz.f130 = some F130 := by kernel_rfl
theorem in_130 : F130.body.within F130.ntmps = true := by kernel_rfl

/-- '(*hostler/round.Driver).Until$1' -/
def F131 : AFunc := ⟨13, [.tmp 2],
  .seq (.region [
    ⟨(some 2), .mv (.const (.bool false)), none⟩])
  (.seq (.draw [
    (⟨(some 3), .load1 (.tmp 0), none⟩, .reads 0 0),
    (⟨(some 4), .cmpNil true 3 (.tmp 3) (.const .nilfunc), none⟩, .still),
    (⟨(some 5), .mv (.tmp 4), none⟩, .still),
    (⟨(some 6), .load1 (.tmp 0), (some (5, true))⟩, .reads 0 0),
    (⟨(some 7), .load1 (.tmp 1), (some (5, true))⟩, .reads 0 0),
    (⟨(some 8), .nilCheck (.tmp 7), (some (5, true))⟩, .still),
    (⟨(some 9), .fieldAddr 0 (.tmp 8), (some (5, true))⟩, .still),
    (⟨(some 10), .load1 (.tmp 9), (some (5, true))⟩, .reads 0 0),
    (⟨(some 11), .callv (.tmp 6) [(.tmp 10)], (some (5, true))⟩, .loud),
    (⟨(some 12), .pick (.tmp 5) (.tmp 11) (.const (.bool false)), none⟩, .still),
    (⟨(some 2), .mv (.tmp 12), none⟩, .still)])
  (.ret)), none⟩
set_option maxRecDepth 100000 in
theorem comp_131 : compFunc Tryz.prog 4 Tryz.f131 = some F131 := by kernel_rfl
theorem in_131 : F131.body.within F131.ntmps = true := by kernel_rfl

/-- '(*hostler/round.Driver).Round', by hand: the deferred call comes last. -/
def F132 : AFunc := { ntmps := 23, arity := some 1, results := [], body := .seq (.seq (.region [
    ⟨(some 3), .mv (.tmp 0), none⟩])
  (.seq (.region [
    ⟨(some 4), .mv (.tmp 0), none⟩,
    ⟨(some 5), .nilCheck (.tmp 4), none⟩,
    ⟨(some 6), .fieldAddr 4 (.tmp 5), none⟩,
    ⟨(some 7), .load1 (.tmp 6), none⟩,
    ⟨(some 8), .lenS (.tmp 7), none⟩,
    ⟨(some 9), .mv (.const (.int .i64 0)), none⟩])
  (.block 0 (.loop (.seq (.region [
      ⟨(some 10), .bin .lss (.tmp 9) (.tmp 8), none⟩])
    (.seq (.cond (.tmp 10)
      (.skip)
      (.exit 0))
    (.seq (.block 1 (.seq (.region [
      ⟨(some 11), .mv (.tmp 9), none⟩,
      ⟨(some 2), .mv (.tmp 11), none⟩])
    (.draw [
      (⟨(some 12), .mv (.tmp 0), none⟩, .still),
      (⟨(some 13), .nilCheck (.tmp 12), none⟩, .still),
      (⟨(some 14), .fieldAddr 0 (.tmp 13), none⟩, .still),
      (⟨(some 15), .load1 (.tmp 14), none⟩, .reads 0 1),
      (⟨(some 16), .mv (.tmp 2), none⟩, .still),
      (⟨(some 17), .mv (.tmp 0), none⟩, .still),
      (⟨(some 18), .mv (.tmp 2), none⟩, .still),
      (⟨(some 19), .call 164 [(.tmp 17), (.tmp 18)], none⟩, .loud),
      (⟨(some 20), .build [(.int .u8 0), (.int .u8 0), (.int .i64 0), (.int .i64 0), (.int .i64 0)] [((2, 1), (.tmp 16)), ((1, 1), (.tmp 19))], none⟩, .still),
      (⟨(some 21), .call 10 [(.tmp 15), (.tmp 20)], none⟩, .loud)])))
    (.region [
      ⟨(some 22), .bin .add (.tmp 9) (.const (.int .i64 1)), none⟩,
      ⟨(some 9), .mv (.tmp 22), none⟩])))))))) (.region [⟨none, .call 163 [.tmp 3], none⟩]) }
theorem in_132 : F132.body.within F132.ntmps = true := by kernel_rfl

/-- 'slices.Clone[[]hostler/event.Event,hostler/event.Event]' -/
def F134 : AFunc := ⟨8, [.tmp 2],
  .seq (.region [
    ⟨(some 2), .mv (.const .nilslice), none⟩])
  (.seq (.seq (.region [
    ⟨(some 3), .mv (.tmp 0), none⟩,
    ⟨(some 4), .cmpNil false 1 (.tmp 3) (.const .nilslice), none⟩])
  (.cond (.tmp 4)
    (.seq (.region [
      ⟨(some 2), .mv (.const .nilslice), none⟩])
    (.ret))
    (.skip)))
  (.seq (.region [
    ⟨(some 5), .buildSlice [] 0 [], none⟩,
    ⟨(some 6), .mv (.tmp 0), none⟩,
    ⟨(some 7), .append 5 40 [(.int .i64 0), (.int .i64 0), (.int .i64 0), (.int .i64 0), (.int .i64 0)] (.tmp 5) (.tmp 6), none⟩,
    ⟨(some 2), .mv (.tmp 7), none⟩])
  (.ret))), none⟩
set_option maxRecDepth 100000 in
theorem comp_134 : compFunc Tryz.prog 4 Tryz.f134 = some F134 := by kernel_rfl
theorem in_134 : F134.body.within F134.ntmps = true := by kernel_rfl

/-- '(hostler/note.Sleeper).Due' -/
def F135 : AFunc := ⟨14, [.tmp 4],
  .seq (.region [
    ⟨(some 2), .box (.tmp 0), none⟩,
    ⟨(some 4), .mv (.const (.bool false)), none⟩])
  (.seq (.region [
    ⟨(some 5), .fieldAddr 1 (.tmp 2), none⟩,
    ⟨(some 6), .load1 (.tmp 5), none⟩,
    ⟨(some 7), .bin .neq (.tmp 6) (.const (.int .i64 9223372036854775807)), none⟩,
    ⟨(some 8), .mv (.tmp 7), none⟩,
    ⟨(some 9), .mv (.tmp 1), (some (8, true))⟩,
    ⟨(some 10), .fieldAddr 1 (.tmp 2), (some (8, true))⟩,
    ⟨(some 11), .load1 (.tmp 10), (some (8, true))⟩,
    ⟨(some 12), .bin .geq (.tmp 9) (.tmp 11), (some (8, true))⟩,
    ⟨(some 13), .pick (.tmp 8) (.tmp 12) (.const (.bool false)), none⟩,
    ⟨(some 4), .mv (.tmp 13), none⟩])
  (.ret)), none⟩
set_option maxRecDepth 100000 in
theorem comp_135 : compFunc Tryz.prog 4 Tryz.f135 = some F135 := by kernel_rfl
theorem in_135 : F135.body.within F135.ntmps = true := by kernel_rfl

/-- '(hostler/ticket.Lock).Take' -/
def F136 : AFunc := ⟨10, [.tmp 4],
  .seq (.region [
    ⟨(some 2), .box (.tmp 0), none⟩,
    ⟨(some 4), .mv (.const (.int .u64 0)), none⟩])
  (.seq (.region [
    ⟨(some 5), .mv (.tmp 1), none⟩,
    ⟨(some 6), .fieldAddr 0 (.tmp 2), none⟩,
    ⟨(some 7), .load1 (.tmp 6), none⟩,
    ⟨(some 8), .call 115 [(.tmp 5), (.tmp 7), (.const (.int .i64 1))], none⟩,
    ⟨(some 9), .bin .sub (.tmp 8) (.const (.int .u64 1)), none⟩,
    ⟨(some 4), .mv (.tmp 9), none⟩])
  (.ret)), none⟩
set_option maxRecDepth 100000 in
theorem comp_136 : compFunc Tryz.prog 4 Tryz.f136 = some F136 := by kernel_rfl
theorem in_136 : F136.body.within F136.ntmps = true := by kernel_rfl

/-- '(hostler/ticket.Lock).Held' -/
def F137 : AFunc := ⟨12, [.tmp 6],
  .seq (.region [
    ⟨(some 3), .box (.tmp 0), none⟩,
    ⟨(some 6), .mv (.const (.bool false)), none⟩])
  (.seq (.region [
    ⟨(some 7), .loadN 2 (.tmp 3), none⟩,
    ⟨(some 8), .mv (.tmp 1), none⟩,
    ⟨(some 9), .mv (.tmp 2), none⟩,
    ⟨(some 10), .call 166 [(.tmp 7), (.tmp 8), (.tmp 9)], none⟩,
    ⟨(some 11), .bin .eql (.tmp 10) (.const (.int .u64 0)), none⟩,
    ⟨(some 6), .mv (.tmp 11), none⟩])
  (.ret)), none⟩
set_option maxRecDepth 100000 in
theorem comp_137 : compFunc Tryz.prog 4 Tryz.f137 = some F137 := by kernel_rfl
theorem in_137 : F137.body.within F137.ntmps = true := by kernel_rfl

/-- '(hostler/ticket.Lock).Free' -/
def F138 : AFunc := ⟨19, [.tmp 6],
  .seq (.region [
    ⟨(some 3), .box (.tmp 0), none⟩,
    ⟨(some 6), .mv (.const (.bool false)), none⟩])
  (.seq (.region [
    ⟨(some 7), .loadN 2 (.tmp 3), none⟩,
    ⟨(some 8), .mv (.tmp 1), none⟩,
    ⟨(some 9), .mv (.tmp 2), none⟩,
    ⟨(some 10), .call 137 [(.tmp 7), (.tmp 8), (.tmp 9)], none⟩,
    ⟨(some 11), .mv (.tmp 10), none⟩,
    ⟨(some 12), .mv (.tmp 1), (some (11, true))⟩,
    ⟨(some 13), .fieldAddr 1 (.tmp 3), (some (11, true))⟩,
    ⟨(some 14), .load1 (.tmp 13), (some (11, true))⟩,
    ⟨(some 15), .mv (.tmp 2), (some (11, true))⟩,
    ⟨(some 16), .bin .add (.tmp 15) (.const (.int .u64 1)), (some (11, true))⟩,
    ⟨(some 17), .call 157 [(.tmp 12), (.tmp 14), (.tmp 16)], (some (11, true))⟩,
    ⟨(some 18), .pick (.tmp 11) (.tmp 17) (.const (.bool false)), none⟩,
    ⟨(some 6), .mv (.tmp 18), none⟩])
  (.ret)), none⟩
set_option maxRecDepth 100000 in
theorem comp_138 : compFunc Tryz.prog 4 Tryz.f138 = some F138 := by kernel_rfl
theorem in_138 : F138.body.within F138.ntmps = true := by kernel_rfl

/-- '(*hostler/global.Queue).One' -/
def F139 : AFunc := ⟨10, [.tmp 2, .tmp 3],
  .seq (.region [
    ⟨(some 2), .mv (.const (.int .i64 0)), none⟩,
    ⟨(some 3), .mv (.const (.bool false)), none⟩])
  (.seq (.region [
    ⟨(some 4), .mv (.tmp 0), none⟩,
    ⟨(some 5), .nilCheck (.tmp 4), none⟩,
    ⟨(some 6), .fieldAddr 0 (.tmp 5), none⟩,
    ⟨(some 7), .call 167 [(.tmp 6)], none⟩,
    ⟨(some 8), .extract 0 (.tmp 7), none⟩,
    ⟨(some 9), .extract 1 (.tmp 7), none⟩,
    ⟨(some 2), .mv (.tmp 8), none⟩,
    ⟨(some 3), .mv (.tmp 9), none⟩])
  (.ret)), none⟩
set_option maxRecDepth 100000 in
theorem comp_139 : compFunc Tryz.prog 4 Tryz.f139 = some F139 := by kernel_rfl
theorem in_139 : F139.body.within F139.ntmps = true := by kernel_rfl

/-- '(*hostler/world.World).one' -/
def F140 : AFunc := ⟨17, [],
  .seq (.region [
    ⟨(some 8), .mv (.tmp 3), none⟩])
  (.cond (.tmp 8)
    (.region [
      ⟨(some 9), .mv (.tmp 0), none⟩,
      ⟨(some 10), .mv (.tmp 1), none⟩,
      ⟨(some 11), .mv (.tmp 2), none⟩,
      ⟨(some 12), .buildSlice [(.int .i64 0)] 1 [((0, 1), (.tmp 11))], none⟩,
      ⟨(some 13), .call 142 [(.tmp 9), (.tmp 10), (.tmp 12)], none⟩])
    (.region [
      ⟨(some 14), .mv (.tmp 0), none⟩,
      ⟨(some 15), .mv (.tmp 1), none⟩,
      ⟨(some 16), .call 142 [(.tmp 14), (.tmp 15), (.const .nilslice)], none⟩])), none⟩
set_option maxRecDepth 100000 in
theorem comp_140 : compFunc Tryz.prog 4 Tryz.f140 = some F140 := by kernel_rfl
theorem in_140 : F140.body.within F140.ntmps = true := by kernel_rfl

/-- '(*hostler/ring.Ring).Get' -/
def F141 : AFunc := ⟨65, [.tmp 2, .tmp 3],
  .seq (.region [
    ⟨(some 2), .mv (.const (.int .i64 0)), none⟩,
    ⟨(some 3), .mv (.const (.bool false)), none⟩])
  (.seq (.block 0 (.seq (.region [
    ⟨(some 6), .mv (.tmp 0), none⟩,
    ⟨(some 7), .nilCheck (.tmp 6), none⟩,
    ⟨(some 8), .fieldAddr 258 (.tmp 7), none⟩,
    ⟨(some 9), .load1 (.tmp 8), none⟩,
    ⟨(some 10), .mv (.tmp 9), none⟩,
    ⟨(some 11), .mv (.tmp 0), (some (10, true))⟩,
    ⟨(some 12), .nilCheck (.tmp 11), (some (10, true))⟩,
    ⟨(some 13), .fieldAddr 257 (.tmp 12), (some (10, true))⟩,
    ⟨(some 14), .load1 (.tmp 13), (some (10, true))⟩,
    ⟨(some 15), .bin .eql (.tmp 14) (.const (.int .i64 0)), (some (10, true))⟩,
    ⟨(some 16), .pick (.tmp 10) (.tmp 15) (.const (.bool false)), none⟩,
    ⟨(some 5), .mv (.tmp 16), none⟩])
  (.cond (.tmp 5)
    (.seq (.region [
      ⟨(some 17), .mv (.tmp 0), none⟩,
      ⟨(some 18), .nilCheck (.tmp 17), none⟩,
      ⟨(some 19), .fieldAddr 260 (.tmp 18), none⟩,
      ⟨none, .store 1 (.tmp 19) (.const (.int .i64 0)), none⟩])
    (.seq (.region [
      ⟨(some 20), .mv (.tmp 0), none⟩,
      ⟨(some 21), .call 168 [(.tmp 20)], none⟩,
      ⟨(some 2), .mv (.tmp 21), none⟩,
      ⟨(some 3), .mv (.const (.bool true)), none⟩])
    (.ret)))
    (.seq (.region [
      ⟨(some 23), .mv (.tmp 0), none⟩,
      ⟨(some 24), .nilCheck (.tmp 23), none⟩,
      ⟨(some 25), .fieldAddr 258 (.tmp 24), none⟩,
      ⟨(some 26), .load1 (.tmp 25), none⟩,
      ⟨(some 27), .mv (.tmp 26), none⟩,
      ⟨(some 28), .mv (.tmp 0), (some (27, true))⟩,
      ⟨(some 29), .nilCheck (.tmp 28), (some (27, true))⟩,
      ⟨(some 30), .fieldAddr 260 (.tmp 29), (some (27, true))⟩,
      ⟨(some 31), .load1 (.tmp 30), (some (27, true))⟩,
      ⟨(some 32), .bin .lss (.tmp 31) (.const (.int .i64 4)), (some (27, true))⟩,
      ⟨(some 33), .pick (.tmp 27) (.tmp 32) (.const (.bool false)), none⟩,
      ⟨(some 22), .mv (.tmp 33), none⟩])
    (.cond (.tmp 22)
      (.seq (.region [
        ⟨(some 34), .mv (.tmp 0), none⟩,
        ⟨(some 35), .nilCheck (.tmp 34), none⟩,
        ⟨(some 36), .fieldAddr 260 (.tmp 35), none⟩,
        ⟨(some 37), .load1 (.tmp 36), none⟩,
        ⟨(some 38), .bin .add (.tmp 37) (.const (.int .i64 1)), none⟩,
        ⟨(some 39), .nilCheck (.tmp 34), none⟩,
        ⟨(some 40), .fieldAddr 260 (.tmp 39), none⟩,
        ⟨none, .store 1 (.tmp 40) (.tmp 38), none⟩])
      (.seq (.region [
        ⟨(some 41), .mv (.tmp 0), none⟩,
        ⟨(some 42), .call 168 [(.tmp 41)], none⟩,
        ⟨(some 2), .mv (.tmp 42), none⟩,
        ⟨(some 3), .mv (.const (.bool true)), none⟩])
      (.ret)))
      (.seq (.region [
        ⟨(some 44), .mv (.tmp 0), none⟩,
        ⟨(some 45), .nilCheck (.tmp 44), none⟩,
        ⟨(some 46), .fieldAddr 257 (.tmp 45), none⟩,
        ⟨(some 47), .load1 (.tmp 46), none⟩,
        ⟨(some 48), .bin .eql (.tmp 47) (.const (.int .i64 0)), none⟩,
        ⟨(some 43), .mv (.tmp 48), none⟩])
      (.cond (.tmp 43)
        (.seq (.region [
          ⟨(some 2), .mv (.const (.int .i64 0)), none⟩,
          ⟨(some 3), .mv (.const (.bool false)), none⟩])
        (.ret))
        (.skip))))))))
  (.seq (.region [
    ⟨(some 49), .mv (.tmp 0), none⟩,
    ⟨(some 50), .nilCheck (.tmp 49), none⟩,
    ⟨(some 51), .fieldAddr 260 (.tmp 50), none⟩,
    ⟨none, .store 1 (.tmp 51) (.const (.int .i64 0)), none⟩])
  (.seq (.region [
    ⟨(some 52), .mv (.tmp 0), none⟩,
    ⟨(some 53), .call 87 [(.tmp 52), (.const (.int .i64 1))], none⟩,
    ⟨(some 54), .idxAddr 1 none (.tmp 53) (.const (.int .i64 0)), none⟩,
    ⟨(some 55), .load1 (.tmp 54), none⟩,
    ⟨(some 4), .mv (.tmp 55), none⟩])
  (.seq (.seq (.region [
    ⟨(some 56), .mv (.tmp 0), none⟩,
    ⟨(some 57), .nilCheck (.tmp 56), none⟩,
    ⟨(some 58), .fieldAddr 258 (.tmp 57), none⟩,
    ⟨(some 59), .load1 (.tmp 58), none⟩])
  (.cond (.tmp 59)
    (.region [
      ⟨(some 60), .mv (.tmp 0), none⟩,
      ⟨(some 61), .mv (.tmp 0), none⟩,
      ⟨(some 62), .call 168 [(.tmp 61)], none⟩,
      ⟨(some 63), .call 169 [(.tmp 60), (.tmp 62)], none⟩])
    (.skip)))
  (.seq (.region [
    ⟨(some 64), .mv (.tmp 4), none⟩,
    ⟨(some 2), .mv (.tmp 64), none⟩,
    ⟨(some 3), .mv (.const (.bool true)), none⟩])
  (.ret)))))), none⟩
set_option maxRecDepth 100000 in
theorem comp_141 : compFunc Tryz.prog 4 Tryz.f141 = some F141 := by kernel_rfl
theorem in_141 : F141.body.within F141.ntmps = true := by kernel_rfl

/-- '(*hostler/world.World).found' -/
def F142 : AFunc := ⟨37, [],
  .seq (.region [
    ⟨(some 7), .mv (.tmp 0), none⟩,
    ⟨(some 8), .nilCheck (.tmp 7), none⟩,
    ⟨(some 9), .fieldAddr 13 (.tmp 8), none⟩,
    ⟨(some 10), .load1 (.tmp 9), none⟩,
    ⟨(some 11), .mv (.tmp 1), none⟩,
    ⟨(some 12), .idxAddr 18 none (.tmp 10) (.tmp 11), none⟩,
    ⟨(some 6), .mv (.tmp 12), none⟩])
  (.seq (.region [
    ⟨(some 13), .mv (.tmp 0), none⟩,
    ⟨(some 14), .nilCheck (.tmp 13), none⟩,
    ⟨(some 15), .fieldAddr 14 (.tmp 14), none⟩,
    ⟨(some 16), .load1 (.tmp 15), none⟩,
    ⟨(some 17), .mv (.tmp 1), none⟩,
    ⟨(some 18), .mv (.tmp 2), none⟩,
    ⟨(some 19), .lenS (.tmp 18), none⟩,
    ⟨(some 20), .bin .gtr (.tmp 19) (.const (.int .i64 0)), none⟩,
    ⟨(some 21), .idxAddr 1 none (.tmp 16) (.tmp 17), none⟩,
    ⟨none, .store 1 (.tmp 21) (.tmp 20), none⟩])
  (.seq (.region [
    ⟨(some 22), .mv (.tmp 2), none⟩,
    ⟨(some 23), .lenS (.tmp 22), none⟩,
    ⟨(some 24), .bin .gtr (.tmp 23) (.const (.int .i64 0)), none⟩])
  (.cond (.tmp 24)
    (.draw [
      (⟨(some 25), .mv (.tmp 6), none⟩, .still),
      (⟨(some 26), .mv (.tmp 6), none⟩, .still),
      (⟨(some 27), .mv (.tmp 2), none⟩, .still),
      (⟨(some 28), .idxAddr 1 none (.tmp 27) (.const (.int .i64 0)), none⟩, .still),
      (⟨(some 29), .load1 (.tmp 28), none⟩, .reads 0 1),
      (⟨(some 30), .mv (.tmp 2), none⟩, .still),
      (⟨(some 31), .slc 1 none (.tmp 30) (some (.const (.int .i64 1))) none none, none⟩, .reads 0 0),
      (⟨(some 32), .call 83 [(.tmp 31)], none⟩, .loud),
      (⟨(some 33), .nilCheck (.tmp 25), none⟩, .still),
      (⟨(some 34), .fieldAddr 4 (.tmp 33), none⟩, .still),
      (⟨none, .store 1 (.tmp 34) (.tmp 29), none⟩, .loud),
      (⟨(some 35), .nilCheck (.tmp 26), none⟩, .still),
      (⟨(some 36), .fieldAddr 9 (.tmp 35), none⟩, .still),
      (⟨none, .store 1 (.tmp 36) (.tmp 32), none⟩, .loud)])
    (.skip)))), none⟩
set_option maxRecDepth 100000 in
theorem comp_142 : compFunc Tryz.prog 4 Tryz.f142 = some F142 := by kernel_rfl
theorem in_142 : F142.body.within F142.ntmps = true := by kernel_rfl

/-- '(*hostler/global.Queue).Take' -/
def F143 : AFunc := ⟨9, [.tmp 2],
  .seq (.region [
    ⟨(some 2), .mv (.const .nilslice), none⟩])
  (.seq (.draw [
    (⟨(some 3), .mv (.tmp 0), none⟩, .still),
    (⟨(some 4), .nilCheck (.tmp 3), none⟩, .still),
    (⟨(some 5), .fieldAddr 0 (.tmp 4), none⟩, .still),
    (⟨(some 6), .mv (.tmp 0), none⟩, .still),
    (⟨(some 7), .call 171 [(.tmp 6)], none⟩, .loud),
    (⟨(some 8), .call 170 [(.tmp 5), (.tmp 7)], none⟩, .loud),
    (⟨(some 2), .mv (.tmp 8), none⟩, .still)])
  (.ret)), none⟩
set_option maxRecDepth 100000 in
theorem comp_143 : compFunc Tryz.prog 4 Tryz.f143 = some F143 := by kernel_rfl
theorem in_143 : F143.body.within F143.ntmps = true := by kernel_rfl

/-- '(*hostler/ring.Ring).Steal' -/
def F144 : AFunc := ⟨28, [.tmp 2],
  .seq (.region [
    ⟨(some 2), .mv (.const .nilslice), none⟩])
  (.seq (.seq (.region [
    ⟨(some 3), .mv (.tmp 0), none⟩,
    ⟨(some 4), .nilCheck (.tmp 3), none⟩,
    ⟨(some 5), .fieldAddr 257 (.tmp 4), none⟩,
    ⟨(some 6), .load1 (.tmp 5), none⟩,
    ⟨(some 7), .bin .eql (.tmp 6) (.const (.int .i64 0)), none⟩,
    ⟨(some 8), .mv (.tmp 7), none⟩,
    ⟨(some 9), .mv (.tmp 0), (some (8, true))⟩,
    ⟨(some 10), .nilCheck (.tmp 9), (some (8, true))⟩,
    ⟨(some 11), .fieldAddr 258 (.tmp 10), (some (8, true))⟩,
    ⟨(some 12), .load1 (.tmp 11), (some (8, true))⟩,
    ⟨(some 13), .pick (.tmp 8) (.tmp 12) (.const (.bool false)), none⟩])
  (.cond (.tmp 13)
    (.seq (.region [
      ⟨(some 14), .mv (.tmp 0), none⟩,
      ⟨(some 15), .nilCheck (.tmp 14), none⟩,
      ⟨(some 16), .fieldAddr 260 (.tmp 15), none⟩,
      ⟨none, .store 1 (.tmp 16) (.const (.int .i64 0)), none⟩])
    (.seq (.region [
      ⟨(some 17), .mv (.tmp 0), none⟩,
      ⟨(some 18), .call 168 [(.tmp 17)], none⟩,
      ⟨(some 19), .buildSlice [(.int .i64 0)] 1 [((0, 1), (.tmp 18))], none⟩,
      ⟨(some 2), .mv (.tmp 19), none⟩])
    (.ret)))
    (.skip)))
  (.seq (.region [
    ⟨(some 20), .mv (.tmp 0), none⟩,
    ⟨(some 21), .mv (.tmp 0), none⟩,
    ⟨(some 22), .nilCheck (.tmp 21), none⟩,
    ⟨(some 23), .fieldAddr 257 (.tmp 22), none⟩,
    ⟨(some 24), .load1 (.tmp 23), none⟩,
    ⟨(some 25), .bin .add (.tmp 24) (.const (.int .i64 1)), none⟩,
    ⟨(some 26), .bin .quo (.tmp 25) (.const (.int .i64 2)), none⟩,
    ⟨(some 27), .call 87 [(.tmp 20), (.tmp 26)], none⟩,
    ⟨(some 2), .mv (.tmp 27), none⟩])
  (.ret))), none⟩
set_option maxRecDepth 100000 in
theorem comp_144 : compFunc Tryz.prog 4 Tryz.f144 = some F144 := by kernel_rfl
theorem in_144 : F144.body.within F144.ntmps = true := by kernel_rfl

/-- '(*hostler/ring.Ring).Len' -/
def F145 : AFunc := ⟨16, [.tmp 2],
  .seq (.region [
    ⟨(some 2), .mv (.const (.int .i64 0)), none⟩])
  (.seq (.seq (.region [
    ⟨(some 3), .mv (.tmp 0), none⟩,
    ⟨(some 4), .nilCheck (.tmp 3), none⟩,
    ⟨(some 5), .fieldAddr 258 (.tmp 4), none⟩,
    ⟨(some 6), .load1 (.tmp 5), none⟩])
  (.cond (.tmp 6)
    (.seq (.region [
      ⟨(some 7), .mv (.tmp 0), none⟩,
      ⟨(some 8), .nilCheck (.tmp 7), none⟩,
      ⟨(some 9), .fieldAddr 257 (.tmp 8), none⟩,
      ⟨(some 10), .load1 (.tmp 9), none⟩,
      ⟨(some 11), .bin .add (.tmp 10) (.const (.int .i64 1)), none⟩,
      ⟨(some 2), .mv (.tmp 11), none⟩])
    (.ret))
    (.skip)))
  (.seq (.region [
    ⟨(some 12), .mv (.tmp 0), none⟩,
    ⟨(some 13), .nilCheck (.tmp 12), none⟩,
    ⟨(some 14), .fieldAddr 257 (.tmp 13), none⟩,
    ⟨(some 15), .load1 (.tmp 14), none⟩,
    ⟨(some 2), .mv (.tmp 15), none⟩])
  (.ret))), none⟩
set_option maxRecDepth 100000 in
theorem comp_145 : compFunc Tryz.prog 4 Tryz.f145 = some F145 := by kernel_rfl
theorem in_145 : F145.body.within F145.ntmps = true := by kernel_rfl

/-- '(*hostler/global.Queue).Len' -/
def F146 : AFunc := ⟨7, [.tmp 2],
  .seq (.region [
    ⟨(some 2), .mv (.const (.int .i64 0)), none⟩])
  (.seq (.region [
    ⟨(some 3), .mv (.tmp 0), none⟩,
    ⟨(some 4), .nilCheck (.tmp 3), none⟩,
    ⟨(some 5), .fieldAddr 0 (.tmp 4), none⟩,
    ⟨(some 6), .call 172 [(.tmp 5)], none⟩,
    ⟨(some 2), .mv (.tmp 6), none⟩])
  (.ret)), none⟩
set_option maxRecDepth 100000 in
theorem comp_146 : compFunc Tryz.prog 4 Tryz.f146 = some F146 := by kernel_rfl
theorem in_146 : F146.body.within F146.ntmps = true := by kernel_rfl

/-- '(*hostler/idle.Idle).TakeP' -/
def F147 : AFunc := ⟨18, [.tmp 2, .tmp 3],
  .seq (.region [
    ⟨(some 2), .mv (.const (.int .i64 0)), none⟩,
    ⟨(some 3), .mv (.const (.bool false)), none⟩])
  (.seq (.region [
    ⟨(some 5), .mv (.tmp 0), none⟩,
    ⟨(some 6), .nilCheck (.tmp 5), none⟩,
    ⟨(some 7), .fieldAddr 0 (.tmp 6), none⟩,
    ⟨(some 8), .load1 (.tmp 7), none⟩,
    ⟨(some 9), .call 173 [(.tmp 8)], none⟩,
    ⟨(some 4), .mv (.tmp 9), none⟩])
  (.seq (.region [
    ⟨(some 10), .mv (.tmp 4), none⟩,
    ⟨(some 11), .max2 (.const (.int .i64 0)) (.tmp 10), none⟩,
    ⟨(some 12), .mv (.tmp 0), none⟩,
    ⟨(some 13), .nilCheck (.tmp 12), none⟩,
    ⟨(some 14), .fieldAddr 0 (.tmp 13), none⟩,
    ⟨(some 15), .load1 (.tmp 14), none⟩,
    ⟨(some 16), .mv (.tmp 4), none⟩,
    ⟨(some 17), .call 174 [(.tmp 15), (.tmp 16)], none⟩,
    ⟨(some 2), .mv (.tmp 11), none⟩,
    ⟨(some 3), .mv (.tmp 17), none⟩])
  (.ret))), none⟩
set_option maxRecDepth 100000 in
theorem comp_147 : compFunc Tryz.prog 4 Tryz.f147 = some F147 := by kernel_rfl
theorem in_147 : F147.body.within F147.ntmps = true := by kernel_rfl

/-- '(*hostler/idle.Idle).TakePending' -/
def F149 : AFunc := ⟨26, [.tmp 2, .tmp 3],
  .seq (.region [
    ⟨(some 2), .mv (.const (.int .i64 0)), none⟩,
    ⟨(some 3), .mv (.const (.bool false)), none⟩])
  (.seq (.seq (.region [
    ⟨(some 5), .mv (.tmp 0), none⟩,
    ⟨(some 6), .nilCheck (.tmp 5), none⟩,
    ⟨(some 7), .fieldAddr 1 (.tmp 6), none⟩,
    ⟨(some 8), .load1 (.tmp 7), none⟩,
    ⟨(some 9), .lenS (.tmp 8), none⟩,
    ⟨(some 10), .bin .eql (.tmp 9) (.const (.int .i64 0)), none⟩])
  (.cond (.tmp 10)
    (.seq (.region [
      ⟨(some 2), .mv (.const (.int .i64 0)), none⟩,
      ⟨(some 3), .mv (.const (.bool false)), none⟩])
    (.ret))
    (.skip)))
  (.seq (.region [
    ⟨(some 11), .mv (.tmp 0), none⟩,
    ⟨(some 12), .nilCheck (.tmp 11), none⟩,
    ⟨(some 13), .fieldAddr 1 (.tmp 12), none⟩,
    ⟨(some 14), .load1 (.tmp 13), none⟩,
    ⟨(some 15), .idxAddr 1 none (.tmp 14) (.const (.int .i64 0)), none⟩,
    ⟨(some 16), .load1 (.tmp 15), none⟩,
    ⟨(some 4), .mv (.tmp 16), none⟩])
  (.seq (.region [
    ⟨(some 17), .mv (.tmp 0), none⟩,
    ⟨(some 18), .mv (.tmp 0), none⟩,
    ⟨(some 19), .nilCheck (.tmp 18), none⟩,
    ⟨(some 20), .fieldAddr 1 (.tmp 19), none⟩,
    ⟨(some 21), .load1 (.tmp 20), none⟩,
    ⟨(some 22), .call 175 [(.tmp 21), (.const (.int .i64 0)), (.const (.int .i64 1))], none⟩,
    ⟨(some 23), .nilCheck (.tmp 17), none⟩,
    ⟨(some 24), .fieldAddr 1 (.tmp 23), none⟩,
    ⟨none, .store 1 (.tmp 24) (.tmp 22), none⟩])
  (.seq (.region [
    ⟨(some 25), .mv (.tmp 4), none⟩,
    ⟨(some 2), .mv (.tmp 25), none⟩,
    ⟨(some 3), .mv (.const (.bool true)), none⟩])
  (.ret))))), none⟩
set_option maxRecDepth 100000 in
theorem comp_149 : compFunc Tryz.prog 4 Tryz.f149 = some F149 := by kernel_rfl
theorem in_149 : F149.body.within F149.ntmps = true := by kernel_rfl

/-- '(*hostler/ring.Ring).PutAll' -/
def F150 : AFunc := ⟨32, [.tmp 4],
  .seq (.region [
    ⟨(some 4), .mv (.const .nilslice), none⟩])
  (.seq (.region [
    ⟨(some 8), .mv (.tmp 1), none⟩,
    ⟨(some 9), .lenS (.tmp 8), none⟩,
    ⟨(some 10), .mv (.tmp 0), none⟩,
    ⟨(some 11), .nilCheck (.tmp 10), none⟩,
    ⟨(some 12), .fieldAddr 257 (.tmp 11), none⟩,
    ⟨(some 13), .load1 (.tmp 12), none⟩,
    ⟨(some 14), .bin .sub (.const (.int .i64 256)) (.tmp 13), none⟩,
    ⟨(some 15), .min2 (.tmp 9) (.tmp 14), none⟩,
    ⟨(some 5), .mv (.tmp 15), none⟩])
  (.seq (.seq (.region [
    ⟨(some 16), .mv (.tmp 1), none⟩,
    ⟨(some 17), .mv (.tmp 5), none⟩,
    ⟨(some 18), .slc 1 none (.tmp 16) none (some (.tmp 17)) none, none⟩,
    ⟨(some 19), .lenS (.tmp 18), none⟩,
    ⟨(some 20), .mv (.const (.int .i64 0)), none⟩])
  (.block 0 (.loop (.seq (.region [
      ⟨(some 21), .bin .lss (.tmp 20) (.tmp 19), none⟩])
    (.seq (.cond (.tmp 21)
      (.skip)
      (.exit 0))
    (.seq (.block 1 (.seq (.region [
      ⟨(some 22), .idxAddr 1 none (.tmp 18) (.tmp 20), none⟩,
      ⟨(some 23), .load1 (.tmp 22), none⟩,
      ⟨(some 7), .mv (.tmp 23), none⟩])
    (.region [
      ⟨(some 24), .mv (.tmp 0), none⟩,
      ⟨(some 25), .mv (.tmp 7), none⟩,
      ⟨(some 26), .call 169 [(.tmp 24), (.tmp 25)], none⟩])))
    (.region [
      ⟨(some 27), .bin .add (.tmp 20) (.const (.int .i64 1)), none⟩,
      ⟨(some 20), .mv (.tmp 27), none⟩])))))))
  (.seq (.region [
    ⟨(some 28), .mv (.tmp 1), none⟩,
    ⟨(some 29), .mv (.tmp 5), none⟩,
    ⟨(some 30), .slc 1 none (.tmp 28) (some (.tmp 29)) none none, none⟩,
    ⟨(some 31), .call 83 [(.tmp 30)], none⟩,
    ⟨(some 4), .mv (.tmp 31), none⟩])
  (.ret)))), none⟩
set_option maxRecDepth 100000 in
theorem comp_150 : compFunc Tryz.prog 4 Tryz.f150 = some F150 := by kernel_rfl
theorem in_150 : F150.body.within F150.ntmps = true := by kernel_rfl

/-- '(*hostler/ring.Ring).Ready' -/
def F151 : AFunc := ⟨24, [.tmp 4],
  .seq (.region [
    ⟨(some 4), .mv (.const .nilslice), none⟩])
  (.seq (.region [
    ⟨(some 8), .mv (.tmp 0), none⟩,
    ⟨(some 9), .call 176 [(.tmp 8)], none⟩,
    ⟨(some 7), .mv (.tmp 9), none⟩,
    ⟨(some 10), .extract 0 (.tmp 7), none⟩,
    ⟨(some 11), .extract 1 (.tmp 7), none⟩,
    ⟨(some 5), .mv (.tmp 10), none⟩,
    ⟨(some 6), .mv (.tmp 11), none⟩])
  (.seq (.region [
    ⟨(some 12), .mv (.tmp 0), none⟩,
    ⟨(some 13), .mv (.tmp 0), none⟩,
    ⟨(some 14), .mv (.tmp 1), none⟩,
    ⟨(some 15), .nilCheck (.tmp 12), none⟩,
    ⟨(some 16), .fieldAddr 259 (.tmp 15), none⟩,
    ⟨none, .store 1 (.tmp 16) (.tmp 14), none⟩,
    ⟨(some 17), .nilCheck (.tmp 13), none⟩,
    ⟨(some 18), .fieldAddr 258 (.tmp 17), none⟩,
    ⟨none, .store 1 (.tmp 18) (.const (.bool true)), none⟩])
  (.seq (.seq (.region [
    ⟨(some 19), .mv (.tmp 6), none⟩,
    ⟨(some 20), .un .not (.tmp 19), none⟩])
  (.cond (.tmp 20)
    (.seq (.region [
      ⟨(some 4), .mv (.const .nilslice), none⟩])
    (.ret))
    (.skip)))
  (.seq (.region [
    ⟨(some 21), .mv (.tmp 0), none⟩,
    ⟨(some 22), .mv (.tmp 5), none⟩,
    ⟨(some 23), .call 177 [(.tmp 21), (.tmp 22)], none⟩,
    ⟨(some 4), .mv (.tmp 23), none⟩])
  (.ret))))), none⟩
set_option maxRecDepth 100000 in
theorem comp_151 : compFunc Tryz.prog 4 Tryz.f151 = some F151 := by kernel_rfl
theorem in_151 : F151.body.within F151.ntmps = true := by kernel_rfl

/-- '(*hostler/world.World).find' -/
def F153 : AFunc := ⟨66, [.tmp 6],
  .seq (.region [
    ⟨(some 6), .mv (.const (.bool false)), none⟩])
  (.seq (.region [
    ⟨(some 12), .mv (.tmp 0), none⟩,
    ⟨(some 13), .nilCheck (.tmp 12), none⟩,
    ⟨(some 14), .fieldAddr 13 (.tmp 13), none⟩,
    ⟨(some 15), .load1 (.tmp 14), none⟩,
    ⟨(some 16), .mv (.tmp 1), none⟩,
    ⟨(some 17), .idxAddr 18 none (.tmp 15) (.tmp 16), none⟩,
    ⟨(some 7), .mv (.tmp 17), none⟩])
  (.seq (.seq (.region [
    ⟨(some 18), .mv (.tmp 2), none⟩,
    ⟨(some 19), .bin .gtr (.tmp 18) (.const (.int .i64 0)), none⟩])
  (.cond (.tmp 19)
    (.seq (.draw [
      (⟨(some 20), .mv (.tmp 0), none⟩, .still),
      (⟨(some 21), .nilCheck (.tmp 20), none⟩, .still),
      (⟨(some 22), .fieldAddr 3 (.tmp 21), none⟩, .still),
      (⟨(some 23), .load1 (.tmp 22), none⟩, .reads 0 0),
      (⟨(some 24), .mv (.tmp 0), none⟩, .still),
      (⟨(some 25), .nilCheck (.tmp 24), none⟩, .still),
      (⟨(some 26), .fieldAddr 4 (.tmp 25), none⟩, .still),
      (⟨(some 27), .load1 (.tmp 26), none⟩, .reads 0 0),
      (⟨(some 28), .call 115 [(.tmp 23), (.tmp 27), (.const (.int .i64 (-1)))], none⟩, .loud)])
    (.seq (.region [
      ⟨(some 6), .mv (.const (.bool false)), none⟩])
    (.ret)))
    (.skip)))
  (.seq (.region [
    ⟨(some 30), .mv (.tmp 0), none⟩,
    ⟨(some 31), .nilCheck (.tmp 30), none⟩,
    ⟨(some 32), .fieldAddr 12 (.tmp 31), none⟩,
    ⟨(some 33), .load1 (.tmp 32), none⟩,
    ⟨(some 34), .call 147 [(.tmp 33)], none⟩,
    ⟨(some 29), .mv (.tmp 34), none⟩,
    ⟨(some 35), .extract 0 (.tmp 29), none⟩,
    ⟨(some 36), .extract 1 (.tmp 29), none⟩,
    ⟨(some 8), .mv (.tmp 35), none⟩,
    ⟨(some 9), .mv (.tmp 36), none⟩])
  (.seq (.seq (.region [
    ⟨(some 37), .mv (.tmp 9), none⟩,
    ⟨(some 38), .un .not (.tmp 37), none⟩])
  (.cond (.tmp 38)
    (.seq (.region [
      ⟨(some 6), .mv (.const (.bool true)), none⟩])
    (.ret))
    (.skip)))
  (.seq (.seq (.region [
    ⟨(some 40), .mv (.tmp 0), none⟩,
    ⟨(some 41), .nilCheck (.tmp 40), none⟩,
    ⟨(some 42), .fieldAddr 12 (.tmp 41), none⟩,
    ⟨(some 43), .load1 (.tmp 42), none⟩,
    ⟨(some 44), .call 180 [(.tmp 43)], none⟩,
    ⟨(some 39), .mv (.tmp 44), none⟩,
    ⟨(some 45), .extract 0 (.tmp 39), none⟩,
    ⟨(some 46), .extract 1 (.tmp 39), none⟩,
    ⟨(some 10), .mv (.tmp 45), none⟩,
    ⟨(some 11), .mv (.tmp 46), none⟩])
  (.seq (.region [
    ⟨(some 47), .mv (.tmp 11), none⟩])
  (.cond (.tmp 47)
    (.region [
      ⟨(some 48), .mv (.tmp 0), none⟩,
      ⟨(some 49), .nilCheck (.tmp 48), none⟩,
      ⟨(some 50), .fieldAddr 13 (.tmp 49), none⟩,
      ⟨(some 51), .load1 (.tmp 50), none⟩,
      ⟨(some 52), .mv (.tmp 10), none⟩,
      ⟨(some 53), .mv (.tmp 7), none⟩,
      ⟨(some 54), .mv (.tmp 8), none⟩,
      ⟨(some 55), .mv (.tmp 10), none⟩,
      ⟨(some 56), .idxAddr 18 none (.tmp 51) (.tmp 52), none⟩,
      ⟨(some 57), .fieldAddr 3 (.tmp 56), none⟩,
      ⟨none, .store 1 (.tmp 57) (.tmp 54), none⟩,
      ⟨(some 58), .nilCheck (.tmp 53), none⟩,
      ⟨(some 59), .fieldAddr 5 (.tmp 58), none⟩,
      ⟨none, .store 1 (.tmp 59) (.tmp 55), none⟩])
    (.region [
      ⟨(some 60), .mv (.tmp 0), none⟩,
      ⟨(some 61), .nilCheck (.tmp 60), none⟩,
      ⟨(some 62), .fieldAddr 12 (.tmp 61), none⟩,
      ⟨(some 63), .load1 (.tmp 62), none⟩,
      ⟨(some 64), .mv (.tmp 8), none⟩,
      ⟨(some 65), .call 181 [(.tmp 63), (.tmp 64)], none⟩]))))
  (.seq (.region [
    ⟨(some 6), .mv (.const (.bool false)), none⟩])
  (.ret))))))), none⟩
set_option maxRecDepth 100000 in
theorem comp_153 : compFunc Tryz.prog 4 Tryz.f153 = some F153 := by kernel_rfl
theorem in_153 : F153.body.within F153.ntmps = true := by kernel_rfl

/-- '(*hostler/world.World).searched' -/
def F155 : AFunc := ⟨70, [],
  .seq (.region [
    ⟨(some 7), .mv (.tmp 0), none⟩,
    ⟨(some 8), .nilCheck (.tmp 7), none⟩,
    ⟨(some 9), .fieldAddr 13 (.tmp 8), none⟩,
    ⟨(some 10), .load1 (.tmp 9), none⟩,
    ⟨(some 11), .mv (.tmp 1), none⟩,
    ⟨(some 12), .idxAddr 18 none (.tmp 10) (.tmp 11), none⟩,
    ⟨(some 6), .mv (.tmp 12), none⟩])
  (.block 0 (.seq (.region [
    ⟨(some 17), .mv (.tmp 2), none⟩,
    ⟨(some 16), .mv (.tmp 17), none⟩])
  (.cond (.tmp 16)
    (.region [
      ⟨(some 18), .mv (.tmp 0), none⟩,
      ⟨(some 19), .mv (.tmp 1), none⟩,
      ⟨(some 20), .call 184 [(.tmp 18), (.tmp 19)], none⟩])
    (.seq (.region [
      ⟨(some 22), .mv (.tmp 6), none⟩,
      ⟨(some 23), .nilCheck (.tmp 22), none⟩,
      ⟨(some 24), .fieldAddr 0 (.tmp 23), none⟩,
      ⟨(some 25), .load1 (.tmp 24), none⟩,
      ⟨(some 26), .bin .eql (.tmp 25) (.const (.int .i64 2)), none⟩,
      ⟨(some 21), .mv (.tmp 26), none⟩])
    (.cond (.tmp 21)
      (.region [
        ⟨(some 27), .mv (.tmp 6), none⟩,
        ⟨(some 28), .nilCheck (.tmp 27), none⟩,
        ⟨(some 29), .fieldAddr 0 (.tmp 28), none⟩,
        ⟨none, .store 1 (.tmp 29) (.const (.int .i64 3)), none⟩])
      (.seq (.region [
        ⟨(some 31), .mv (.tmp 6), none⟩,
        ⟨(some 32), .nilCheck (.tmp 31), none⟩,
        ⟨(some 33), .fieldAddr 0 (.tmp 32), none⟩,
        ⟨(some 34), .load1 (.tmp 33), none⟩,
        ⟨(some 35), .bin .eql (.tmp 34) (.const (.int .i64 3)), none⟩,
        ⟨(some 30), .mv (.tmp 35), none⟩])
      (.cond (.tmp 30)
        (.region [
          ⟨(some 36), .mv (.tmp 6), none⟩,
          ⟨(some 37), .nilCheck (.tmp 36), none⟩,
          ⟨(some 38), .fieldAddr 0 (.tmp 37), none⟩,
          ⟨none, .store 1 (.tmp 38) (.const (.int .i64 4)), none⟩])
        (.seq (.region [
          ⟨(some 40), .mv (.tmp 6), none⟩,
          ⟨(some 41), .nilCheck (.tmp 40), none⟩,
          ⟨(some 42), .fieldAddr 0 (.tmp 41), none⟩,
          ⟨(some 43), .load1 (.tmp 42), none⟩,
          ⟨(some 44), .bin .eql (.tmp 43) (.const (.int .i64 7)), none⟩,
          ⟨(some 39), .mv (.tmp 44), none⟩])
        (.cond (.tmp 39)
          (.region [
            ⟨(some 45), .mv (.tmp 6), none⟩,
            ⟨(some 46), .nilCheck (.tmp 45), none⟩,
            ⟨(some 47), .fieldAddr 0 (.tmp 46), none⟩,
            ⟨none, .store 1 (.tmp 47) (.const (.int .i64 8)), none⟩])
          (.seq (.region [
            ⟨(some 49), .mv (.tmp 6), none⟩,
            ⟨(some 50), .nilCheck (.tmp 49), none⟩,
            ⟨(some 51), .fieldAddr 0 (.tmp 50), none⟩,
            ⟨(some 52), .load1 (.tmp 51), none⟩,
            ⟨(some 53), .bin .eql (.tmp 52) (.const (.int .i64 6)), none⟩,
            ⟨(some 48), .mv (.tmp 53), none⟩])
          (.cond (.tmp 48)
            (.region [
              ⟨(some 54), .mv (.tmp 0), none⟩,
              ⟨(some 55), .mv (.tmp 1), none⟩,
              ⟨(some 56), .mv (.tmp 6), none⟩,
              ⟨(some 57), .nilCheck (.tmp 56), none⟩,
              ⟨(some 58), .fieldAddr 6 (.tmp 57), none⟩,
              ⟨(some 59), .load1 (.tmp 58), none⟩,
              ⟨(some 60), .bin .add (.tmp 59) (.const (.int .i64 1)), none⟩,
              ⟨(some 61), .call 116 [(.tmp 54), (.tmp 55), (.tmp 60)], none⟩])
            (.seq (.region [
              ⟨(some 63), .mv (.tmp 6), none⟩,
              ⟨(some 64), .nilCheck (.tmp 63), none⟩,
              ⟨(some 65), .fieldAddr 7 (.tmp 64), none⟩,
              ⟨(some 66), .load1 (.tmp 65), none⟩,
              ⟨(some 62), .mv (.tmp 66), none⟩])
            (.cond (.tmp 62)
              (.region [
                ⟨(some 67), .mv (.tmp 0), none⟩,
                ⟨(some 68), .mv (.tmp 1), none⟩,
                ⟨(some 69), .call 116 [(.tmp 67), (.tmp 68), (.const (.int .i64 1))], none⟩])
              (.region [
                ⟨(some 13), .mv (.tmp 6), none⟩,
                ⟨(some 14), .nilCheck (.tmp 13), none⟩,
                ⟨(some 15), .fieldAddr 0 (.tmp 14), none⟩,
                ⟨none, .store 1 (.tmp 15) (.const (.int .i64 5)), none⟩])))))))))))))), none⟩
set_option maxRecDepth 100000 in
theorem comp_155 : compFunc Tryz.prog 4 Tryz.f155 = some F155 := by kernel_rfl
theorem in_155 : F155.body.within F155.ntmps = true := by kernel_rfl

/-- '(*hostler/world.World).settle' -/
def F156 : AFunc := ⟨32, [],
  .seq (.region [
    ⟨(some 5), .mv (.tmp 0), none⟩,
    ⟨(some 6), .nilCheck (.tmp 5), none⟩,
    ⟨(some 7), .fieldAddr 13 (.tmp 6), none⟩,
    ⟨(some 8), .load1 (.tmp 7), none⟩,
    ⟨(some 9), .mv (.tmp 1), none⟩,
    ⟨(some 10), .idxAddr 18 none (.tmp 8) (.tmp 9), none⟩,
    ⟨(some 4), .mv (.tmp 10), none⟩])
  (.block 0 (.seq (.region [
    ⟨(some 15), .mv (.tmp 4), none⟩,
    ⟨(some 16), .nilCheck (.tmp 15), none⟩,
    ⟨(some 17), .fieldAddr 9 (.tmp 16), none⟩,
    ⟨(some 18), .load1 (.tmp 17), none⟩,
    ⟨(some 19), .lenS (.tmp 18), none⟩,
    ⟨(some 20), .bin .gtr (.tmp 19) (.const (.int .i64 0)), none⟩,
    ⟨(some 14), .mv (.tmp 20), none⟩])
  (.cond (.tmp 14)
    (.region [
      ⟨(some 21), .mv (.tmp 4), none⟩,
      ⟨(some 22), .nilCheck (.tmp 21), none⟩,
      ⟨(some 23), .fieldAddr 0 (.tmp 22), none⟩,
      ⟨none, .store 1 (.tmp 23) (.const (.int .i64 18)), none⟩])
    (.seq (.region [
      ⟨(some 25), .mv (.tmp 4), none⟩,
      ⟨(some 26), .nilCheck (.tmp 25), none⟩,
      ⟨(some 27), .fieldAddr 7 (.tmp 26), none⟩,
      ⟨(some 28), .load1 (.tmp 27), none⟩,
      ⟨(some 24), .mv (.tmp 28), none⟩])
    (.cond (.tmp 24)
      (.region [
        ⟨(some 29), .mv (.tmp 4), none⟩,
        ⟨(some 30), .nilCheck (.tmp 29), none⟩,
        ⟨(some 31), .fieldAddr 0 (.tmp 30), none⟩,
        ⟨none, .store 1 (.tmp 31) (.const (.int .i64 19)), none⟩])
      (.region [
        ⟨(some 11), .mv (.tmp 4), none⟩,
        ⟨(some 12), .nilCheck (.tmp 11), none⟩,
        ⟨(some 13), .fieldAddr 0 (.tmp 12), none⟩,
        ⟨none, .store 1 (.tmp 13) (.const (.int .i64 21)), none⟩])))))), none⟩
set_option maxRecDepth 100000 in
theorem comp_156 : compFunc Tryz.prog 4 Tryz.f156 = some F156 := by kernel_rfl
theorem in_156 : F156.body.within F156.ntmps = true := by kernel_rfl

/-- '(*hostler/cell.Memory).Store' -/
def F157 : AFunc := ⟨18, [.tmp 6],
  .seq (.region [
    ⟨(some 6), .mv (.const (.bool false)), none⟩])
  (.seq (.region [
    ⟨(some 8), .mv (.tmp 0), none⟩,
    ⟨(some 9), .mv (.tmp 1), none⟩,
    ⟨(some 10), .call 81 [(.tmp 8), (.tmp 9)], none⟩,
    ⟨(some 7), .mv (.tmp 10), none⟩])
  (.seq (.seq (.region [
    ⟨(some 11), .mv (.tmp 7), none⟩,
    ⟨(some 12), .cmpNil true 0 (.tmp 11) (.const .nilptr), none⟩])
  (.cond (.tmp 12)
    (.region [
      ⟨(some 13), .mv (.tmp 7), none⟩,
      ⟨(some 14), .mv (.tmp 2), none⟩,
      ⟨(some 15), .nilCheck (.tmp 13), none⟩,
      ⟨none, .store 1 (.tmp 15) (.tmp 14), none⟩])
    (.skip)))
  (.seq (.region [
    ⟨(some 16), .mv (.tmp 7), none⟩,
    ⟨(some 17), .cmpNil true 0 (.tmp 16) (.const .nilptr), none⟩,
    ⟨(some 6), .mv (.tmp 17), none⟩])
  (.ret)))), none⟩
set_option maxRecDepth 100000 in
theorem comp_157 : compFunc Tryz.prog 4 Tryz.f157 = some F157 := by kernel_rfl
theorem in_157 : F157.body.within F157.ntmps = true := by kernel_rfl

/-- '(*hostler/mask.Mask).Has' -/
def F161 : AFunc := ⟨30, [.tmp 4],
  .seq (.region [
    ⟨(some 4), .mv (.const (.bool false)), none⟩])
  (.seq (.region [
    ⟨(some 5), .mv (.tmp 1), none⟩,
    ⟨(some 6), .bin .geq (.tmp 5) (.const (.int .i64 0)), none⟩,
    ⟨(some 7), .mv (.tmp 6), none⟩,
    ⟨(some 8), .mv (.tmp 1), (some (7, true))⟩,
    ⟨(some 9), .mv (.tmp 0), (some (7, true))⟩,
    ⟨(some 10), .nilCheck (.tmp 9), (some (7, true))⟩,
    ⟨(some 11), .fieldAddr 0 (.tmp 10), (some (7, true))⟩,
    ⟨(some 12), .load1 (.tmp 11), (some (7, true))⟩,
    ⟨(some 13), .bin .lss (.tmp 8) (.tmp 12), (some (7, true))⟩,
    ⟨(some 14), .pick (.tmp 7) (.tmp 13) (.const (.bool false)), none⟩,
    ⟨(some 15), .mv (.tmp 14), none⟩,
    ⟨(some 16), .mv (.tmp 0), (some (15, true))⟩,
    ⟨(some 17), .nilCheck (.tmp 16), (some (15, true))⟩,
    ⟨(some 18), .fieldAddr 1 (.tmp 17), (some (15, true))⟩,
    ⟨(some 19), .load1 (.tmp 18), (some (15, true))⟩,
    ⟨(some 20), .mv (.tmp 1), (some (15, true))⟩,
    ⟨(some 21), .bin .quo (.tmp 20) (.const (.int .i64 64)), (some (15, true))⟩,
    ⟨(some 22), .idxAddr 1 none (.tmp 19) (.tmp 21), (some (15, true))⟩,
    ⟨(some 23), .load1 (.tmp 22), (some (15, true))⟩,
    ⟨(some 24), .mv (.tmp 1), (some (15, true))⟩,
    ⟨(some 25), .bin .rem (.tmp 24) (.const (.int .i64 64)), (some (15, true))⟩,
    ⟨(some 26), .bin .shr (.tmp 23) (.tmp 25), (some (15, true))⟩,
    ⟨(some 27), .bin .and (.tmp 26) (.const (.int .u64 1)), (some (15, true))⟩,
    ⟨(some 28), .bin .eql (.tmp 27) (.const (.int .u64 1)), (some (15, true))⟩,
    ⟨(some 29), .pick (.tmp 15) (.tmp 28) (.const (.bool false)), none⟩,
    ⟨(some 4), .mv (.tmp 29), none⟩])
  (.ret)), none⟩
set_option maxRecDepth 100000 in
theorem comp_161 : compFunc Tryz.prog 4 Tryz.f161 = some F161 := by kernel_rfl
theorem in_161 : F161.body.within F161.ntmps = true := by kernel_rfl

/-- 'slices.Index[[]hostler/status.Status,hostler/status.Status]' -/
def F162 : AFunc := ⟨19, [.tmp 4],
  .seq (.region [
    ⟨(some 4), .mv (.const (.int .i64 0)), none⟩])
  (.seq (.seq (.region [
    ⟨(some 6), .mv (.tmp 0), none⟩,
    ⟨(some 7), .lenS (.tmp 6), none⟩,
    ⟨(some 8), .mv (.const (.int .i64 0)), none⟩])
  (.block 0 (.loop (.seq (.region [
      ⟨(some 9), .bin .lss (.tmp 8) (.tmp 7), none⟩])
    (.seq (.cond (.tmp 9)
      (.skip)
      (.exit 0))
    (.seq (.block 1 (.seq (.region [
      ⟨(some 10), .mv (.tmp 8), none⟩,
      ⟨(some 5), .mv (.tmp 10), none⟩])
    (.seq (.region [
      ⟨(some 11), .mv (.tmp 1), none⟩,
      ⟨(some 12), .mv (.tmp 0), none⟩,
      ⟨(some 13), .mv (.tmp 5), none⟩,
      ⟨(some 14), .idxAddr 1 none (.tmp 12) (.tmp 13), none⟩,
      ⟨(some 15), .load1 (.tmp 14), none⟩,
      ⟨(some 16), .bin .eql (.tmp 11) (.tmp 15), none⟩])
    (.cond (.tmp 16)
      (.seq (.region [
        ⟨(some 17), .mv (.tmp 5), none⟩,
        ⟨(some 4), .mv (.tmp 17), none⟩])
      (.ret))
      (.skip)))))
    (.region [
      ⟨(some 18), .bin .add (.tmp 8) (.const (.int .i64 1)), none⟩,
      ⟨(some 8), .mv (.tmp 18), none⟩])))))))
  (.seq (.region [
    ⟨(some 4), .mv (.const (.int .i64 (-1))), none⟩])
  (.ret))), none⟩
set_option maxRecDepth 100000 in
theorem comp_162 : compFunc Tryz.prog 4 Tryz.f162 = some F162 := by kernel_rfl
theorem in_162 : F162.body.within F162.ntmps = true := by kernel_rfl

/-- '(*hostler/round.Driver).over' -/
def F163 : AFunc := ⟨9, [],
  .region [
    ⟨(some 2), .mv (.tmp 0), none⟩,
    ⟨(some 3), .nilCheck (.tmp 2), none⟩,
    ⟨(some 4), .fieldAddr 3 (.tmp 3), none⟩,
    ⟨(some 5), .load1 (.tmp 4), none⟩,
    ⟨(some 6), .bin .add (.tmp 5) (.const (.int .i64 1)), none⟩,
    ⟨(some 7), .nilCheck (.tmp 2), none⟩,
    ⟨(some 8), .fieldAddr 3 (.tmp 7), none⟩,
    ⟨none, .store 1 (.tmp 8) (.tmp 6), none⟩], none⟩
set_option maxRecDepth 100000 in
theorem comp_163 : compFunc Tryz.prog 4 Tryz.f163 = some F163 := by kernel_rfl
theorem in_163 : F163.body.within F163.ntmps = true := by kernel_rfl

/-- '(*hostler/round.Driver).act' -/
def F164 : AFunc := ⟨50, [.tmp 4],
  .seq (.region [
    ⟨(some 4), .mv (.const (.int .u8 0)), none⟩])
  (.seq (.seq (.region [
    ⟨(some 5), .mv (.tmp 0), none⟩,
    ⟨(some 6), .nilCheck (.tmp 5), none⟩,
    ⟨(some 7), .fieldAddr 0 (.tmp 6), none⟩,
    ⟨(some 8), .load1 (.tmp 7), none⟩,
    ⟨(some 9), .mv (.tmp 1), none⟩,
    ⟨(some 10), .call 22 [(.tmp 8), (.tmp 9)], none⟩,
    ⟨(some 11), .field1 0 (.tmp 10), none⟩,
    ⟨(some 12), .bin .neq (.tmp 11) (.const (.int .i64 0)), none⟩])
  (.cond (.tmp 12)
    (.seq (.region [
      ⟨(some 4), .mv (.const (.int .u8 0)), none⟩])
    (.ret))
    (.skip)))
  (.seq (.region [
    ⟨(some 13), .mv (.tmp 0), none⟩,
    ⟨(some 14), .nilCheck (.tmp 13), none⟩,
    ⟨(some 15), .fieldAddr 4 (.tmp 14), none⟩,
    ⟨(some 16), .load1 (.tmp 15), none⟩,
    ⟨(some 17), .mv (.tmp 1), none⟩,
    ⟨(some 18), .idxAddr 1 none (.tmp 16) (.tmp 17), none⟩,
    ⟨(some 19), .load1 (.tmp 18), none⟩,
    ⟨(some 20), .bin .add (.tmp 19) (.const (.int .i64 1)), none⟩,
    ⟨(some 21), .idxAddr 1 none (.tmp 16) (.tmp 17), none⟩,
    ⟨none, .store 1 (.tmp 21) (.tmp 20), none⟩])
  (.seq (.seq (.draw [
    (⟨(some 22), .mv (.tmp 0), none⟩, .still),
    (⟨(some 23), .nilCheck (.tmp 22), none⟩, .still),
    (⟨(some 24), .fieldAddr 4 (.tmp 23), none⟩, .still),
    (⟨(some 25), .load1 (.tmp 24), none⟩, .reads 0 0),
    (⟨(some 26), .mv (.tmp 1), none⟩, .still),
    (⟨(some 27), .idxAddr 1 none (.tmp 25) (.tmp 26), none⟩, .still),
    (⟨(some 28), .load1 (.tmp 27), none⟩, .reads 0 0),
    (⟨(some 29), .mv (.tmp 0), none⟩, .still),
    (⟨(some 30), .nilCheck (.tmp 29), none⟩, .still),
    (⟨(some 31), .fieldAddr 1 (.tmp 30), none⟩, .still),
    (⟨(some 32), .fieldAddr 1 (.tmp 31), none⟩, .still),
    (⟨(some 33), .load1 (.tmp 32), none⟩, .reads 0 0),
    (⟨(some 34), .bin .rem (.tmp 28) (.tmp 33), none⟩, .still),
    (⟨(some 35), .bin .neq (.tmp 34) (.const (.int .i64 0)), none⟩, .still)])
  (.cond (.tmp 35)
    (.seq (.region [
      ⟨(some 4), .mv (.const (.int .u8 0)), none⟩])
    (.ret))
    (.skip)))
  (.seq (.seq (.region [
    ⟨(some 36), .mv (.tmp 0), none⟩,
    ⟨(some 37), .nilCheck (.tmp 36), none⟩,
    ⟨(some 38), .fieldAddr 1 (.tmp 37), none⟩,
    ⟨(some 39), .fieldAddr 0 (.tmp 38), none⟩,
    ⟨(some 40), .load1 (.tmp 39), none⟩])
  (.block 0 (.seq (.seq (.region [
    ⟨(some 42), .bin .eql (.tmp 40) (.const (.int .u8 1)), none⟩,
    ⟨(some 41), .mv (.tmp 42), none⟩])
  (.cond (.tmp 41)
    (.skip)
    (.seq (.region [
      ⟨(some 43), .bin .eql (.tmp 40) (.const (.int .u8 2)), none⟩,
      ⟨(some 41), .mv (.tmp 43), none⟩])
    (.cond (.tmp 41)
      (.skip)
      (.region [
        ⟨(some 44), .bin .eql (.tmp 40) (.const (.int .u8 3)), none⟩,
        ⟨(some 41), .mv (.tmp 44), none⟩])))))
  (.cond (.tmp 41)
    (.seq (.region [
      ⟨(some 45), .mv (.tmp 0), none⟩,
      ⟨(some 46), .nilCheck (.tmp 45), none⟩,
      ⟨(some 47), .fieldAddr 1 (.tmp 46), none⟩,
      ⟨(some 48), .fieldAddr 0 (.tmp 47), none⟩,
      ⟨(some 49), .load1 (.tmp 48), none⟩,
      ⟨(some 4), .mv (.tmp 49), none⟩])
    (.ret))
    (.skip)))))
  (.seq (.region [
    ⟨(some 4), .mv (.const (.int .u8 0)), none⟩])
  (.ret)))))), none⟩
set_option maxRecDepth 100000 in
theorem comp_164 : compFunc Tryz.prog 4 Tryz.f164 = some F164 := by kernel_rfl
theorem in_164 : F164.body.within F164.ntmps = true := by kernel_rfl

/-- '(hostler/ticket.Lock).Ahead' -/
def F166 : AFunc := ⟨13, [.tmp 6],
  .seq (.region [
    ⟨(some 3), .box (.tmp 0), none⟩,
    ⟨(some 6), .mv (.const (.int .u64 0)), none⟩])
  (.seq (.region [
    ⟨(some 7), .mv (.tmp 2), none⟩,
    ⟨(some 8), .mv (.tmp 1), none⟩,
    ⟨(some 9), .fieldAddr 1 (.tmp 3), none⟩,
    ⟨(some 10), .load1 (.tmp 9), none⟩,
    ⟨(some 11), .call 37 [(.tmp 8), (.tmp 10)], none⟩,
    ⟨(some 12), .bin .sub (.tmp 7) (.tmp 11), none⟩,
    ⟨(some 6), .mv (.tmp 12), none⟩])
  (.ret)), none⟩
set_option maxRecDepth 100000 in
theorem comp_166 : compFunc Tryz.prog 4 Tryz.f166 = some F166 := by kernel_rfl
theorem in_166 : F166.body.within F166.ntmps = true := by kernel_rfl

/-- '(*hostler/batch.Batch).Take' -/
def F167 : AFunc := ⟨13, [.tmp 2, .tmp 3],
  .seq (.region [
    ⟨(some 2), .mv (.const (.int .i64 0)), none⟩,
    ⟨(some 3), .mv (.const (.bool false)), none⟩])
  (.seq (.region [
    ⟨(some 5), .mv (.tmp 0), none⟩,
    ⟨(some 6), .call 170 [(.tmp 5), (.const (.int .i64 1))], none⟩,
    ⟨(some 4), .mv (.tmp 6), none⟩])
  (.seq (.seq (.region [
    ⟨(some 7), .mv (.tmp 4), none⟩,
    ⟨(some 8), .lenS (.tmp 7), none⟩,
    ⟨(some 9), .bin .eql (.tmp 8) (.const (.int .i64 0)), none⟩])
  (.cond (.tmp 9)
    (.seq (.region [
      ⟨(some 2), .mv (.const (.int .i64 0)), none⟩,
      ⟨(some 3), .mv (.const (.bool false)), none⟩])
    (.ret))
    (.skip)))
  (.seq (.region [
    ⟨(some 10), .mv (.tmp 4), none⟩,
    ⟨(some 11), .idxAddr 1 none (.tmp 10) (.const (.int .i64 0)), none⟩,
    ⟨(some 12), .load1 (.tmp 11), none⟩,
    ⟨(some 2), .mv (.tmp 12), none⟩,
    ⟨(some 3), .mv (.const (.bool true)), none⟩])
  (.ret)))), none⟩
set_option maxRecDepth 100000 in
theorem comp_167 : compFunc Tryz.prog 4 Tryz.f167 = some F167 := by kernel_rfl
theorem in_167 : F167.body.within F167.ntmps = true := by kernel_rfl

/-- '(*hostler/ring.Ring).take' -/
def F168 : AFunc := ⟨10, [.tmp 2],
  .seq (.region [
    ⟨(some 2), .mv (.const (.int .i64 0)), none⟩])
  (.seq (.region [
    ⟨(some 3), .mv (.tmp 0), none⟩,
    ⟨(some 4), .nilCheck (.tmp 3), none⟩,
    ⟨(some 5), .fieldAddr 258 (.tmp 4), none⟩,
    ⟨none, .store 1 (.tmp 5) (.const (.bool false)), none⟩])
  (.seq (.region [
    ⟨(some 6), .mv (.tmp 0), none⟩,
    ⟨(some 7), .nilCheck (.tmp 6), none⟩,
    ⟨(some 8), .fieldAddr 259 (.tmp 7), none⟩,
    ⟨(some 9), .load1 (.tmp 8), none⟩,
    ⟨(some 2), .mv (.tmp 9), none⟩])
  (.ret))), none⟩
set_option maxRecDepth 100000 in
theorem comp_168 : compFunc Tryz.prog 4 Tryz.f168 = some F168 := by kernel_rfl
theorem in_168 : F168.body.within F168.ntmps = true := by kernel_rfl

/-- '(*hostler/ring.Ring).push' -/
def F169 : AFunc := ⟨26, [],
  .seq (.draw [
    (⟨(some 4), .mv (.tmp 0), none⟩, .still),
    (⟨(some 5), .mv (.tmp 0), none⟩, .still),
    (⟨(some 6), .nilCheck (.tmp 5), none⟩, .still),
    (⟨(some 7), .fieldAddr 256 (.tmp 6), none⟩, .still),
    (⟨(some 8), .load1 (.tmp 7), none⟩, .reads 0 0),
    (⟨(some 9), .mv (.tmp 0), none⟩, .still),
    (⟨(some 10), .nilCheck (.tmp 9), none⟩, .still),
    (⟨(some 11), .fieldAddr 257 (.tmp 10), none⟩, .still),
    (⟨(some 12), .load1 (.tmp 11), none⟩, .reads 0 0),
    (⟨(some 13), .bin .add (.tmp 8) (.tmp 12), none⟩, .still),
    (⟨(some 14), .bin .rem (.tmp 13) (.const (.int .i64 256)), none⟩, .still),
    (⟨(some 15), .mv (.tmp 1), none⟩, .still),
    (⟨(some 16), .nilCheck (.tmp 4), none⟩, .still),
    (⟨(some 17), .fieldAddr 0 (.tmp 16), none⟩, .still),
    (⟨(some 18), .idxAddr 1 (some 256) (.tmp 17) (.tmp 14), none⟩, .still),
    (⟨none, .store 1 (.tmp 18) (.tmp 15), none⟩, .loud)])
  (.region [
    ⟨(some 19), .mv (.tmp 0), none⟩,
    ⟨(some 20), .nilCheck (.tmp 19), none⟩,
    ⟨(some 21), .fieldAddr 257 (.tmp 20), none⟩,
    ⟨(some 22), .load1 (.tmp 21), none⟩,
    ⟨(some 23), .bin .add (.tmp 22) (.const (.int .i64 1)), none⟩,
    ⟨(some 24), .nilCheck (.tmp 19), none⟩,
    ⟨(some 25), .fieldAddr 257 (.tmp 24), none⟩,
    ⟨none, .store 1 (.tmp 25) (.tmp 23), none⟩]), none⟩
set_option maxRecDepth 100000 in
theorem comp_169 : compFunc Tryz.prog 4 Tryz.f169 = some F169 := by kernel_rfl
theorem in_169 : F169.body.within F169.ntmps = true := by kernel_rfl

/-- '(*hostler/batch.Batch).TakeMost' -/
def F170 : AFunc := ⟨31, [.tmp 4],
  .seq (.region [
    ⟨(some 4), .mv (.const .nilslice), none⟩])
  (.seq (.region [
    ⟨(some 6), .mv (.tmp 1), none⟩,
    ⟨(some 7), .max2 (.const (.int .i64 0)) (.tmp 6), none⟩,
    ⟨(some 8), .mv (.tmp 0), none⟩,
    ⟨(some 9), .nilCheck (.tmp 8), none⟩,
    ⟨(some 10), .fieldAddr 0 (.tmp 9), none⟩,
    ⟨(some 11), .load1 (.tmp 10), none⟩,
    ⟨(some 12), .lenS (.tmp 11), none⟩,
    ⟨(some 13), .min2 (.tmp 7) (.tmp 12), none⟩,
    ⟨(some 1), .mv (.tmp 13), none⟩])
  (.seq (.region [
    ⟨(some 14), .mv (.tmp 0), none⟩,
    ⟨(some 15), .nilCheck (.tmp 14), none⟩,
    ⟨(some 16), .fieldAddr 0 (.tmp 15), none⟩,
    ⟨(some 17), .load1 (.tmp 16), none⟩,
    ⟨(some 18), .mv (.tmp 1), none⟩,
    ⟨(some 19), .slc 1 none (.tmp 17) none (some (.tmp 18)) none, none⟩,
    ⟨(some 20), .call 83 [(.tmp 19)], none⟩,
    ⟨(some 5), .mv (.tmp 20), none⟩])
  (.seq (.region [
    ⟨(some 21), .mv (.tmp 0), none⟩,
    ⟨(some 22), .mv (.tmp 0), none⟩,
    ⟨(some 23), .nilCheck (.tmp 22), none⟩,
    ⟨(some 24), .fieldAddr 0 (.tmp 23), none⟩,
    ⟨(some 25), .load1 (.tmp 24), none⟩,
    ⟨(some 26), .mv (.tmp 1), none⟩,
    ⟨(some 27), .call 175 [(.tmp 25), (.const (.int .i64 0)), (.tmp 26)], none⟩,
    ⟨(some 28), .nilCheck (.tmp 21), none⟩,
    ⟨(some 29), .fieldAddr 0 (.tmp 28), none⟩,
    ⟨none, .store 1 (.tmp 29) (.tmp 27), none⟩])
  (.seq (.region [
    ⟨(some 30), .mv (.tmp 5), none⟩,
    ⟨(some 4), .mv (.tmp 30), none⟩])
  (.ret))))), none⟩
set_option maxRecDepth 100000 in
theorem comp_170 : compFunc Tryz.prog 4 Tryz.f170 = some F170 := by kernel_rfl
theorem in_170 : F170.body.within F170.ntmps = true := by kernel_rfl

/-- '(*hostler/global.Queue).Share' -/
def F171 : AFunc := ⟨14, [.tmp 2],
  .seq (.region [
    ⟨(some 2), .mv (.const (.int .i64 0)), none⟩])
  (.seq (.draw [
    (⟨(some 3), .mv (.tmp 0), none⟩, .still),
    (⟨(some 4), .call 146 [(.tmp 3)], none⟩, .loud),
    (⟨(some 5), .mv (.tmp 0), none⟩, .still),
    (⟨(some 6), .nilCheck (.tmp 5), none⟩, .still),
    (⟨(some 7), .fieldAddr 1 (.tmp 6), none⟩, .still),
    (⟨(some 8), .load1 (.tmp 7), none⟩, .reads 0 2),
    (⟨(some 9), .bin .quo (.tmp 4) (.tmp 8), none⟩, .still),
    (⟨(some 10), .bin .add (.tmp 9) (.const (.int .i64 1)), none⟩, .still),
    (⟨(some 11), .mv (.tmp 0), none⟩, .still),
    (⟨(some 12), .call 146 [(.tmp 11)], none⟩, .loud),
    (⟨(some 13), .min3 (.tmp 10) (.tmp 12) (.const (.int .i64 128)), none⟩, .still),
    (⟨(some 2), .mv (.tmp 13), none⟩, .still)])
  (.ret)), none⟩
set_option maxRecDepth 100000 in
theorem comp_171 : compFunc Tryz.prog 4 Tryz.f171 = some F171 := by kernel_rfl
theorem in_171 : F171.body.within F171.ntmps = true := by kernel_rfl

/-- '(*hostler/batch.Batch).Len' -/
def F172 : AFunc := ⟨8, [.tmp 2],
  .seq (.region [
    ⟨(some 2), .mv (.const (.int .i64 0)), none⟩])
  (.seq (.region [
    ⟨(some 3), .mv (.tmp 0), none⟩,
    ⟨(some 4), .nilCheck (.tmp 3), none⟩,
    ⟨(some 5), .fieldAddr 0 (.tmp 4), none⟩,
    ⟨(some 6), .load1 (.tmp 5), none⟩,
    ⟨(some 7), .lenS (.tmp 6), none⟩,
    ⟨(some 2), .mv (.tmp 7), none⟩])
  (.ret)), none⟩
set_option maxRecDepth 100000 in
theorem comp_172 : compFunc Tryz.prog 4 Tryz.f172 = some F172 := by kernel_rfl
theorem in_172 : F172.body.within F172.ntmps = true := by kernel_rfl

/-- '(*hostler/mask.Mask).First' -/
def F173 : AFunc := ⟨5, [.tmp 2],
  .seq (.region [
    ⟨(some 2), .mv (.const (.int .i64 0)), none⟩])
  (.seq (.region [
    ⟨(some 3), .mv (.tmp 0), none⟩,
    ⟨(some 4), .call 189 [(.tmp 3), (.const (.int .i64 (-1)))], none⟩,
    ⟨(some 2), .mv (.tmp 4), none⟩])
  (.ret)), none⟩
set_option maxRecDepth 100000 in
theorem comp_173 : compFunc Tryz.prog 4 Tryz.f173 = some F173 := by kernel_rfl
theorem in_173 : F173.body.within F173.ntmps = true := by kernel_rfl

/-- '(*hostler/mask.Mask).Take' -/
def F174 : AFunc := ⟨8, [.tmp 4],
  .seq (.region [
    ⟨(some 4), .mv (.const (.bool false)), none⟩])
  (.seq (.region [
    ⟨(some 5), .mv (.tmp 0), none⟩,
    ⟨(some 6), .mv (.tmp 1), none⟩,
    ⟨(some 7), .call 127 [(.tmp 5), (.tmp 6), (.const (.bool true))], none⟩,
    ⟨(some 4), .mv (.tmp 7), none⟩])
  (.ret)), none⟩
set_option maxRecDepth 100000 in
theorem comp_174 : compFunc Tryz.prog 4 Tryz.f174 = some F174 := by kernel_rfl
theorem in_174 : F174.body.within F174.ntmps = true := by kernel_rfl

/-- 'slices.Delete[[]int,int]' -/
def F175 : AFunc := ⟨33, [.tmp 6],
  .seq (.region [
    ⟨(some 6), .mv (.const .nilslice), none⟩])
  (.seq (.region [
    ⟨(some 8), .mv (.tmp 0), none⟩,
    ⟨(some 9), .mv (.tmp 1), none⟩,
    ⟨(some 10), .mv (.tmp 2), none⟩,
    ⟨(some 11), .mv (.tmp 0), none⟩,
    ⟨(some 12), .lenS (.tmp 11), none⟩,
    ⟨(some 13), .slc 1 none (.tmp 8) (some (.tmp 9)) (some (.tmp 10)) (some (.tmp 12)), none⟩])
  (.seq (.seq (.region [
    ⟨(some 14), .mv (.tmp 1), none⟩,
    ⟨(some 15), .mv (.tmp 2), none⟩,
    ⟨(some 16), .bin .eql (.tmp 14) (.tmp 15), none⟩])
  (.cond (.tmp 16)
    (.seq (.region [
      ⟨(some 17), .mv (.tmp 0), none⟩,
      ⟨(some 6), .mv (.tmp 17), none⟩])
    (.ret))
    (.skip)))
  (.seq (.region [
    ⟨(some 18), .mv (.tmp 0), none⟩,
    ⟨(some 19), .lenS (.tmp 18), none⟩,
    ⟨(some 7), .mv (.tmp 19), none⟩])
  (.seq (.draw [
    (⟨(some 20), .mv (.tmp 0), none⟩, .still),
    (⟨(some 21), .mv (.tmp 1), none⟩, .still),
    (⟨(some 22), .slc 1 none (.tmp 20) none (some (.tmp 21)) none, none⟩, .reads 0 0),
    (⟨(some 23), .mv (.tmp 0), none⟩, .still),
    (⟨(some 24), .mv (.tmp 2), none⟩, .still),
    (⟨(some 25), .slc 1 none (.tmp 23) (some (.tmp 24)) none none, none⟩, .reads 0 0),
    (⟨(some 26), .append 1 8 [(.int .i64 0)] (.tmp 22) (.tmp 25), none⟩, .loud),
    (⟨(some 0), .mv (.tmp 26), none⟩, .still)])
  (.seq (.region [
    ⟨(some 27), .mv (.tmp 0), none⟩,
    ⟨(some 28), .mv (.tmp 0), none⟩,
    ⟨(some 29), .lenS (.tmp 28), none⟩,
    ⟨(some 30), .mv (.tmp 7), none⟩,
    ⟨(some 31), .slc 1 none (.tmp 27) (some (.tmp 29)) (some (.tmp 30)) none, none⟩,
    ⟨none, .clearS 1 [(.int .i64 0)] (.tmp 31), none⟩])
  (.seq (.region [
    ⟨(some 32), .mv (.tmp 0), none⟩,
    ⟨(some 6), .mv (.tmp 32), none⟩])
  (.ret))))))), none⟩
set_option maxRecDepth 100000 in
theorem comp_175 : compFunc Tryz.prog 4 Tryz.f175 = some F175 := by kernel_rfl
theorem in_175 : F175.body.within F175.ntmps = true := by kernel_rfl

/-- '(*hostler/ring.Ring).Next' -/
def F176 : AFunc := ⟨13, [.tmp 2, .tmp 3],
  .seq (.region [
    ⟨(some 2), .mv (.const (.int .i64 0)), none⟩,
    ⟨(some 3), .mv (.const (.bool false)), none⟩])
  (.seq (.seq (.region [
    ⟨(some 4), .mv (.tmp 0), none⟩,
    ⟨(some 5), .nilCheck (.tmp 4), none⟩,
    ⟨(some 6), .fieldAddr 258 (.tmp 5), none⟩,
    ⟨(some 7), .load1 (.tmp 6), none⟩,
    ⟨(some 8), .un .not (.tmp 7), none⟩])
  (.cond (.tmp 8)
    (.seq (.region [
      ⟨(some 2), .mv (.const (.int .i64 0)), none⟩,
      ⟨(some 3), .mv (.const (.bool false)), none⟩])
    (.ret))
    (.skip)))
  (.seq (.region [
    ⟨(some 9), .mv (.tmp 0), none⟩,
    ⟨(some 10), .nilCheck (.tmp 9), none⟩,
    ⟨(some 11), .fieldAddr 259 (.tmp 10), none⟩,
    ⟨(some 12), .load1 (.tmp 11), none⟩,
    ⟨(some 2), .mv (.tmp 12), none⟩,
    ⟨(some 3), .mv (.const (.bool true)), none⟩])
  (.ret))), none⟩
set_option maxRecDepth 100000 in
theorem comp_176 : compFunc Tryz.prog 4 Tryz.f176 = some F176 := by kernel_rfl
theorem in_176 : F176.body.within F176.ntmps = true := by kernel_rfl

/-- '(*hostler/ring.Ring).Put' -/
def F177 : AFunc := ⟨18, [.tmp 4],
  .seq (.region [
    ⟨(some 4), .mv (.const .nilslice), none⟩])
  (.seq (.seq (.region [
    ⟨(some 5), .mv (.tmp 0), none⟩,
    ⟨(some 6), .nilCheck (.tmp 5), none⟩,
    ⟨(some 7), .fieldAddr 257 (.tmp 6), none⟩,
    ⟨(some 8), .load1 (.tmp 7), none⟩,
    ⟨(some 9), .bin .eql (.tmp 8) (.const (.int .i64 256)), none⟩])
  (.cond (.tmp 9)
    (.seq (.region [
      ⟨(some 10), .mv (.tmp 0), none⟩,
      ⟨(some 11), .call 87 [(.tmp 10), (.const (.int .i64 128))], none⟩,
      ⟨(some 12), .mv (.tmp 1), none⟩,
      ⟨(some 13), .buildSlice [(.int .i64 0)] 1 [((0, 1), (.tmp 12))], none⟩,
      ⟨(some 14), .append 1 8 [(.int .i64 0)] (.tmp 11) (.tmp 13), none⟩,
      ⟨(some 4), .mv (.tmp 14), none⟩])
    (.ret))
    (.skip)))
  (.seq (.region [
    ⟨(some 15), .mv (.tmp 0), none⟩,
    ⟨(some 16), .mv (.tmp 1), none⟩,
    ⟨(some 17), .call 169 [(.tmp 15), (.tmp 16)], none⟩])
  (.seq (.region [
    ⟨(some 4), .mv (.const .nilslice), none⟩])
  (.ret)))), none⟩
set_option maxRecDepth 100000 in
theorem comp_177 : compFunc Tryz.prog 4 Tryz.f177 = some F177 := by kernel_rfl
theorem in_177 : F177.body.within F177.ntmps = true := by kernel_rfl

/-- '(*hostler/idle.Idle).TakeM' -/
def F180 : AFunc := ⟨44, [.tmp 2, .tmp 3],
  .seq (.region [
    ⟨(some 2), .mv (.const (.int .i64 0)), none⟩,
    ⟨(some 3), .mv (.const (.bool false)), none⟩])
  (.seq (.seq (.region [
    ⟨(some 8), .mv (.tmp 0), none⟩,
    ⟨(some 9), .nilCheck (.tmp 8), none⟩,
    ⟨(some 10), .fieldAddr 2 (.tmp 9), none⟩,
    ⟨(some 11), .load1 (.tmp 10), none⟩,
    ⟨(some 12), .lenS (.tmp 11), none⟩,
    ⟨(some 4), .mv (.tmp 12), none⟩])
  (.seq (.region [
    ⟨(some 13), .mv (.tmp 4), none⟩,
    ⟨(some 14), .bin .gtr (.tmp 13) (.const (.int .i64 0)), none⟩])
  (.cond (.tmp 14)
    (.seq (.region [
      ⟨(some 15), .mv (.tmp 0), none⟩,
      ⟨(some 16), .nilCheck (.tmp 15), none⟩,
      ⟨(some 17), .fieldAddr 2 (.tmp 16), none⟩,
      ⟨(some 18), .load1 (.tmp 17), none⟩,
      ⟨(some 19), .mv (.tmp 4), none⟩,
      ⟨(some 20), .bin .sub (.tmp 19) (.const (.int .i64 1)), none⟩,
      ⟨(some 21), .idxAddr 1 none (.tmp 18) (.tmp 20), none⟩,
      ⟨(some 22), .load1 (.tmp 21), none⟩,
      ⟨(some 5), .mv (.tmp 22), none⟩])
    (.seq (.region [
      ⟨(some 23), .mv (.tmp 0), none⟩,
      ⟨(some 24), .mv (.tmp 0), none⟩,
      ⟨(some 25), .nilCheck (.tmp 24), none⟩,
      ⟨(some 26), .fieldAddr 2 (.tmp 25), none⟩,
      ⟨(some 27), .load1 (.tmp 26), none⟩,
      ⟨(some 28), .mv (.tmp 4), none⟩,
      ⟨(some 29), .bin .sub (.tmp 28) (.const (.int .i64 1)), none⟩,
      ⟨(some 30), .slc 1 none (.tmp 27) none (some (.tmp 29)) none, none⟩,
      ⟨(some 31), .nilCheck (.tmp 23), none⟩,
      ⟨(some 32), .fieldAddr 2 (.tmp 31), none⟩,
      ⟨none, .store 1 (.tmp 32) (.tmp 30), none⟩])
    (.seq (.region [
      ⟨(some 33), .mv (.tmp 5), none⟩,
      ⟨(some 2), .mv (.tmp 33), none⟩,
      ⟨(some 3), .mv (.const (.bool true)), none⟩])
    (.ret))))
    (.skip))))
  (.seq (.region [
    ⟨(some 35), .mv (.tmp 0), none⟩,
    ⟨(some 36), .call 65 [(.tmp 35)], none⟩,
    ⟨(some 34), .mv (.tmp 36), none⟩,
    ⟨(some 37), .extract 0 (.tmp 34), none⟩,
    ⟨(some 38), .extract 1 (.tmp 34), none⟩,
    ⟨(some 6), .mv (.tmp 37), none⟩,
    ⟨(some 7), .mv (.tmp 38), none⟩])
  (.seq (.region [
    ⟨(some 39), .mv (.tmp 0), none⟩,
    ⟨(some 40), .nilCheck (.tmp 39), none⟩,
    ⟨(some 41), .fieldAddr 3 (.tmp 40), none⟩,
    ⟨none, .store 1 (.tmp 41) (.const (.int .i64 (-1))), none⟩])
  (.seq (.region [
    ⟨(some 42), .mv (.tmp 6), none⟩,
    ⟨(some 43), .mv (.tmp 7), none⟩,
    ⟨(some 2), .mv (.tmp 42), none⟩,
    ⟨(some 3), .mv (.tmp 43), none⟩])
  (.ret))))), none⟩
set_option maxRecDepth 100000 in
theorem comp_180 : compFunc Tryz.prog 4 Tryz.f180 = some F180 := by kernel_rfl
theorem in_180 : F180.body.within F180.ntmps = true := by kernel_rfl

/-- '(*hostler/idle.Idle).Pend' -/
def F181 : AFunc := ⟨42, [.tmp 4],
  .seq (.region [
    ⟨(some 4), .mv (.const (.bool false)), none⟩])
  (.seq (.seq (.region [
    ⟨(some 5), .mv (.tmp 1), none⟩,
    ⟨(some 6), .bin .lss (.tmp 5) (.const (.int .i64 0)), none⟩,
    ⟨(some 7), .mv (.tmp 6), none⟩,
    ⟨(some 8), .mv (.tmp 1), (some (7, false))⟩,
    ⟨(some 9), .mv (.tmp 0), (some (7, false))⟩,
    ⟨(some 10), .nilCheck (.tmp 9), (some (7, false))⟩,
    ⟨(some 11), .fieldAddr 0 (.tmp 10), (some (7, false))⟩,
    ⟨(some 12), .load1 (.tmp 11), (some (7, false))⟩,
    ⟨(some 13), .call 193 [(.tmp 12)], (some (7, false))⟩,
    ⟨(some 14), .bin .geq (.tmp 8) (.tmp 13), (some (7, false))⟩,
    ⟨(some 15), .pick (.tmp 7) (.const (.bool true)) (.tmp 14), none⟩,
    ⟨(some 16), .mv (.tmp 15), none⟩,
    ⟨(some 17), .mv (.tmp 0), (some (16, false))⟩,
    ⟨(some 18), .nilCheck (.tmp 17), (some (16, false))⟩,
    ⟨(some 19), .fieldAddr 0 (.tmp 18), (some (16, false))⟩,
    ⟨(some 20), .load1 (.tmp 19), (some (16, false))⟩,
    ⟨(some 21), .mv (.tmp 1), (some (16, false))⟩,
    ⟨(some 22), .call 161 [(.tmp 20), (.tmp 21)], (some (16, false))⟩,
    ⟨(some 23), .pick (.tmp 16) (.const (.bool true)) (.tmp 22), none⟩,
    ⟨(some 24), .mv (.tmp 23), none⟩,
    ⟨(some 25), .mv (.tmp 0), (some (24, false))⟩,
    ⟨(some 26), .nilCheck (.tmp 25), (some (24, false))⟩,
    ⟨(some 27), .fieldAddr 1 (.tmp 26), (some (24, false))⟩,
    ⟨(some 28), .load1 (.tmp 27), (some (24, false))⟩,
    ⟨(some 29), .mv (.tmp 1), (some (24, false))⟩,
    ⟨(some 30), .call 93 [(.tmp 28), (.tmp 29)], (some (24, false))⟩,
    ⟨(some 31), .pick (.tmp 24) (.const (.bool true)) (.tmp 30), none⟩])
  (.cond (.tmp 31)
    (.seq (.region [
      ⟨(some 4), .mv (.const (.bool false)), none⟩])
    (.ret))
    (.skip)))
  (.seq (.region [
    ⟨(some 32), .mv (.tmp 0), none⟩,
    ⟨(some 33), .mv (.tmp 0), none⟩,
    ⟨(some 34), .nilCheck (.tmp 33), none⟩,
    ⟨(some 35), .fieldAddr 1 (.tmp 34), none⟩,
    ⟨(some 36), .load1 (.tmp 35), none⟩,
    ⟨(some 37), .mv (.tmp 1), none⟩,
    ⟨(some 38), .buildSlice [(.int .i64 0)] 1 [((0, 1), (.tmp 37))], none⟩,
    ⟨(some 39), .append 1 8 [(.int .i64 0)] (.tmp 36) (.tmp 38), none⟩,
    ⟨(some 40), .nilCheck (.tmp 32), none⟩,
    ⟨(some 41), .fieldAddr 1 (.tmp 40), none⟩,
    ⟨none, .store 1 (.tmp 41) (.tmp 39), none⟩])
  (.seq (.region [
    ⟨(some 4), .mv (.const (.bool true)), none⟩])
  (.ret)))), none⟩
set_option maxRecDepth 100000 in
theorem comp_181 : compFunc Tryz.prog 4 Tryz.f181 = some F181 := by kernel_rfl
theorem in_181 : F181.body.within F181.ntmps = true := by kernel_rfl

/-- '(*hostler/world.World).take' -/
def F184 : AFunc := ⟨35, [],
  .seq (.region [
    ⟨(some 5), .mv (.tmp 0), none⟩,
    ⟨(some 6), .nilCheck (.tmp 5), none⟩,
    ⟨(some 7), .fieldAddr 13 (.tmp 6), none⟩,
    ⟨(some 8), .load1 (.tmp 7), none⟩,
    ⟨(some 9), .mv (.tmp 1), none⟩,
    ⟨(some 10), .idxAddr 18 none (.tmp 8) (.tmp 9), none⟩,
    ⟨(some 4), .mv (.tmp 10), none⟩])
  (.seq (.region [
    ⟨(some 11), .mv (.tmp 4), none⟩,
    ⟨(some 12), .nilCheck (.tmp 11), none⟩,
    ⟨(some 13), .fieldAddr 10 (.tmp 12), none⟩,
    ⟨none, .store 1 (.tmp 13) (.const (.int .i64 20)), none⟩])
  (.block 0 (.seq (.region [
    ⟨(some 18), .mv (.tmp 4), none⟩,
    ⟨(some 19), .nilCheck (.tmp 18), none⟩,
    ⟨(some 20), .fieldAddr 9 (.tmp 19), none⟩,
    ⟨(some 21), .load1 (.tmp 20), none⟩,
    ⟨(some 22), .lenS (.tmp 21), none⟩,
    ⟨(some 23), .bin .gtr (.tmp 22) (.const (.int .i64 0)), none⟩,
    ⟨(some 17), .mv (.tmp 23), none⟩])
  (.cond (.tmp 17)
    (.region [
      ⟨(some 24), .mv (.tmp 4), none⟩,
      ⟨(some 25), .nilCheck (.tmp 24), none⟩,
      ⟨(some 26), .fieldAddr 0 (.tmp 25), none⟩,
      ⟨none, .store 1 (.tmp 26) (.const (.int .i64 17)), none⟩])
    (.seq (.region [
      ⟨(some 28), .mv (.tmp 4), none⟩,
      ⟨(some 29), .nilCheck (.tmp 28), none⟩,
      ⟨(some 30), .fieldAddr 7 (.tmp 29), none⟩,
      ⟨(some 31), .load1 (.tmp 30), none⟩,
      ⟨(some 27), .mv (.tmp 31), none⟩])
    (.cond (.tmp 27)
      (.region [
        ⟨(some 32), .mv (.tmp 4), none⟩,
        ⟨(some 33), .nilCheck (.tmp 32), none⟩,
        ⟨(some 34), .fieldAddr 0 (.tmp 33), none⟩,
        ⟨none, .store 1 (.tmp 34) (.const (.int .i64 19)), none⟩])
      (.region [
        ⟨(some 14), .mv (.tmp 4), none⟩,
        ⟨(some 15), .nilCheck (.tmp 14), none⟩,
        ⟨(some 16), .fieldAddr 0 (.tmp 15), none⟩,
        ⟨none, .store 1 (.tmp 16) (.const (.int .i64 20)), none⟩]))))))), none⟩
set_option maxRecDepth 100000 in
theorem comp_184 : compFunc Tryz.prog 4 Tryz.f184 = some F184 := by kernel_rfl
theorem in_184 : F184.body.within F184.ntmps = true := by kernel_rfl

/-- '(*hostler/mask.Mask).Next' -/
def F189 : AFunc := ⟨36, [.tmp 4],
  .seq (.region [
    ⟨(some 4), .mv (.const (.int .i64 0)), none⟩])
  (.seq (.seq (.region [
    ⟨(some 6), .mv (.tmp 1), none⟩,
    ⟨(some 7), .max2 (.tmp 6) (.const (.int .i64 (-1))), none⟩,
    ⟨(some 1), .mv (.tmp 7), none⟩])
  (.block 0 (.loop (.seq (.seq (.region [
      ⟨(some 8), .mv (.tmp 1), none⟩,
      ⟨(some 9), .mv (.tmp 0), none⟩,
      ⟨(some 10), .nilCheck (.tmp 9), none⟩,
      ⟨(some 11), .fieldAddr 0 (.tmp 10), none⟩,
      ⟨(some 12), .load1 (.tmp 11), none⟩,
      ⟨(some 13), .bin .sub (.tmp 12) (.const (.int .i64 1)), none⟩,
      ⟨(some 14), .bin .lss (.tmp 8) (.tmp 13), none⟩])
    (.cond (.tmp 14)
      (.skip)
      (.exit 0)))
    (.block 1 (.seq (.region [
      ⟨(some 15), .mv (.tmp 1), none⟩,
      ⟨(some 16), .bin .add (.tmp 15) (.const (.int .i64 1)), none⟩,
      ⟨(some 1), .mv (.tmp 16), none⟩])
    (.seq (.seq (.region [
      ⟨(some 17), .mv (.tmp 0), none⟩,
      ⟨(some 18), .nilCheck (.tmp 17), none⟩,
      ⟨(some 19), .fieldAddr 1 (.tmp 18), none⟩,
      ⟨(some 20), .load1 (.tmp 19), none⟩,
      ⟨(some 21), .mv (.tmp 1), none⟩,
      ⟨(some 22), .bin .quo (.tmp 21) (.const (.int .i64 64)), none⟩,
      ⟨(some 23), .idxAddr 1 none (.tmp 20) (.tmp 22), none⟩,
      ⟨(some 24), .load1 (.tmp 23), none⟩,
      ⟨(some 25), .mv (.tmp 1), none⟩,
      ⟨(some 26), .bin .rem (.tmp 25) (.const (.int .i64 64)), none⟩,
      ⟨(some 27), .bin .shr (.tmp 24) (.tmp 26), none⟩,
      ⟨(some 5), .mv (.tmp 27), none⟩])
    (.seq (.region [
      ⟨(some 28), .mv (.tmp 5), none⟩,
      ⟨(some 29), .bin .neq (.tmp 28) (.const (.int .u64 0)), none⟩])
    (.cond (.tmp 29)
      (.seq (.region [
        ⟨(some 30), .mv (.tmp 1), none⟩,
        ⟨(some 31), .mv (.tmp 5), none⟩,
        ⟨(some 32), .call 201 [(.tmp 31)], none⟩,
        ⟨(some 33), .bin .add (.tmp 30) (.tmp 32), none⟩,
        ⟨(some 4), .mv (.tmp 33), none⟩])
      (.ret))
      (.skip))))
    (.region [
      ⟨(some 34), .mv (.tmp 1), none⟩,
      ⟨(some 35), .bin .or (.tmp 34) (.const (.int .i64 63)), none⟩,
      ⟨(some 1), .mv (.tmp 35), none⟩]))))))))
  (.seq (.region [
    ⟨(some 4), .mv (.const (.int .i64 (-1))), none⟩])
  (.ret))), none⟩
set_option maxRecDepth 100000 in
theorem comp_189 : compFunc Tryz.prog 4 Tryz.f189 = some F189 := by kernel_rfl
theorem in_189 : F189.body.within F189.ntmps = true := by kernel_rfl

/-- '(*hostler/mask.Mask).Len' -/
def F193 : AFunc := ⟨7, [.tmp 2],
  .seq (.region [
    ⟨(some 2), .mv (.const (.int .i64 0)), none⟩])
  (.seq (.region [
    ⟨(some 3), .mv (.tmp 0), none⟩,
    ⟨(some 4), .nilCheck (.tmp 3), none⟩,
    ⟨(some 5), .fieldAddr 0 (.tmp 4), none⟩,
    ⟨(some 6), .load1 (.tmp 5), none⟩,
    ⟨(some 2), .mv (.tmp 6), none⟩])
  (.ret)), none⟩
set_option maxRecDepth 100000 in
theorem comp_193 : compFunc Tryz.prog 4 Tryz.f193 = some F193 := by kernel_rfl
theorem in_193 : F193.body.within F193.ntmps = true := by kernel_rfl

/-- 'math/bits.TrailingZeros64' -/
def F201 : AFunc := ⟨14, [.tmp 2],
  .seq (.region [
    ⟨(some 2), .mv (.const (.int .i64 0)), none⟩])
  (.seq (.seq (.region [
    ⟨(some 3), .mv (.tmp 0), none⟩,
    ⟨(some 4), .bin .eql (.tmp 3) (.const (.int .u64 0)), none⟩])
  (.cond (.tmp 4)
    (.seq (.region [
      ⟨(some 2), .mv (.const (.int .i64 64)), none⟩])
    (.ret))
    (.skip)))
  (.seq (.region [
    ⟨(some 5), .mv (.tmp 0), none⟩,
    ⟨(some 6), .mv (.tmp 0), none⟩,
    ⟨(some 7), .un .neg (.tmp 6), none⟩,
    ⟨(some 8), .bin .and (.tmp 5) (.tmp 7), none⟩,
    ⟨(some 9), .bin .mul (.tmp 8) (.const (.int .u64 285870213051353865)), none⟩,
    ⟨(some 10), .bin .shr (.tmp 9) (.const (.int .u64 58)), none⟩,
    ⟨(some 11), .idxAddr 1 (some 64) (.glob 3) (.tmp 10), none⟩,
    ⟨(some 12), .load1 (.tmp 11), none⟩,
    ⟨(some 13), .toInt .i64 (.tmp 12), none⟩,
    ⟨(some 2), .mv (.tmp 13), none⟩])
  (.ret))), none⟩
set_option maxRecDepth 100000 in
theorem comp_201 : compFunc Tryz.prog 4 Tryz.f201 = some F201 := by kernel_rfl
theorem in_201 : F201.body.within F201.ntmps = true := by kernel_rfl

end Go.Proofs.YtblhcbmcbhoeiaaGreatDoor.Ev
end
