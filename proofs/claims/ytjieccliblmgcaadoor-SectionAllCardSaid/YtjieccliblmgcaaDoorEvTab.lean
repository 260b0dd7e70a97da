/- The program's functions as the evaluator takes them, printed by a program of this repository (PrintTab.lean, mktab.py); that they are the program's is proved at the end. -/
import Derived.Test.YtjieccliblmgcaaDoorEvComp
import Derived.Test.YtjieccliblmgcaaDoorEvRun
import Derived.Test.YtjieccliblmgcaaDoorChecked
import Derived.KernelRfl
namespace Go.Proofs.YtjieccliblmgcaaDoor.Ev
open Go

/-- 'hostler/hostlerlaw18.SectionOthers' -/
def F3 : AFunc := ⟨49, [.tmp 2],
  .seq (.region [
    ⟨(some 2), .mv (.const (.bool false)), none⟩])
  (.seq (.seq (.region [
    ⟨(some 7), .call 7 [], none⟩,
    ⟨(some 8), .un .not (.tmp 7), none⟩])
  (.cond (.tmp 8)
    (.seq (.region [
      ⟨(some 2), .mv (.const (.bool false)), none⟩])
    (.ret))
    (.skip)))
  (.seq (.region [
    ⟨(some 9), .call 8 [(.const (.int .i64 8))], none⟩,
    ⟨(some 3), .mv (.tmp 9), none⟩])
  (.seq (.region [
    ⟨(some 10), .call 10 [], none⟩,
    ⟨(some 11), .call 9 [(.tmp 10)], none⟩,
    ⟨(some 4), .alloc [(.int .i64 0), (.int .i64 0), (.int .i64 0), (.int .u64 0), (.int .i64 0)], none⟩,
    ⟨none, .store 5 (.tmp 4) (.tmp 11), none⟩])
  (.seq (.seq (.region [
    ⟨(some 12), .mv (.tmp 0), none⟩,
    ⟨(some 13), .bin .rem (.tmp 12) (.const (.int .u8 4)), none⟩,
    ⟨(some 14), .toInt .i64 (.tmp 13), none⟩,
    ⟨(some 15), .mv (.const (.int .i64 0)), none⟩])
  (.block 0 (.loop (.seq (.region [
      ⟨(some 16), .bin .lss (.tmp 15) (.tmp 14), none⟩])
    (.seq (.cond (.tmp 16)
      (.skip)
      (.exit 0))
    (.seq (.block 1 (.region [
      ⟨(some 17), .mv (.tmp 3), none⟩,
      ⟨(some 18), .call 11 [(.tmp 4), (.tmp 17), (.const .nilfunc)], none⟩]))
    (.region [
      ⟨(some 19), .bin .add (.tmp 15) (.const (.int .i64 1)), none⟩,
      ⟨(some 15), .mv (.tmp 19), none⟩])))))))
  (.seq (.region [
    ⟨(some 20), .build [(.int .i64 0), (.int .i64 0)] [((0, 1), (.const (.int .i64 0))), ((1, 1), (.const (.int .i64 1)))], none⟩,
    ⟨(some 21), .call 9 [(.tmp 20)], none⟩,
    ⟨(some 5), .alloc [(.int .i64 0), (.int .i64 0), (.int .i64 0), (.int .u64 0), (.int .i64 0)], none⟩,
    ⟨none, .store 5 (.tmp 5) (.tmp 21), none⟩])
  (.seq (.seq (.region [
    ⟨(some 22), .mv (.const (.int .i64 0)), none⟩])
  (.block 2 (.loop (.seq (.region [
      ⟨(some 23), .bin .lss (.tmp 22) (.const (.int .i64 4)), none⟩])
    (.seq (.cond (.tmp 23)
      (.skip)
      (.exit 2))
    (.seq (.block 3 (.seq (.region [
      ⟨(some 24), .mv (.tmp 22), none⟩,
      ⟨(some 6), .mv (.tmp 24), none⟩])
    (.seq (.region [
      ⟨(some 25), .mv (.tmp 3), none⟩,
      ⟨(some 26), .call 11 [(.tmp 5), (.tmp 25), (.const .nilfunc)], none⟩,
      ⟨(some 27), .mv (.tmp 6), none⟩,
      ⟨(some 28), .bin .eql (.tmp 27) (.const (.int .i64 3)), none⟩,
      ⟨(some 29), .eqBool true (.tmp 26) (.tmp 28), none⟩])
    (.cond (.tmp 29)
      (.seq (.region [
        ⟨(some 2), .mv (.const (.bool false)), none⟩])
      (.ret))
      (.skip)))))
    (.region [
      ⟨(some 30), .bin .add (.tmp 22) (.const (.int .i64 1)), none⟩,
      ⟨(some 22), .mv (.tmp 30), none⟩])))))))
  (.seq (.seq (.region [
    ⟨(some 31), .mv (.const (.int .i64 0)), none⟩])
  (.block 4 (.loop (.seq (.region [
      ⟨(some 32), .bin .lss (.tmp 31) (.const (.int .i64 4)), none⟩])
    (.seq (.cond (.tmp 32)
      (.skip)
      (.exit 4))
    (.seq (.block 5 (.region [
      ⟨(some 33), .mv (.tmp 3), none⟩,
      ⟨(some 34), .call 11 [(.tmp 4), (.tmp 33), (.const .nilfunc)], none⟩]))
    (.region [
      ⟨(some 35), .bin .add (.tmp 31) (.const (.int .i64 1)), none⟩,
      ⟨(some 31), .mv (.tmp 35), none⟩])))))))
  (.seq (.region [
    ⟨(some 36), .fieldAddr 2 (.tmp 4), none⟩,
    ⟨(some 37), .load1 (.tmp 36), none⟩,
    ⟨(some 38), .bin .eql (.tmp 37) (.const (.int .i64 4)), none⟩,
    ⟨(some 39), .mv (.tmp 38), none⟩,
    ⟨(some 40), .fieldAddr 4 (.tmp 5), (some (39, true))⟩,
    ⟨(some 41), .load1 (.tmp 40), (some (39, true))⟩,
    ⟨(some 42), .bin .eql (.tmp 41) (.const (.int .i64 1)), (some (39, true))⟩,
    ⟨(some 43), .pick (.tmp 39) (.tmp 42) (.const (.bool false)), none⟩,
    ⟨(some 44), .mv (.tmp 43), none⟩,
    ⟨(some 45), .fieldAddr 4 (.tmp 4), (some (44, true))⟩,
    ⟨(some 46), .load1 (.tmp 45), (some (44, true))⟩,
    ⟨(some 47), .bin .eql (.tmp 46) (.const (.int .i64 1)), (some (44, true))⟩,
    ⟨(some 48), .pick (.tmp 44) (.tmp 47) (.const (.bool false)), none⟩,
    ⟨(some 2), .mv (.tmp 48), none⟩])
  (.ret)))))))))⟩

/-- 'hostler/hostlerlaw18.SectionTimes' -/
def F4 : AFunc := ⟨47, [.tmp 2],
  .seq (.region [
    ⟨(some 2), .mv (.const (.bool false)), none⟩])
  (.seq (.seq (.region [
    ⟨(some 8), .call 7 [], none⟩,
    ⟨(some 9), .un .not (.tmp 8), none⟩])
  (.cond (.tmp 9)
    (.seq (.region [
      ⟨(some 2), .mv (.const (.bool false)), none⟩])
    (.ret))
    (.skip)))
  (.seq (.region [
    ⟨(some 10), .call 8 [(.const (.int .i64 8))], none⟩,
    ⟨(some 3), .mv (.tmp 10), none⟩])
  (.seq (.region [
    ⟨(some 11), .call 10 [], none⟩,
    ⟨(some 12), .call 9 [(.tmp 11)], none⟩,
    ⟨(some 4), .alloc [(.int .i64 0), (.int .i64 0), (.int .i64 0), (.int .u64 0), (.int .i64 0)], none⟩,
    ⟨none, .store 5 (.tmp 4) (.tmp 12), none⟩])
  (.seq (.region [
    ⟨(some 13), .mv (.tmp 0), none⟩,
    ⟨(some 14), .bin .rem (.tmp 13) (.const (.int .u8 40)), none⟩,
    ⟨(some 15), .toInt .i64 (.tmp 14), none⟩,
    ⟨(some 16), .bin .add (.const (.int .i64 1)) (.tmp 15), none⟩,
    ⟨(some 5), .alloc [(.int .i64 0)], none⟩,
    ⟨(some 6), .alloc [(.int .i64 0)], none⟩,
    ⟨none, .store 1 (.tmp 5) (.const (.int .i64 0)), none⟩,
    ⟨none, .store 1 (.tmp 6) (.tmp 16), none⟩])
  (.seq (.seq (.region [
    ⟨(some 17), .load1 (.tmp 6), none⟩,
    ⟨(some 18), .bin .add (.tmp 17) (.const (.int .i64 3)), none⟩,
    ⟨(some 19), .mv (.const (.int .i64 0)), none⟩])
  (.block 0 (.loop (.seq (.region [
      ⟨(some 20), .bin .lss (.tmp 19) (.tmp 18), none⟩])
    (.seq (.cond (.tmp 20)
      (.skip)
      (.exit 0))
    (.seq (.block 1 (.seq (.region [
      ⟨(some 7), .alloc [(.bool false)], none⟩,
      ⟨none, .store 1 (.tmp 7) (.const (.bool true)), none⟩])
    (.seq (.region [
      ⟨(some 21), .mv (.tmp 3), none⟩,
      ⟨(some 22), .mkfunc 12 [] [(.tmp 5), (.tmp 7), (.tmp 6)], none⟩,
      ⟨(some 23), .call 11 [(.tmp 4), (.tmp 21), (.tmp 22)], none⟩])
    (.seq (.region [
      ⟨(some 24), .load1 (.tmp 7), none⟩,
      ⟨(some 25), .un .not (.tmp 24), none⟩,
      ⟨(some 26), .mv (.tmp 25), none⟩,
      ⟨(some 27), .fieldAddr 4 (.tmp 4), (some (26, false))⟩,
      ⟨(some 28), .load1 (.tmp 27), (some (26, false))⟩,
      ⟨(some 29), .load1 (.tmp 5), (some (26, false))⟩,
      ⟨(some 30), .bin .neq (.tmp 28) (.tmp 29), (some (26, false))⟩,
      ⟨(some 31), .pick (.tmp 26) (.const (.bool true)) (.tmp 30), none⟩])
    (.cond (.tmp 31)
      (.seq (.region [
        ⟨(some 2), .mv (.const (.bool false)), none⟩])
      (.ret))
      (.skip))))))
    (.region [
      ⟨(some 32), .bin .add (.tmp 19) (.const (.int .i64 1)), none⟩,
      ⟨(some 19), .mv (.tmp 32), none⟩])))))))
  (.seq (.region [
    ⟨(some 33), .load1 (.tmp 5), none⟩,
    ⟨(some 34), .load1 (.tmp 6), none⟩,
    ⟨(some 35), .bin .eql (.tmp 33) (.tmp 34), none⟩,
    ⟨(some 36), .mv (.tmp 35), none⟩,
    ⟨(some 37), .fieldAddr 2 (.tmp 4), (some (36, true))⟩,
    ⟨(some 38), .load1 (.tmp 37), (some (36, true))⟩,
    ⟨(some 39), .bin .eql (.tmp 38) (.const (.int .i64 4)), (some (36, true))⟩,
    ⟨(some 40), .pick (.tmp 36) (.tmp 39) (.const (.bool false)), none⟩,
    ⟨(some 41), .mv (.tmp 40), none⟩,
    ⟨(some 42), .call 10 [], (some (41, true))⟩,
    ⟨(some 43), .mv (.tmp 3), (some (41, true))⟩,
    ⟨(some 44), .call 13 [(.tmp 42), (.tmp 43)], (some (41, true))⟩,
    ⟨(some 45), .un .not (.tmp 44), (some (41, true))⟩,
    ⟨(some 46), .pick (.tmp 41) (.tmp 45) (.const (.bool false)), none⟩,
    ⟨(some 2), .mv (.tmp 46), none⟩])
  (.ret)))))))⟩

/-- 'hostler/hostlerlaw18.SectionAll' -/
def F5 : AFunc := ⟨101, [.tmp 4],
  .seq (.region [
    ⟨(some 4), .mv (.const (.bool false)), none⟩])
  (.seq (.seq (.region [
    ⟨(some 16), .call 7 [], none⟩,
    ⟨(some 17), .un .not (.tmp 16), none⟩])
  (.cond (.tmp 17)
    (.seq (.region [
      ⟨(some 4), .mv (.const (.bool false)), none⟩])
    (.ret))
    (.skip)))
  (.seq (.region [
    ⟨(some 18), .mv (.tmp 0), none⟩,
    ⟨(some 19), .bin .rem (.tmp 18) (.const (.int .u8 8)), none⟩,
    ⟨(some 20), .toInt .i64 (.tmp 19), none⟩,
    ⟨(some 21), .bin .add (.const (.int .i64 1)) (.tmp 20), none⟩,
    ⟨(some 22), .mv (.tmp 1), none⟩,
    ⟨(some 23), .bin .rem (.tmp 22) (.const (.int .u8 5)), none⟩,
    ⟨(some 24), .toInt .i64 (.tmp 23), none⟩,
    ⟨(some 25), .bin .add (.const (.int .i64 1)) (.tmp 24), none⟩,
    ⟨(some 6), .alloc [(.int .i64 0)], none⟩,
    ⟨(some 5), .mv (.tmp 21), none⟩,
    ⟨none, .store 1 (.tmp 6) (.tmp 25), none⟩])
  (.seq (.region [
    ⟨(some 26), .call 8 [(.const (.int .i64 8))], none⟩,
    ⟨(some 7), .mv (.tmp 26), none⟩])
  (.seq (.region [
    ⟨(some 27), .mv (.tmp 5), none⟩,
    ⟨(some 28), .mkslice 5 40 [(.int .i64 0), (.int .i64 0), (.int .i64 0), (.int .u64 0), (.int .i64 0)] (.tmp 27) (.tmp 27), none⟩,
    ⟨(some 8), .mv (.tmp 28), none⟩])
  (.seq (.seq (.region [
    ⟨(some 29), .mv (.tmp 8), none⟩,
    ⟨(some 30), .lenS (.tmp 29), none⟩,
    ⟨(some 31), .mv (.const (.int .i64 0)), none⟩])
  (.block 0 (.loop (.seq (.region [
      ⟨(some 32), .bin .lss (.tmp 31) (.tmp 30), none⟩])
    (.seq (.cond (.tmp 32)
      (.skip)
      (.exit 0))
    (.seq (.block 1 (.seq (.region [
      ⟨(some 33), .mv (.tmp 31), none⟩,
      ⟨(some 9), .mv (.tmp 33), none⟩])
    (.region [
      ⟨(some 34), .mv (.tmp 8), none⟩,
      ⟨(some 35), .mv (.tmp 9), none⟩,
      ⟨(some 36), .call 10 [], none⟩,
      ⟨(some 37), .call 9 [(.tmp 36)], none⟩,
      ⟨(some 38), .idxAddr 5 none (.tmp 34) (.tmp 35), none⟩,
      ⟨none, .store 5 (.tmp 38) (.tmp 37), none⟩])))
    (.region [
      ⟨(some 39), .bin .add (.tmp 31) (.const (.int .i64 1)), none⟩,
      ⟨(some 31), .mv (.tmp 39), none⟩])))))))
  (.seq (.region [
    ⟨(some 10), .alloc [.nilslice], none⟩])
  (.seq (.region [
    ⟨(some 11), .mv (.const (.int .i64 0)), none⟩])
  (.seq (.seq (.region [
    ⟨(some 40), .mv (.tmp 5), none⟩,
    ⟨(some 12), .mv (.tmp 40), none⟩])
  (.block 2 (.loop (.seq (.seq (.region [
      ⟨(some 41), .mv (.tmp 12), none⟩,
      ⟨(some 42), .bin .gtr (.tmp 41) (.const (.int .i64 0)), none⟩,
      ⟨(some 43), .mv (.tmp 42), none⟩,
      ⟨(some 44), .mv (.tmp 11), (some (43, true))⟩,
      ⟨(some 45), .bin .lss (.tmp 44) (.const (.int .i64 4000)), (some (43, true))⟩,
      ⟨(some 46), .pick (.tmp 43) (.tmp 45) (.const (.bool false)), none⟩])
    (.cond (.tmp 46)
      (.skip)
      (.exit 2)))
    (.seq (.block 3 (.seq (.region [
      ⟨(some 12), .mv (.const (.int .i64 0)), none⟩])
    (.seq (.region [
      ⟨(some 49), .mv (.tmp 8), none⟩,
      ⟨(some 50), .lenS (.tmp 49), none⟩,
      ⟨(some 51), .mv (.const (.int .i64 0)), none⟩])
    (.block 4 (.loop (.seq (.region [
        ⟨(some 52), .bin .lss (.tmp 51) (.tmp 50), none⟩])
      (.seq (.cond (.tmp 52)
        (.skip)
        (.exit 4))
      (.seq (.block 5 (.seq (.region [
        ⟨(some 53), .mv (.tmp 51), none⟩,
        ⟨(some 13), .alloc [(.int .i64 0)], none⟩,
        ⟨none, .store 1 (.tmp 13) (.tmp 53), none⟩])
      (.seq (.region [
        ⟨(some 54), .mv (.tmp 8), none⟩,
        ⟨(some 55), .load1 (.tmp 13), none⟩,
        ⟨(some 56), .idxAddr 5 none (.tmp 54) (.tmp 55), none⟩,
        ⟨(some 57), .mv (.tmp 7), none⟩,
        ⟨(some 58), .mkfunc 14 [] [(.tmp 10), (.tmp 13), (.tmp 6)], none⟩,
        ⟨(some 59), .call 11 [(.tmp 56), (.tmp 57), (.tmp 58)], none⟩])
      (.seq (.region [
        ⟨(some 60), .mv (.tmp 8), none⟩,
        ⟨(some 61), .load1 (.tmp 13), none⟩,
        ⟨(some 62), .idxAddr 5 none (.tmp 60) (.tmp 61), none⟩,
        ⟨(some 63), .fieldAddr 2 (.tmp 62), none⟩,
        ⟨(some 64), .load1 (.tmp 63), none⟩,
        ⟨(some 65), .bin .neq (.tmp 64) (.const (.int .i64 4)), none⟩])
      (.cond (.tmp 65)
        (.region [
          ⟨(some 66), .mv (.tmp 12), none⟩,
          ⟨(some 67), .bin .add (.tmp 66) (.const (.int .i64 1)), none⟩,
          ⟨(some 12), .mv (.tmp 67), none⟩])
        (.skip))))))
      (.region [
        ⟨(some 68), .bin .add (.tmp 51) (.const (.int .i64 1)), none⟩,
        ⟨(some 51), .mv (.tmp 68), none⟩])))))))))
    (.region [
      ⟨(some 47), .mv (.tmp 11), none⟩,
      ⟨(some 48), .bin .add (.tmp 47) (.const (.int .i64 1)), none⟩,
      ⟨(some 11), .mv (.tmp 48), none⟩]))))))
  (.seq (.seq (.region [
    ⟨(some 69), .mv (.tmp 11), none⟩,
    ⟨(some 70), .load1 (.tmp 6), none⟩,
    ⟨(some 71), .bin .add (.tmp 70) (.const (.int .i64 3)), none⟩,
    ⟨(some 72), .mv (.tmp 5), none⟩,
    ⟨(some 73), .bin .mul (.tmp 71) (.tmp 72), none⟩,
    ⟨(some 74), .bin .add (.tmp 73) (.const (.int .i64 1)), none⟩,
    ⟨(some 75), .bin .gtr (.tmp 69) (.tmp 74), none⟩,
    ⟨(some 76), .mv (.tmp 75), none⟩,
    ⟨(some 77), .load1 (.tmp 10), (some (76, false))⟩,
    ⟨(some 78), .lenS (.tmp 77), (some (76, false))⟩,
    ⟨(some 79), .mv (.tmp 5), (some (76, false))⟩,
    ⟨(some 80), .load1 (.tmp 6), (some (76, false))⟩,
    ⟨(some 81), .bin .mul (.tmp 79) (.tmp 80), (some (76, false))⟩,
    ⟨(some 82), .bin .neq (.tmp 78) (.tmp 81), (some (76, false))⟩,
    ⟨(some 83), .pick (.tmp 76) (.const (.bool true)) (.tmp 82), none⟩])
  (.cond (.tmp 83)
    (.seq (.region [
      ⟨(some 4), .mv (.const (.bool false)), none⟩])
    (.ret))
    (.skip)))
  (.seq (.seq (.region [
    ⟨(some 84), .load1 (.tmp 10), none⟩,
    ⟨(some 85), .lenS (.tmp 84), none⟩,
    ⟨(some 86), .mv (.const (.int .i64 0)), none⟩])
  (.block 6 (.loop (.seq (.region [
      ⟨(some 87), .bin .lss (.tmp 86) (.tmp 85), none⟩])
    (.seq (.cond (.tmp 87)
      (.skip)
      (.exit 6))
    (.seq (.block 7 (.seq (.region [
      ⟨(some 88), .mv (.tmp 86), none⟩,
      ⟨(some 89), .idxAddr 1 none (.tmp 84) (.tmp 86), none⟩,
      ⟨(some 90), .load1 (.tmp 89), none⟩,
      ⟨(some 14), .mv (.tmp 88), none⟩,
      ⟨(some 15), .mv (.tmp 90), none⟩])
    (.seq (.region [
      ⟨(some 91), .mv (.tmp 15), none⟩,
      ⟨(some 92), .mv (.tmp 14), none⟩,
      ⟨(some 93), .load1 (.tmp 6), none⟩,
      ⟨(some 94), .bin .quo (.tmp 92) (.tmp 93), none⟩,
      ⟨(some 95), .bin .neq (.tmp 91) (.tmp 94), none⟩])
    (.cond (.tmp 95)
      (.seq (.region [
        ⟨(some 4), .mv (.const (.bool false)), none⟩])
      (.ret))
      (.skip)))))
    (.region [
      ⟨(some 96), .bin .add (.tmp 86) (.const (.int .i64 1)), none⟩,
      ⟨(some 86), .mv (.tmp 96), none⟩])))))))
  (.seq (.region [
    ⟨(some 97), .call 10 [], none⟩,
    ⟨(some 98), .mv (.tmp 7), none⟩,
    ⟨(some 99), .call 13 [(.tmp 97), (.tmp 98)], none⟩,
    ⟨(some 100), .un .not (.tmp 99), none⟩,
    ⟨(some 4), .mv (.tmp 100), none⟩])
  (.ret))))))))))))⟩

/-- 'hostler/hostlerlaw18.SectionOver' -/
def F6 : AFunc := ⟨107, [.tmp 4],
  .seq (.region [
    ⟨(some 4), .mv (.const (.bool false)), none⟩])
  (.seq (.seq (.region [
    ⟨(some 10), .call 7 [], none⟩,
    ⟨(some 11), .un .not (.tmp 10), none⟩])
  (.cond (.tmp 11)
    (.seq (.region [
      ⟨(some 4), .mv (.const (.bool false)), none⟩])
    (.ret))
    (.skip)))
  (.seq (.region [
    ⟨(some 12), .call 8 [(.const (.int .i64 8))], none⟩,
    ⟨(some 5), .mv (.tmp 12), none⟩])
  (.seq (.region [
    ⟨(some 13), .mv (.tmp 5), none⟩,
    ⟨(some 14), .idxAddr 1 (some 2) (.glob 0) (.const (.int .i64 0)), none⟩,
    ⟨(some 15), .load1 (.tmp 14), none⟩,
    ⟨(some 16), .mv (.tmp 1), none⟩,
    ⟨(some 17), .call 15 [(.tmp 13), (.tmp 15), (.tmp 16)], none⟩])
  (.seq (.region [
    ⟨(some 18), .mv (.tmp 5), none⟩,
    ⟨(some 19), .idxAddr 1 (some 2) (.glob 0) (.const (.int .i64 1)), none⟩,
    ⟨(some 20), .load1 (.tmp 19), none⟩,
    ⟨(some 21), .mv (.tmp 1), none⟩,
    ⟨(some 22), .call 15 [(.tmp 18), (.tmp 20), (.tmp 21)], none⟩])
  (.seq (.region [
    ⟨(some 23), .call 10 [], none⟩,
    ⟨(some 24), .call 9 [(.tmp 23)], none⟩,
    ⟨(some 6), .alloc [(.int .i64 0), (.int .i64 0), (.int .i64 0), (.int .u64 0), (.int .i64 0)], none⟩,
    ⟨none, .store 5 (.tmp 6) (.tmp 24), none⟩])
  (.seq (.region [
    ⟨(some 7), .alloc [(.int .i64 0)], none⟩,
    ⟨none, .store 1 (.tmp 7) (.const (.int .i64 0)), none⟩])
  (.seq (.region [
    ⟨(some 25), .mkfunc 16 [] [(.tmp 7)], none⟩,
    ⟨(some 8), .mv (.tmp 25), none⟩])
  (.seq (.seq (.region [
    ⟨(some 26), .mv (.const (.int .i64 0)), none⟩])
  (.block 0 (.loop (.seq (.region [
      ⟨(some 27), .bin .lss (.tmp 26) (.const (.int .i64 4)), none⟩])
    (.seq (.cond (.tmp 27)
      (.skip)
      (.exit 0))
    (.seq (.block 1 (.region [
      ⟨(some 28), .mv (.tmp 5), none⟩,
      ⟨(some 29), .mv (.tmp 8), none⟩,
      ⟨(some 30), .call 11 [(.tmp 6), (.tmp 28), (.tmp 29)], none⟩]))
    (.region [
      ⟨(some 31), .bin .add (.tmp 26) (.const (.int .i64 1)), none⟩,
      ⟨(some 26), .mv (.tmp 31), none⟩])))))))
  (.seq (.region [
    ⟨(some 32), .mv (.tmp 5), none⟩,
    ⟨(some 33), .call 17 [(.tmp 32)], none⟩,
    ⟨(some 9), .mv (.tmp 33), none⟩])
  (.seq (.seq (.region [
    ⟨(some 34), .fieldAddr 2 (.tmp 6), none⟩,
    ⟨(some 35), .load1 (.tmp 34), none⟩,
    ⟨(some 36), .bin .neq (.tmp 35) (.const (.int .i64 4)), none⟩,
    ⟨(some 37), .mv (.tmp 36), none⟩,
    ⟨(some 38), .load1 (.tmp 7), (some (37, false))⟩,
    ⟨(some 39), .bin .neq (.tmp 38) (.const (.int .i64 1)), (some (37, false))⟩,
    ⟨(some 40), .pick (.tmp 37) (.const (.bool true)) (.tmp 39), none⟩,
    ⟨(some 41), .mv (.tmp 40), none⟩,
    ⟨(some 42), .mv (.tmp 5), (some (41, false))⟩,
    ⟨(some 43), .mv (.tmp 8), (some (41, false))⟩,
    ⟨(some 44), .call 11 [(.tmp 6), (.tmp 42), (.tmp 43)], (some (41, false))⟩,
    ⟨(some 45), .un .not (.tmp 44), (some (41, false))⟩,
    ⟨(some 46), .pick (.tmp 41) (.const (.bool true)) (.tmp 45), none⟩,
    ⟨(some 47), .mv (.tmp 46), none⟩,
    ⟨(some 48), .load1 (.tmp 7), (some (47, false))⟩,
    ⟨(some 49), .bin .neq (.tmp 48) (.const (.int .i64 1)), (some (47, false))⟩,
    ⟨(some 50), .pick (.tmp 47) (.const (.bool true)) (.tmp 49), none⟩,
    ⟨(some 51), .mv (.tmp 50), none⟩,
    ⟨(some 52), .mv (.tmp 5), (some (51, false))⟩,
    ⟨(some 53), .call 17 [(.tmp 52)], (some (51, false))⟩,
    ⟨(some 54), .mv (.tmp 9), (some (51, false))⟩,
    ⟨(some 55), .bin .neq (.tmp 53) (.tmp 54), (some (51, false))⟩,
    ⟨(some 56), .pick (.tmp 51) (.const (.bool true)) (.tmp 55), none⟩,
    ⟨(some 57), .mv (.tmp 56), none⟩,
    ⟨(some 58), .mv (.tmp 5), (some (57, false))⟩,
    ⟨(some 59), .idxAddr 1 (some 2) (.glob 0) (.const (.int .i64 0)), (some (57, false))⟩,
    ⟨(some 60), .load1 (.tmp 59), (some (57, false))⟩,
    ⟨(some 61), .call 18 [(.tmp 58), (.tmp 60)], (some (57, false))⟩,
    ⟨(some 62), .mv (.tmp 1), (some (57, false))⟩,
    ⟨(some 63), .bin .add (.tmp 62) (.const (.int .u64 1)), (some (57, false))⟩,
    ⟨(some 64), .bin .neq (.tmp 61) (.tmp 63), (some (57, false))⟩,
    ⟨(some 65), .pick (.tmp 57) (.const (.bool true)) (.tmp 64), none⟩,
    ⟨(some 66), .mv (.tmp 65), none⟩,
    ⟨(some 67), .mv (.tmp 5), (some (66, false))⟩,
    ⟨(some 68), .idxAddr 1 (some 2) (.glob 0) (.const (.int .i64 1)), (some (66, false))⟩,
    ⟨(some 69), .load1 (.tmp 68), (some (66, false))⟩,
    ⟨(some 70), .call 18 [(.tmp 67), (.tmp 69)], (some (66, false))⟩,
    ⟨(some 71), .mv (.tmp 1), (some (66, false))⟩,
    ⟨(some 72), .bin .add (.tmp 71) (.const (.int .u64 1)), (some (66, false))⟩,
    ⟨(some 73), .bin .neq (.tmp 70) (.tmp 72), (some (66, false))⟩,
    ⟨(some 74), .pick (.tmp 66) (.const (.bool true)) (.tmp 73), none⟩])
  (.cond (.tmp 74)
    (.seq (.region [
      ⟨(some 4), .mv (.const (.bool false)), none⟩])
    (.ret))
    (.skip)))
  (.seq (.seq (.region [
    ⟨(some 75), .mv (.tmp 0), none⟩,
    ⟨(some 76), .bin .geq (.tmp 75) (.const (.int .i64 0)), none⟩,
    ⟨(some 77), .mv (.tmp 76), none⟩,
    ⟨(some 78), .mv (.tmp 0), (some (77, true))⟩,
    ⟨(some 79), .bin .lss (.tmp 78) (.const (.int .i64 4)), (some (77, true))⟩,
    ⟨(some 80), .pick (.tmp 77) (.tmp 79) (.const (.bool false)), none⟩])
  (.cond (.tmp 80)
    (.seq (.region [
      ⟨(some 4), .mv (.const (.bool true)), none⟩])
    (.ret))
    (.skip)))
  (.seq (.region [
    ⟨(some 81), .mv (.tmp 0), none⟩,
    ⟨(some 82), .fieldAddr 2 (.tmp 6), none⟩,
    ⟨none, .store 1 (.tmp 82) (.tmp 81), none⟩])
  (.seq (.region [
    ⟨(some 83), .mv (.tmp 5), none⟩,
    ⟨(some 84), .call 17 [(.tmp 83)], none⟩,
    ⟨(some 9), .mv (.tmp 84), none⟩])
  (.seq (.region [
    ⟨(some 85), .mv (.tmp 5), none⟩,
    ⟨(some 86), .mv (.tmp 8), none⟩,
    ⟨(some 87), .call 11 [(.tmp 6), (.tmp 85), (.tmp 86)], none⟩,
    ⟨(some 88), .mv (.tmp 0), none⟩,
    ⟨(some 89), .bin .eql (.tmp 88) (.const (.int .i64 4)), none⟩,
    ⟨(some 90), .eqBool false (.tmp 87) (.tmp 89), none⟩,
    ⟨(some 91), .mv (.tmp 90), none⟩,
    ⟨(some 92), .load1 (.tmp 7), (some (91, true))⟩,
    ⟨(some 93), .bin .eql (.tmp 92) (.const (.int .i64 1)), (some (91, true))⟩,
    ⟨(some 94), .pick (.tmp 91) (.tmp 93) (.const (.bool false)), none⟩,
    ⟨(some 95), .mv (.tmp 94), none⟩,
    ⟨(some 96), .mv (.tmp 5), (some (95, true))⟩,
    ⟨(some 97), .call 17 [(.tmp 96)], (some (95, true))⟩,
    ⟨(some 98), .mv (.tmp 9), (some (95, true))⟩,
    ⟨(some 99), .bin .eql (.tmp 97) (.tmp 98), (some (95, true))⟩,
    ⟨(some 100), .pick (.tmp 95) (.tmp 99) (.const (.bool false)), none⟩,
    ⟨(some 101), .mv (.tmp 100), none⟩,
    ⟨(some 102), .fieldAddr 2 (.tmp 6), (some (101, true))⟩,
    ⟨(some 103), .load1 (.tmp 102), (some (101, true))⟩,
    ⟨(some 104), .mv (.tmp 0), (some (101, true))⟩,
    ⟨(some 105), .bin .eql (.tmp 103) (.tmp 104), (some (101, true))⟩,
    ⟨(some 106), .pick (.tmp 101) (.tmp 105) (.const (.bool false)), none⟩,
    ⟨(some 4), .mv (.tmp 106), none⟩])
  (.ret)))))))))))))))⟩

/-- 'hostler/hostlerlaw18.lives' -/
def F7 : AFunc := ⟨20, [.tmp 0],
  .seq (.region [
    ⟨(some 0), .mv (.const (.bool false)), none⟩])
  (.seq (.region [
    ⟨(some 4), .call 8 [(.const (.int .i64 8))], none⟩,
    ⟨(some 1), .mv (.tmp 4), none⟩])
  (.seq (.region [
    ⟨(some 5), .call 10 [], none⟩,
    ⟨(some 6), .call 9 [(.tmp 5)], none⟩,
    ⟨(some 2), .alloc [(.int .i64 0), (.int .i64 0), (.int .i64 0), (.int .u64 0), (.int .i64 0)], none⟩,
    ⟨none, .store 5 (.tmp 2) (.tmp 6), none⟩])
  (.seq (.region [
    ⟨(some 3), .mv (.const (.int .i64 0)), none⟩])
  (.seq (.block 0 (.loop (.seq (.seq (.region [
      ⟨(some 7), .fieldAddr 2 (.tmp 2), none⟩,
      ⟨(some 8), .load1 (.tmp 7), none⟩,
      ⟨(some 9), .bin .neq (.tmp 8) (.const (.int .i64 4)), none⟩,
      ⟨(some 10), .mv (.tmp 9), none⟩,
      ⟨(some 11), .mv (.tmp 3), (some (10, true))⟩,
      ⟨(some 12), .bin .lss (.tmp 11) (.const (.int .i64 9)), (some (10, true))⟩,
      ⟨(some 13), .pick (.tmp 10) (.tmp 12) (.const (.bool false)), none⟩])
    (.cond (.tmp 13)
      (.skip)
      (.exit 0)))
    (.block 1 (.seq (.region [
      ⟨(some 14), .mv (.tmp 1), none⟩,
      ⟨(some 15), .call 11 [(.tmp 2), (.tmp 14), (.const .nilfunc)], none⟩])
    (.region [
      ⟨(some 16), .mv (.tmp 3), none⟩,
      ⟨(some 17), .bin .add (.tmp 16) (.const (.int .i64 1)), none⟩,
      ⟨(some 3), .mv (.tmp 17), none⟩]))))))
  (.seq (.region [
    ⟨(some 18), .mv (.tmp 3), none⟩,
    ⟨(some 19), .bin .eql (.tmp 18) (.const (.int .i64 4)), none⟩,
    ⟨(some 0), .mv (.tmp 19), none⟩])
  (.ret))))))⟩

/-- 'hostler/cell.New' -/
def F8 : AFunc := ⟨9, [.tmp 2],
  .seq (.region [
    ⟨(some 2), .mv (.const .nilptr), none⟩])
  (.seq (.region [
    ⟨(some 3), .mv (.tmp 0), none⟩,
    ⟨(some 4), .max2 (.const (.int .i64 0)) (.tmp 3), none⟩,
    ⟨(some 5), .min2 (.tmp 4) (.const (.int .i64 65536)), none⟩,
    ⟨(some 6), .mkslice 1 8 [(.int .u64 0)] (.tmp 5) (.tmp 5), none⟩,
    ⟨(some 7), .build [.nilslice, (.int .i64 0)] [((0, 1), (.tmp 6))], none⟩,
    ⟨(some 8), .box (.tmp 7), none⟩,
    ⟨(some 2), .mv (.tmp 8), none⟩])
  (.ret))⟩

/-- 'hostler/section.Begin' -/
def F9 : AFunc := ⟨5, [.cellN 2 5],
  .seq (.region [
    ⟨(some 1), .box (.tmp 0), none⟩,
    ⟨(some 2), .alloc [(.int .i64 0), (.int .i64 0), (.int .i64 0), (.int .u64 0), (.int .i64 0)], none⟩])
  (.seq (.region [
    ⟨(some 3), .loadN 2 (.tmp 1), none⟩,
    ⟨(some 4), .build [(.int .i64 0), (.int .i64 0), (.int .i64 0), (.int .u64 0), (.int .i64 0)] [((0, 2), (.tmp 3))], none⟩,
    ⟨none, .store 5 (.tmp 2) (.tmp 4), none⟩])
  (.ret))⟩

/-- 'hostler/hostlerlaw18.lock' -/
def F10 : AFunc := ⟨6, [.cellN 0 2],
  .seq (.region [
    ⟨(some 0), .alloc [(.int .i64 0), (.int .i64 0)], none⟩])
  (.seq (.region [
    ⟨(some 1), .idxAddr 1 (some 2) (.glob 0) (.const (.int .i64 0)), none⟩,
    ⟨(some 2), .load1 (.tmp 1), none⟩,
    ⟨(some 3), .idxAddr 1 (some 2) (.glob 0) (.const (.int .i64 1)), none⟩,
    ⟨(some 4), .load1 (.tmp 3), none⟩,
    ⟨(some 5), .build [(.int .i64 0), (.int .i64 0)] [((0, 1), (.tmp 2)), ((1, 1), (.tmp 4))], none⟩,
    ⟨none, .store 2 (.tmp 0) (.tmp 5), none⟩])
  (.ret))⟩

/-- '(*hostler/section.Section).Step' -/
def F11 : AFunc := ⟨85, [.tmp 6],
  .seq (.region [
    ⟨(some 6), .mv (.const (.bool false)), none⟩])
  (.seq (.seq (.region [
    ⟨(some 8), .mv (.tmp 0), none⟩,
    ⟨(some 9), .nilCheck (.tmp 8), none⟩,
    ⟨(some 10), .fieldAddr 2 (.tmp 9), none⟩,
    ⟨(some 11), .load1 (.tmp 10), none⟩])
  (.block 0 (.seq (.region [
    ⟨(some 13), .bin .eql (.tmp 11) (.const (.int .i64 0)), none⟩,
    ⟨(some 12), .mv (.tmp 13), none⟩])
  (.cond (.tmp 12)
    (.seq (.region [
      ⟨(some 14), .mv (.tmp 0), none⟩,
      ⟨(some 15), .mv (.tmp 0), none⟩,
      ⟨(some 16), .nilCheck (.tmp 15), none⟩,
      ⟨(some 17), .fieldAddr 0 (.tmp 16), none⟩,
      ⟨(some 18), .loadN 2 (.tmp 17), none⟩,
      ⟨(some 19), .mv (.tmp 1), none⟩,
      ⟨(some 20), .call 19 [(.tmp 18), (.tmp 19)], none⟩,
      ⟨(some 21), .nilCheck (.tmp 14), none⟩,
      ⟨(some 22), .fieldAddr 3 (.tmp 21), none⟩,
      ⟨none, .store 1 (.tmp 22) (.tmp 20), none⟩])
    (.region [
      ⟨(some 23), .mv (.tmp 0), none⟩,
      ⟨(some 24), .nilCheck (.tmp 23), none⟩,
      ⟨(some 25), .fieldAddr 2 (.tmp 24), none⟩,
      ⟨none, .store 1 (.tmp 25) (.const (.int .i64 1)), none⟩]))
    (.seq (.region [
      ⟨(some 27), .bin .eql (.tmp 11) (.const (.int .i64 1)), none⟩,
      ⟨(some 26), .mv (.tmp 27), none⟩])
    (.cond (.tmp 26)
      (.seq (.draw [
        (⟨(some 28), .mv (.tmp 0), none⟩, .still),
        (⟨(some 29), .nilCheck (.tmp 28), none⟩, .still),
        (⟨(some 30), .fieldAddr 0 (.tmp 29), none⟩, .still),
        (⟨(some 31), .loadN 2 (.tmp 30), none⟩, .reads 0 0),
        (⟨(some 32), .mv (.tmp 1), none⟩, .still),
        (⟨(some 33), .mv (.tmp 0), none⟩, .still),
        (⟨(some 34), .nilCheck (.tmp 33), none⟩, .still),
        (⟨(some 35), .fieldAddr 3 (.tmp 34), none⟩, .still),
        (⟨(some 36), .load1 (.tmp 35), none⟩, .reads 0 0),
        (⟨(some 37), .call 20 [(.tmp 31), (.tmp 32), (.tmp 36)], none⟩, .loud)])
      (.cond (.tmp 37)
        (.region [
          ⟨(some 38), .mv (.tmp 0), none⟩,
          ⟨(some 39), .nilCheck (.tmp 38), none⟩,
          ⟨(some 40), .fieldAddr 2 (.tmp 39), none⟩,
          ⟨none, .store 1 (.tmp 40) (.const (.int .i64 2)), none⟩])
        (.skip)))
      (.seq (.region [
        ⟨(some 42), .bin .eql (.tmp 11) (.const (.int .i64 2)), none⟩,
        ⟨(some 41), .mv (.tmp 42), none⟩])
      (.cond (.tmp 41)
        (.seq (.region [
          ⟨(some 43), .mv (.tmp 2), none⟩,
          ⟨(some 44), .cmpNil true 3 (.tmp 43) (.const .nilfunc), none⟩,
          ⟨(some 45), .mv (.tmp 44), none⟩,
          ⟨(some 46), .mv (.tmp 2), (some (45, true))⟩,
          ⟨(some 47), .mv (.tmp 0), (some (45, true))⟩,
          ⟨(some 48), .nilCheck (.tmp 47), (some (45, true))⟩,
          ⟨(some 49), .fieldAddr 4 (.tmp 48), (some (45, true))⟩,
          ⟨(some 50), .load1 (.tmp 49), (some (45, true))⟩,
          ⟨(some 51), .callv (.tmp 46) [(.tmp 50)], (some (45, true))⟩,
          ⟨(some 52), .pick (.tmp 45) (.tmp 51) (.const (.bool false)), none⟩,
          ⟨(some 7), .mv (.tmp 52), none⟩])
        (.seq (.region [
          ⟨(some 53), .mv (.tmp 0), none⟩,
          ⟨(some 54), .nilCheck (.tmp 53), none⟩,
          ⟨(some 55), .fieldAddr 4 (.tmp 54), none⟩,
          ⟨(some 56), .load1 (.tmp 55), none⟩,
          ⟨(some 57), .bin .add (.tmp 56) (.const (.int .i64 1)), none⟩,
          ⟨(some 58), .nilCheck (.tmp 53), none⟩,
          ⟨(some 59), .fieldAddr 4 (.tmp 58), none⟩,
          ⟨none, .store 1 (.tmp 59) (.tmp 57), none⟩])
        (.seq (.region [
          ⟨(some 60), .mv (.tmp 7), none⟩,
          ⟨(some 61), .un .not (.tmp 60), none⟩])
        (.cond (.tmp 61)
          (.region [
            ⟨(some 62), .mv (.tmp 0), none⟩,
            ⟨(some 63), .nilCheck (.tmp 62), none⟩,
            ⟨(some 64), .fieldAddr 2 (.tmp 63), none⟩,
            ⟨none, .store 1 (.tmp 64) (.const (.int .i64 3)), none⟩])
          (.skip)))))
        (.seq (.region [
          ⟨(some 66), .bin .eql (.tmp 11) (.const (.int .i64 3)), none⟩,
          ⟨(some 65), .mv (.tmp 66), none⟩])
        (.cond (.tmp 65)
          (.seq (.draw [
            (⟨(some 67), .mv (.tmp 0), none⟩, .still),
            (⟨(some 68), .nilCheck (.tmp 67), none⟩, .still),
            (⟨(some 69), .fieldAddr 0 (.tmp 68), none⟩, .still),
            (⟨(some 70), .loadN 2 (.tmp 69), none⟩, .reads 0 0),
            (⟨(some 71), .mv (.tmp 1), none⟩, .still),
            (⟨(some 72), .mv (.tmp 0), none⟩, .still),
            (⟨(some 73), .nilCheck (.tmp 72), none⟩, .still),
            (⟨(some 74), .fieldAddr 3 (.tmp 73), none⟩, .still),
            (⟨(some 75), .load1 (.tmp 74), none⟩, .reads 0 0),
            (⟨(some 76), .call 21 [(.tmp 70), (.tmp 71), (.tmp 75)], none⟩, .loud)])
          (.region [
            ⟨(some 77), .mv (.tmp 0), none⟩,
            ⟨(some 78), .nilCheck (.tmp 77), none⟩,
            ⟨(some 79), .fieldAddr 2 (.tmp 78), none⟩,
            ⟨none, .store 1 (.tmp 79) (.const (.int .i64 4)), none⟩]))
          (.skip)))))))))))
  (.seq (.region [
    ⟨(some 80), .mv (.tmp 0), none⟩,
    ⟨(some 81), .nilCheck (.tmp 80), none⟩,
    ⟨(some 82), .fieldAddr 2 (.tmp 81), none⟩,
    ⟨(some 83), .load1 (.tmp 82), none⟩,
    ⟨(some 84), .bin .eql (.tmp 83) (.const (.int .i64 4)), none⟩,
    ⟨(some 6), .mv (.tmp 84), none⟩])
  (.ret)))⟩

/-- 'hostler/hostlerlaw18.SectionTimes$1' -/
def F12 : AFunc := ⟨14, [.tmp 5],
  .seq (.region [
    ⟨(some 5), .mv (.const (.bool false)), none⟩])
  (.seq (.region [
    ⟨(some 6), .mv (.tmp 0), none⟩,
    ⟨(some 7), .load1 (.tmp 1), none⟩,
    ⟨(some 8), .bin .eql (.tmp 6) (.tmp 7), none⟩,
    ⟨none, .store 1 (.tmp 2) (.tmp 8), none⟩])
  (.seq (.region [
    ⟨(some 9), .load1 (.tmp 1), none⟩,
    ⟨(some 10), .bin .add (.tmp 9) (.const (.int .i64 1)), none⟩,
    ⟨none, .store 1 (.tmp 1) (.tmp 10), none⟩])
  (.seq (.region [
    ⟨(some 11), .load1 (.tmp 1), none⟩,
    ⟨(some 12), .load1 (.tmp 3), none⟩,
    ⟨(some 13), .bin .lss (.tmp 11) (.tmp 12), none⟩,
    ⟨(some 5), .mv (.tmp 13), none⟩])
  (.ret))))⟩

/-- '(hostler/ticket.Lock).Busy' -/
def F13 : AFunc := ⟨14, [.tmp 4],
  .seq (.region [
    ⟨(some 2), .box (.tmp 0), none⟩,
    ⟨(some 4), .mv (.const (.bool false)), none⟩])
  (.seq (.draw [
    (⟨(some 5), .mv (.tmp 1), none⟩, .still),
    (⟨(some 6), .fieldAddr 0 (.tmp 2), none⟩, .still),
    (⟨(some 7), .load1 (.tmp 6), none⟩, .reads 0 0),
    (⟨(some 8), .call 18 [(.tmp 5), (.tmp 7)], none⟩, .loud),
    (⟨(some 9), .mv (.tmp 1), none⟩, .still),
    (⟨(some 10), .fieldAddr 1 (.tmp 2), none⟩, .still),
    (⟨(some 11), .load1 (.tmp 10), none⟩, .reads 0 1),
    (⟨(some 12), .call 18 [(.tmp 9), (.tmp 11)], none⟩, .loud),
    (⟨(some 13), .bin .neq (.tmp 8) (.tmp 12), none⟩, .still),
    (⟨(some 4), .mv (.tmp 13), none⟩, .still)])
  (.ret))⟩

/-- 'hostler/hostlerlaw18.SectionAll$1' -/
def F14 : AFunc := ⟨14, [.tmp 5],
  .seq (.region [
    ⟨(some 5), .mv (.const (.bool false)), none⟩])
  (.seq (.region [
    ⟨(some 6), .load1 (.tmp 1), none⟩,
    ⟨(some 7), .load1 (.tmp 2), none⟩,
    ⟨(some 8), .buildSlice [(.int .i64 0)] 1 [((0, 1), (.tmp 7))], none⟩,
    ⟨(some 9), .append 1 8 [(.int .i64 0)] (.tmp 6) (.tmp 8), none⟩,
    ⟨none, .store 1 (.tmp 1) (.tmp 9), none⟩])
  (.seq (.region [
    ⟨(some 10), .mv (.tmp 0), none⟩,
    ⟨(some 11), .bin .add (.tmp 10) (.const (.int .i64 1)), none⟩,
    ⟨(some 12), .load1 (.tmp 3), none⟩,
    ⟨(some 13), .bin .lss (.tmp 11) (.tmp 12), none⟩,
    ⟨(some 5), .mv (.tmp 13), none⟩])
  (.ret)))⟩

/-- '(*hostler/cell.Memory).Store' -/
def F15 : AFunc := ⟨18, [.tmp 6],
  .seq (.region [
    ⟨(some 6), .mv (.const (.bool false)), none⟩])
  (.seq (.region [
    ⟨(some 8), .mv (.tmp 0), none⟩,
    ⟨(some 9), .mv (.tmp 1), none⟩,
    ⟨(some 10), .call 22 [(.tmp 8), (.tmp 9)], none⟩,
    ⟨(some 7), .mv (.tmp 10), none⟩])
  (.seq (.seq (.region [
    ⟨(some 11), .mv (.tmp 7), none⟩,
    ⟨(some 12), .cmpNil true 0 (.tmp 11) (.const .nilptr), none⟩])
  (.cond (.tmp 12)
    (.region [
      ⟨(some 13), .mv (.tmp 7), none⟩,
      ⟨(some 14), .mv (.tmp 2), none⟩,
      ⟨(some 15), .nilCheck (.tmp 13), none⟩,
      ⟨none, .store 1 (.tmp 15) (.tmp 14), none⟩])
    (.skip)))
  (.seq (.region [
    ⟨(some 16), .mv (.tmp 7), none⟩,
    ⟨(some 17), .cmpNil true 0 (.tmp 16) (.const .nilptr), none⟩,
    ⟨(some 6), .mv (.tmp 17), none⟩])
  (.ret))))⟩

/-- 'hostler/hostlerlaw18.SectionOver$1' -/
def F16 : AFunc := ⟨6, [.tmp 3],
  .seq (.region [
    ⟨(some 3), .mv (.const (.bool false)), none⟩])
  (.seq (.region [
    ⟨(some 4), .load1 (.tmp 1), none⟩,
    ⟨(some 5), .bin .add (.tmp 4) (.const (.int .i64 1)), none⟩,
    ⟨none, .store 1 (.tmp 1) (.tmp 5), none⟩])
  (.seq (.region [
    ⟨(some 3), .mv (.const (.bool false)), none⟩])
  (.ret)))⟩

/-- '(*hostler/cell.Memory).Count' -/
def F17 : AFunc := ⟨9, [.tmp 2],
  .seq (.region [
    ⟨(some 2), .mv (.const (.int .i64 0)), none⟩])
  (.seq (.seq (.region [
    ⟨(some 3), .mv (.tmp 0), none⟩,
    ⟨(some 4), .cmpNil false 0 (.tmp 3) (.const .nilptr), none⟩])
  (.cond (.tmp 4)
    (.seq (.region [
      ⟨(some 2), .mv (.const (.int .i64 0)), none⟩])
    (.ret))
    (.skip)))
  (.seq (.region [
    ⟨(some 5), .mv (.tmp 0), none⟩,
    ⟨(some 6), .nilCheck (.tmp 5), none⟩,
    ⟨(some 7), .fieldAddr 1 (.tmp 6), none⟩,
    ⟨(some 8), .load1 (.tmp 7), none⟩,
    ⟨(some 2), .mv (.tmp 8), none⟩])
  (.ret)))⟩

/-- '(*hostler/cell.Memory).Load' -/
def F18 : AFunc := ⟨14, [.tmp 4],
  .seq (.region [
    ⟨(some 4), .mv (.const (.int .u64 0)), none⟩])
  (.seq (.seq (.region [
    ⟨(some 6), .mv (.tmp 0), none⟩,
    ⟨(some 7), .mv (.tmp 1), none⟩,
    ⟨(some 8), .call 22 [(.tmp 6), (.tmp 7)], none⟩,
    ⟨(some 5), .mv (.tmp 8), none⟩])
  (.seq (.region [
    ⟨(some 9), .mv (.tmp 5), none⟩,
    ⟨(some 10), .cmpNil true 0 (.tmp 9) (.const .nilptr), none⟩])
  (.cond (.tmp 10)
    (.seq (.region [
      ⟨(some 11), .mv (.tmp 5), none⟩,
      ⟨(some 12), .nilCheck (.tmp 11), none⟩,
      ⟨(some 13), .load1 (.tmp 12), none⟩,
      ⟨(some 4), .mv (.tmp 13), none⟩])
    (.ret))
    (.skip))))
  (.seq (.region [
    ⟨(some 4), .mv (.const (.int .u64 0)), none⟩])
  (.ret)))⟩

/-- '(hostler/ticket.Lock).Take' -/
def F19 : AFunc := ⟨10, [.tmp 4],
  .seq (.region [
    ⟨(some 2), .box (.tmp 0), none⟩,
    ⟨(some 4), .mv (.const (.int .u64 0)), none⟩])
  (.seq (.region [
    ⟨(some 5), .mv (.tmp 1), none⟩,
    ⟨(some 6), .fieldAddr 0 (.tmp 2), none⟩,
    ⟨(some 7), .load1 (.tmp 6), none⟩,
    ⟨(some 8), .call 23 [(.tmp 5), (.tmp 7), (.const (.int .i64 1))], none⟩,
    ⟨(some 9), .bin .sub (.tmp 8) (.const (.int .u64 1)), none⟩,
    ⟨(some 4), .mv (.tmp 9), none⟩])
  (.ret))⟩

/-- '(hostler/ticket.Lock).Held' -/
def F20 : AFunc := ⟨12, [.tmp 6],
  .seq (.region [
    ⟨(some 3), .box (.tmp 0), none⟩,
    ⟨(some 6), .mv (.const (.bool false)), none⟩])
  (.seq (.region [
    ⟨(some 7), .loadN 2 (.tmp 3), none⟩,
    ⟨(some 8), .mv (.tmp 1), none⟩,
    ⟨(some 9), .mv (.tmp 2), none⟩,
    ⟨(some 10), .call 24 [(.tmp 7), (.tmp 8), (.tmp 9)], none⟩,
    ⟨(some 11), .bin .eql (.tmp 10) (.const (.int .u64 0)), none⟩,
    ⟨(some 6), .mv (.tmp 11), none⟩])
  (.ret))⟩

/-- '(hostler/ticket.Lock).Free' -/
def F21 : AFunc := ⟨19, [.tmp 6],
  .seq (.region [
    ⟨(some 3), .box (.tmp 0), none⟩,
    ⟨(some 6), .mv (.const (.bool false)), none⟩])
  (.seq (.region [
    ⟨(some 7), .loadN 2 (.tmp 3), none⟩,
    ⟨(some 8), .mv (.tmp 1), none⟩,
    ⟨(some 9), .mv (.tmp 2), none⟩,
    ⟨(some 10), .call 20 [(.tmp 7), (.tmp 8), (.tmp 9)], none⟩,
    ⟨(some 11), .mv (.tmp 10), none⟩,
    ⟨(some 12), .mv (.tmp 1), (some (11, true))⟩,
    ⟨(some 13), .fieldAddr 1 (.tmp 3), (some (11, true))⟩,
    ⟨(some 14), .load1 (.tmp 13), (some (11, true))⟩,
    ⟨(some 15), .mv (.tmp 2), (some (11, true))⟩,
    ⟨(some 16), .bin .add (.tmp 15) (.const (.int .u64 1)), (some (11, true))⟩,
    ⟨(some 17), .call 15 [(.tmp 12), (.tmp 14), (.tmp 16)], (some (11, true))⟩,
    ⟨(some 18), .pick (.tmp 11) (.tmp 17) (.const (.bool false)), none⟩,
    ⟨(some 6), .mv (.tmp 18), none⟩])
  (.ret))⟩

/-- '(*hostler/cell.Memory).at' -/
def F22 : AFunc := ⟨26, [.tmp 4],
  .seq (.region [
    ⟨(some 4), .mv (.const .nilptr), none⟩])
  (.seq (.seq (.region [
    ⟨(some 5), .mv (.tmp 1), none⟩,
    ⟨(some 6), .bin .lss (.tmp 5) (.const (.int .i64 0)), none⟩,
    ⟨(some 7), .mv (.tmp 6), none⟩,
    ⟨(some 8), .mv (.tmp 1), (some (7, false))⟩,
    ⟨(some 9), .mv (.tmp 0), (some (7, false))⟩,
    ⟨(some 10), .call 25 [(.tmp 9)], (some (7, false))⟩,
    ⟨(some 11), .bin .geq (.tmp 8) (.tmp 10), (some (7, false))⟩,
    ⟨(some 12), .pick (.tmp 7) (.const (.bool true)) (.tmp 11), none⟩])
  (.cond (.tmp 12)
    (.seq (.region [
      ⟨(some 4), .mv (.const .nilptr), none⟩])
    (.ret))
    (.skip)))
  (.seq (.region [
    ⟨(some 13), .mv (.tmp 0), none⟩,
    ⟨(some 14), .nilCheck (.tmp 13), none⟩,
    ⟨(some 15), .fieldAddr 1 (.tmp 14), none⟩,
    ⟨(some 16), .load1 (.tmp 15), none⟩,
    ⟨(some 17), .bin .add (.tmp 16) (.const (.int .i64 1)), none⟩,
    ⟨(some 18), .nilCheck (.tmp 13), none⟩,
    ⟨(some 19), .fieldAddr 1 (.tmp 18), none⟩,
    ⟨none, .store 1 (.tmp 19) (.tmp 17), none⟩])
  (.seq (.region [
    ⟨(some 20), .mv (.tmp 0), none⟩,
    ⟨(some 21), .nilCheck (.tmp 20), none⟩,
    ⟨(some 22), .fieldAddr 0 (.tmp 21), none⟩,
    ⟨(some 23), .load1 (.tmp 22), none⟩,
    ⟨(some 24), .mv (.tmp 1), none⟩,
    ⟨(some 25), .idxAddr 1 none (.tmp 23) (.tmp 24), none⟩,
    ⟨(some 4), .mv (.tmp 25), none⟩])
  (.ret))))⟩

/-- '(*hostler/cell.Memory).Add' -/
def F23 : AFunc := ⟨23, [.tmp 6],
  .seq (.region [
    ⟨(some 6), .mv (.const (.int .u64 0)), none⟩])
  (.seq (.region [
    ⟨(some 8), .mv (.tmp 0), none⟩,
    ⟨(some 9), .mv (.tmp 1), none⟩,
    ⟨(some 10), .call 22 [(.tmp 8), (.tmp 9)], none⟩,
    ⟨(some 7), .mv (.tmp 10), none⟩])
  (.seq (.seq (.region [
    ⟨(some 11), .mv (.tmp 7), none⟩,
    ⟨(some 12), .cmpNil false 0 (.tmp 11) (.const .nilptr), none⟩])
  (.cond (.tmp 12)
    (.seq (.region [
      ⟨(some 6), .mv (.const (.int .u64 0)), none⟩])
    (.ret))
    (.skip)))
  (.seq (.region [
    ⟨(some 13), .mv (.tmp 7), none⟩,
    ⟨(some 14), .nilCheck (.tmp 13), none⟩,
    ⟨(some 15), .load1 (.tmp 14), none⟩,
    ⟨(some 16), .mv (.tmp 2), none⟩,
    ⟨(some 17), .toInt .u64 (.tmp 16), none⟩,
    ⟨(some 18), .bin .add (.tmp 15) (.tmp 17), none⟩,
    ⟨(some 19), .nilCheck (.tmp 13), none⟩,
    ⟨none, .store 1 (.tmp 19) (.tmp 18), none⟩])
  (.seq (.region [
    ⟨(some 20), .mv (.tmp 7), none⟩,
    ⟨(some 21), .nilCheck (.tmp 20), none⟩,
    ⟨(some 22), .load1 (.tmp 21), none⟩,
    ⟨(some 6), .mv (.tmp 22), none⟩])
  (.ret)))))⟩

/-- '(hostler/ticket.Lock).Ahead' -/
def F24 : AFunc := ⟨13, [.tmp 6],
  .seq (.region [
    ⟨(some 3), .box (.tmp 0), none⟩,
    ⟨(some 6), .mv (.const (.int .u64 0)), none⟩])
  (.seq (.region [
    ⟨(some 7), .mv (.tmp 2), none⟩,
    ⟨(some 8), .mv (.tmp 1), none⟩,
    ⟨(some 9), .fieldAddr 1 (.tmp 3), none⟩,
    ⟨(some 10), .load1 (.tmp 9), none⟩,
    ⟨(some 11), .call 18 [(.tmp 8), (.tmp 10)], none⟩,
    ⟨(some 12), .bin .sub (.tmp 7) (.tmp 11), none⟩,
    ⟨(some 6), .mv (.tmp 12), none⟩])
  (.ret))⟩

/-- '(*hostler/cell.Memory).Len' -/
def F25 : AFunc := ⟨10, [.tmp 2],
  .seq (.region [
    ⟨(some 2), .mv (.const (.int .i64 0)), none⟩])
  (.seq (.seq (.region [
    ⟨(some 3), .mv (.tmp 0), none⟩,
    ⟨(some 4), .cmpNil false 0 (.tmp 3) (.const .nilptr), none⟩])
  (.cond (.tmp 4)
    (.seq (.region [
      ⟨(some 2), .mv (.const (.int .i64 0)), none⟩])
    (.ret))
    (.skip)))
  (.seq (.region [
    ⟨(some 5), .mv (.tmp 0), none⟩,
    ⟨(some 6), .nilCheck (.tmp 5), none⟩,
    ⟨(some 7), .fieldAddr 0 (.tmp 6), none⟩,
    ⟨(some 8), .load1 (.tmp 7), none⟩,
    ⟨(some 9), .lenS (.tmp 8), none⟩,
    ⟨(some 2), .mv (.tmp 9), none⟩])
  (.ret)))⟩

/-- 'gosem.cut.vars' -/
def F46 : AFunc := ⟨1, [],
  .region [
    ⟨(some 0), .build [(.int .i64 0), (.int .i64 0)] [((0, 1), (.const (.int .i64 2))), ((1, 1), (.const (.int .i64 5)))], none⟩,
    ⟨none, .store 2 (.glob 0) (.tmp 0), none⟩]⟩

def T : ATable := fun f => match f with
  | 3 => some F3
  | 4 => some F4
  | 5 => some F5
  | 6 => some F6
  | 7 => some F7
  | 8 => some F8
  | 9 => some F9
  | 10 => some F10
  | 11 => some F11
  | 12 => some F12
  | 13 => some F13
  | 14 => some F14
  | 15 => some F15
  | 16 => some F16
  | 17 => some F17
  | 18 => some F18
  | 19 => some F19
  | 20 => some F20
  | 21 => some F21
  | 22 => some F22
  | 23 => some F23
  | 24 => some F24
  | 25 => some F25
  | 46 => some F46
  | _ => none

theorem T_3 : T 3 = some F3 := rfl
theorem T_4 : T 4 = some F4 := rfl
theorem T_5 : T 5 = some F5 := rfl
theorem T_6 : T 6 = some F6 := rfl
theorem T_7 : T 7 = some F7 := rfl
theorem T_8 : T 8 = some F8 := rfl
theorem T_9 : T 9 = some F9 := rfl
theorem T_10 : T 10 = some F10 := rfl
theorem T_11 : T 11 = some F11 := rfl
theorem T_12 : T 12 = some F12 := rfl
theorem T_13 : T 13 = some F13 := rfl
theorem T_14 : T 14 = some F14 := rfl
theorem T_15 : T 15 = some F15 := rfl
theorem T_16 : T 16 = some F16 := rfl
theorem T_17 : T 17 = some F17 := rfl
theorem T_18 : T 18 = some F18 := rfl
theorem T_19 : T 19 = some F19 := rfl
theorem T_20 : T 20 = some F20 := rfl
theorem T_21 : T 21 = some F21 := rfl
theorem T_22 : T 22 = some F22 := rfl
theorem T_23 : T 23 = some F23 := rfl
theorem T_24 : T 24 = some F24 := rfl
theorem T_25 : T 25 = some F25 := rfl
theorem T_46 : T 46 = some F46 := rfl

set_option maxRecDepth 100000 in
theorem comp_3 : compFunc Tryd.prog 1 Tryd.f3 = some F3 := by kernel_rfl
set_option maxRecDepth 100000 in
theorem comp_4 : compFunc Tryd.prog 1 Tryd.f4 = some F4 := by kernel_rfl
set_option maxRecDepth 100000 in
theorem comp_5 : compFunc Tryd.prog 1 Tryd.f5 = some F5 := by kernel_rfl
set_option maxRecDepth 100000 in
theorem comp_6 : compFunc Tryd.prog 1 Tryd.f6 = some F6 := by kernel_rfl
set_option maxRecDepth 100000 in
theorem comp_7 : compFunc Tryd.prog 1 Tryd.f7 = some F7 := by kernel_rfl
set_option maxRecDepth 100000 in
theorem comp_8 : compFunc Tryd.prog 1 Tryd.f8 = some F8 := by kernel_rfl
set_option maxRecDepth 100000 in
theorem comp_9 : compFunc Tryd.prog 1 Tryd.f9 = some F9 := by kernel_rfl
set_option maxRecDepth 100000 in
theorem comp_10 : compFunc Tryd.prog 1 Tryd.f10 = some F10 := by kernel_rfl
set_option maxRecDepth 100000 in
theorem comp_11 : compFunc Tryd.prog 1 Tryd.f11 = some F11 := by kernel_rfl
set_option maxRecDepth 100000 in
theorem comp_12 : compFunc Tryd.prog 1 Tryd.f12 = some F12 := by kernel_rfl
set_option maxRecDepth 100000 in
theorem comp_13 : compFunc Tryd.prog 1 Tryd.f13 = some F13 := by kernel_rfl
set_option maxRecDepth 100000 in
theorem comp_14 : compFunc Tryd.prog 1 Tryd.f14 = some F14 := by kernel_rfl
set_option maxRecDepth 100000 in
theorem comp_15 : compFunc Tryd.prog 1 Tryd.f15 = some F15 := by kernel_rfl
set_option maxRecDepth 100000 in
theorem comp_16 : compFunc Tryd.prog 1 Tryd.f16 = some F16 := by kernel_rfl
set_option maxRecDepth 100000 in
theorem comp_17 : compFunc Tryd.prog 1 Tryd.f17 = some F17 := by kernel_rfl
set_option maxRecDepth 100000 in
theorem comp_18 : compFunc Tryd.prog 1 Tryd.f18 = some F18 := by kernel_rfl
set_option maxRecDepth 100000 in
theorem comp_19 : compFunc Tryd.prog 1 Tryd.f19 = some F19 := by kernel_rfl
set_option maxRecDepth 100000 in
theorem comp_20 : compFunc Tryd.prog 1 Tryd.f20 = some F20 := by kernel_rfl
set_option maxRecDepth 100000 in
theorem comp_21 : compFunc Tryd.prog 1 Tryd.f21 = some F21 := by kernel_rfl
set_option maxRecDepth 100000 in
theorem comp_22 : compFunc Tryd.prog 1 Tryd.f22 = some F22 := by kernel_rfl
set_option maxRecDepth 100000 in
theorem comp_23 : compFunc Tryd.prog 1 Tryd.f23 = some F23 := by kernel_rfl
set_option maxRecDepth 100000 in
theorem comp_24 : compFunc Tryd.prog 1 Tryd.f24 = some F24 := by kernel_rfl
set_option maxRecDepth 100000 in
theorem comp_25 : compFunc Tryd.prog 1 Tryd.f25 = some F25 := by kernel_rfl
set_option maxRecDepth 100000 in
theorem comp_46 : compFunc Tryd.prog 1 Tryd.f46 = some F46 := by kernel_rfl
theorem in_3 : F3.body.within F3.ntmps = true := by kernel_rfl
theorem in_4 : F4.body.within F4.ntmps = true := by kernel_rfl
theorem in_5 : F5.body.within F5.ntmps = true := by kernel_rfl
theorem in_6 : F6.body.within F6.ntmps = true := by kernel_rfl
theorem in_7 : F7.body.within F7.ntmps = true := by kernel_rfl
theorem in_8 : F8.body.within F8.ntmps = true := by kernel_rfl
theorem in_9 : F9.body.within F9.ntmps = true := by kernel_rfl
theorem in_10 : F10.body.within F10.ntmps = true := by kernel_rfl
theorem in_11 : F11.body.within F11.ntmps = true := by kernel_rfl
theorem in_12 : F12.body.within F12.ntmps = true := by kernel_rfl
theorem in_13 : F13.body.within F13.ntmps = true := by kernel_rfl
theorem in_14 : F14.body.within F14.ntmps = true := by kernel_rfl
theorem in_15 : F15.body.within F15.ntmps = true := by kernel_rfl
theorem in_16 : F16.body.within F16.ntmps = true := by kernel_rfl
theorem in_17 : F17.body.within F17.ntmps = true := by kernel_rfl
theorem in_18 : F18.body.within F18.ntmps = true := by kernel_rfl
theorem in_19 : F19.body.within F19.ntmps = true := by kernel_rfl
theorem in_20 : F20.body.within F20.ntmps = true := by kernel_rfl
theorem in_21 : F21.body.within F21.ntmps = true := by kernel_rfl
theorem in_22 : F22.body.within F22.ntmps = true := by kernel_rfl
theorem in_23 : F23.body.within F23.ntmps = true := by kernel_rfl
theorem in_24 : F24.body.within F24.ntmps = true := by kernel_rfl
theorem in_25 : F25.body.within F25.ntmps = true := by kernel_rfl
theorem in_46 : F46.body.within F46.ntmps = true := by kernel_rfl

theorem table_in : TableIn T := by
  intro f F h
  unfold T at h
  split at h
  · cases h; exact in_3
  · cases h; exact in_4
  · cases h; exact in_5
  · cases h; exact in_6
  · cases h; exact in_7
  · cases h; exact in_8
  · cases h; exact in_9
  · cases h; exact in_10
  · cases h; exact in_11
  · cases h; exact in_12
  · cases h; exact in_13
  · cases h; exact in_14
  · cases h; exact in_15
  · cases h; exact in_16
  · cases h; exact in_17
  · cases h; exact in_18
  · cases h; exact in_19
  · cases h; exact in_20
  · cases h; exact in_21
  · cases h; exact in_22
  · cases h; exact in_23
  · cases h; exact in_24
  · cases h; exact in_25
  · cases h; exact in_46
  · cases h

theorem table_ok : TableOk Tryd.prog 1 T := by
  intro f F h
  unfold T at h
  split at h
  · cases h; exact ⟨Tryd.f3, Tryd.func3, comp_3⟩
  · cases h; exact ⟨Tryd.f4, Tryd.func4, comp_4⟩
  · cases h; exact ⟨Tryd.f5, Tryd.func5, comp_5⟩
  · cases h; exact ⟨Tryd.f6, Tryd.func6, comp_6⟩
  · cases h; exact ⟨Tryd.f7, Tryd.func7, comp_7⟩
  · cases h; exact ⟨Tryd.f8, Tryd.func8, comp_8⟩
  · cases h; exact ⟨Tryd.f9, Tryd.func9, comp_9⟩
  · cases h; exact ⟨Tryd.f10, Tryd.func10, comp_10⟩
  · cases h; exact ⟨Tryd.f11, Tryd.func11, comp_11⟩
  · cases h; exact ⟨Tryd.f12, Tryd.func12, comp_12⟩
  · cases h; exact ⟨Tryd.f13, Tryd.func13, comp_13⟩
  · cases h; exact ⟨Tryd.f14, Tryd.func14, comp_14⟩
  · cases h; exact ⟨Tryd.f15, Tryd.func15, comp_15⟩
  · cases h; exact ⟨Tryd.f16, Tryd.func16, comp_16⟩
  · cases h; exact ⟨Tryd.f17, Tryd.func17, comp_17⟩
  · cases h; exact ⟨Tryd.f18, Tryd.func18, comp_18⟩
  · cases h; exact ⟨Tryd.f19, Tryd.func19, comp_19⟩
  · cases h; exact ⟨Tryd.f20, Tryd.func20, comp_20⟩
  · cases h; exact ⟨Tryd.f21, Tryd.func21, comp_21⟩
  · cases h; exact ⟨Tryd.f22, Tryd.func22, comp_22⟩
  · cases h; exact ⟨Tryd.f23, Tryd.func23, comp_23⟩
  · cases h; exact ⟨Tryd.f24, Tryd.func24, comp_24⟩
  · cases h; exact ⟨Tryd.f25, Tryd.func25, comp_25⟩
  · cases h; exact ⟨Tryd.f46, Tryd.func46, comp_46⟩
  · cases h

end Go.Proofs.YtjieccliblmgcaaDoor.Ev
