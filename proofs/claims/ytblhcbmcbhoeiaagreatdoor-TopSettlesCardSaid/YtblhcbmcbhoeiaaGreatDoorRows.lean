/-
  NARROWER THAN 'FOR EVERY INPUT', by the rows' own cells (each row's printed sentence says how): TopLost: laid · TopPong: laid · TopSpread: laid · TopEnd: laid · TopSettles: laid.
  DERIVED. THE GIVEN ROWS OF THIS SEAT. 5 by the template 'for every input the law returns true; each argument reads behind the call as it read before'; 0 by the template 'total and deterministic' (their statements: YtblhcbmcbhoeiaaGreatDoorTotals.lean).
  GIVEN WITH THE SEED: the statements are not yours to turn. If you find one false, say at which input.
  Laid BY PROGRAM, IN A SANDBOX (cutbox-rows.mjs): the forced cells as the released guide's own fill.sh prints them over the translation 66e8cd6283f70bc7… (all of the seat's roots in one cut). By AI agents, Wed Nov 11 2026. No macro, syntax, notation, axiom, sorry.
-/
import Derived.Test.YtblhcbmcbhoeiaaGreatDoorChecked
import GoSem.Claim
import GoSem.ClaimJoined
import GoSem.ClaimMapViews
import Derived.JoinedTies
import Derived.KernelRfl
namespace Go.Proofs.YtblhcbmcbhoeiaaGreatDoor
/- THE CELL 'sum', in the pinned program and in every row, IS THE sha256 OF THE DUMP (.gsa) THAT YtblhcbmcbhoeiaaGreatDoorProg.lean LOADS. Nothing in Lean hashes anything: it is a label: what it is worth is what the hold of that sum in a sandbox is worth. -/
noncomputable def Tryz.pinned : Pinned := { name := "ytblhcbmcbhoeiaagreatdoor", sum := "66e8cd6283f70bc714c3afa747c3ac75f361dabe611521e85e5b22b556c642d7", checked := Tryz.checked }
namespace Rows
def none {H : Type} : Left H := { results := [], args := [] }

/- WHAT THE LISTED PACKAGE-LEVEL VARIABLES READ AS WHEN THE CALL BEGINS. Each datum BY PROGRAM (the guide's laid-datum.mjs) off the statement by which the dump's own 'gosem.cut.vars' lays the variable. In a bare row this is a premise. The card (YtblhcbmcbhoeiaaGreatDoorCards.lean) ties it to the program's text. -/
def laid_math_bits_deBruijn64tab {H : Type} : DataW H := .agg [.lit (.int .u8 0), .lit (.int .u8 1), .lit (.int .u8 56), .lit (.int .u8 2), .lit (.int .u8 57), .lit (.int .u8 49), .lit (.int .u8 28), .lit (.int .u8 3), .lit (.int .u8 61), .lit (.int .u8 58), .lit (.int .u8 42), .lit (.int .u8 50), .lit (.int .u8 38), .lit (.int .u8 29), .lit (.int .u8 17), .lit (.int .u8 4), .lit (.int .u8 62), .lit (.int .u8 47), .lit (.int .u8 59), .lit (.int .u8 36), .lit (.int .u8 45), .lit (.int .u8 43), .lit (.int .u8 51), .lit (.int .u8 22), .lit (.int .u8 53), .lit (.int .u8 39), .lit (.int .u8 33), .lit (.int .u8 30), .lit (.int .u8 24), .lit (.int .u8 18), .lit (.int .u8 12), .lit (.int .u8 5), .lit (.int .u8 63), .lit (.int .u8 55), .lit (.int .u8 48), .lit (.int .u8 27), .lit (.int .u8 60), .lit (.int .u8 41), .lit (.int .u8 37), .lit (.int .u8 16), .lit (.int .u8 46), .lit (.int .u8 35), .lit (.int .u8 44), .lit (.int .u8 21), .lit (.int .u8 52), .lit (.int .u8 32), .lit (.int .u8 23), .lit (.int .u8 11), .lit (.int .u8 54), .lit (.int .u8 26), .lit (.int .u8 40), .lit (.int .u8 15), .lit (.int .u8 34), .lit (.int .u8 20), .lit (.int .u8 31), .lit (.int .u8 10), .lit (.int .u8 25), .lit (.int .u8 14), .lit (.int .u8 19), .lit (.int .u8 9), .lit (.int .u8 13), .lit (.int .u8 8), .lit (.int .u8 7), .lit (.int .u8 6)]
def laid_hostler_status_next {H : Type} : DataW H := .agg [.slice [.lit (.int .u64 1)] [], .slice [.lit (.int .u64 2)] [], .slice [.lit (.int .u64 1), .lit (.int .u64 3), .lit (.int .u64 4), .lit (.int .u64 5), .lit (.int .u64 6)] [], .slice [.lit (.int .u64 1)] [], .slice [.lit (.int .u64 1)] [], .slice [.lit (.int .u64 1)] [], .slice [] []]
def laid_hostler_event_all {H : Type} : DataW H := .agg [.agg [.lit (.string [115, 112, 97, 119, 110]), .lit (.int .u64 0), .lit (.int .u64 1)], .agg [.lit (.string [114, 101, 97, 100, 121]), .lit (.int .u64 0), .lit (.int .u64 1)], .agg [.lit (.string [100, 105, 115, 112, 97, 116, 99, 104]), .lit (.int .u64 1), .lit (.int .u64 2)], .agg [.lit (.string [121, 105, 101, 108, 100]), .lit (.int .u64 2), .lit (.int .u64 1)], .agg [.lit (.string [98, 108, 111, 99, 107]), .lit (.int .u64 2), .lit (.int .u64 3)], .agg [.lit (.string [115, 108, 101, 101, 112]), .lit (.int .u64 2), .lit (.int .u64 4)], .agg [.lit (.string [119, 97, 105, 116]), .lit (.int .u64 2), .lit (.int .u64 5)], .agg [.lit (.string [101, 120, 105, 116]), .lit (.int .u64 2), .lit (.int .u64 6)]]
def laid_hostler_mach_places {H : Type} : DataW H := .agg [.agg [.lit (.string [101, 120, 101, 99]), .lit (.int .i64 0)], .agg [.lit (.string [115, 99, 104, 101, 100]), .lit (.int .i64 0)], .agg [.lit (.string [111, 110, 101]), .lit (.int .i64 1)], .agg [.lit (.string [108, 111, 99, 97, 108]), .lit (.int .i64 2)], .agg [.lit (.string [103, 108, 111, 98, 97, 108]), .lit (.int .i64 1)], .agg [.lit (.string [115, 112, 105, 110, 117, 112]), .lit (.int .i64 0)], .agg [.lit (.string [115, 116, 101, 97, 108]), .lit (.int .i64 3)], .agg [.lit (.string [114, 101, 108, 101, 97, 115, 101]), .lit (.int .i64 1)], .agg [.lit (.string [100, 114, 111, 112]), .lit (.int .i64 0)], .agg [.lit (.string [108, 111, 111, 107]), .lit (.int .i64 4)], .agg [.lit (.string [108, 111, 111, 107, 103, 108, 111, 98, 97, 108]), .lit (.int .i64 1)], .agg [.lit (.string [114, 101, 116, 97, 107, 101]), .lit (.int .i64 1)], .agg [.lit (.string [115, 112, 105, 110, 98, 97, 99, 107]), .lit (.int .i64 0)], .agg [.lit (.string [115, 116, 111, 112]), .lit (.int .i64 1)], .agg [.lit (.string [99, 104, 101, 99, 107]), .lit (.int .i64 5)], .agg [.lit (.string [117, 110, 112, 111, 108, 108]), .lit (.int .i64 1)], .agg [.lit (.string [115, 108, 101, 101, 112]), .lit (.int .i64 0)], .agg [.lit (.string [112, 117, 116, 114, 101, 115, 116]), .lit (.int .i64 2)], .agg [.lit (.string [112, 117, 116, 111, 118, 101, 114]), .lit (.int .i64 1)], .agg [.lit (.string [117, 110, 115, 112, 105, 110]), .lit (.int .i64 0)], .agg [.lit (.string [100, 105, 115, 112, 97, 116, 99, 104]), .lit (.int .i64 0)], .agg [.lit (.string [108, 111, 97, 100]), .lit (.int .i64 0)], .agg [.lit (.string [99, 108, 97, 105, 109]), .lit (.int .i64 0)], .agg [.lit (.string [102, 105, 110, 100]), .lit (.int .i64 1)], .agg [.lit (.string [119, 97, 107, 101]), .lit (.int .i64 0)], .agg [.lit (.string [100, 101, 108, 105, 118, 101, 114]), .lit (.int .i64 5)], .agg [.lit (.string [109, 97, 114, 107]), .lit (.int .i64 0)], .agg [.lit (.string [112, 117, 116, 111, 110, 101]), .lit (.int .i64 1)], .agg [.lit (.string [112, 117, 116, 110, 101, 120, 116]), .lit (.int .i64 2)], .agg [.lit (.string [112, 97, 114, 107]), .lit (.int .i64 5)], .agg [.lit (.string [97, 119, 97, 105, 116]), .lit (.int .i64 5)]]

/-- 'hostlertop.TopLost': WHATEVER THE INPUT: true; the input reads as it did. -/
def topLostSpec : ChangeSpec := { name := "topLost", fn := fun _ => fun
  | [d1, d2, d3, d4] => { results := [.lit (.bool true)], args := [d1, d2, d3, d4] }
  | _ => none }
def topLostRow : OpenClaim := { program := "ytblhcbmcbhoeiaagreatdoor", sum := "66e8cd6283f70bc714c3afa747c3ac75f361dabe611521e85e5b22b556c642d7", func := "hostler/hostlertop.TopLost", spec := "topLost", inPlace := ["maps.clone"], unfollowed := true, recurses := true, named := ["hostler/status.next", "hostler/event.all", "hostler/mach.places", "math/bits.deBruijn64tab"], apart := false, laid := [("math/bits.deBruijn64tab", laid_math_bits_deBruijn64tab), ("hostler/status.next", laid_hostler_status_next), ("hostler/event.all", laid_hostler_event_all), ("hostler/mach.places", laid_hostler_mach_places)] }
def TopLostSaid : Prop := topLostRow.holds Tryz.pinned (OpenSpec.ofChange topLostSpec)

/-- ITS FALSE NEIGHBOUR: 'it returns false'. Refute it at one input. -/
def topLostWrong : ChangeSpec := { name := "topLost", fn := fun _ => fun
  | [d1, d2, d3, d4] => { results := [.lit (.bool false)], args := [d1, d2, d3, d4] }
  | _ => none }
def TopLostWrongFalsely : Prop := topLostRow.holds Tryz.pinned (OpenSpec.ofChange topLostWrong)

/-- 'hostlertop.TopPong': WHATEVER THE INPUT: true; the input reads as it did. -/
def topPongSpec : ChangeSpec := { name := "topPong", fn := fun _ => fun
  | [d] => { results := [.lit (.bool true)], args := [d] }
  | _ => none }
def topPongRow : OpenClaim := { program := "ytblhcbmcbhoeiaagreatdoor", sum := "66e8cd6283f70bc714c3afa747c3ac75f361dabe611521e85e5b22b556c642d7", func := "hostler/hostlertop.TopPong", spec := "topPong", inPlace := ["maps.clone"], unfollowed := true, recurses := true, named := ["hostler/status.next", "hostler/event.all", "hostler/mach.places", "math/bits.deBruijn64tab"], apart := false, laid := [("math/bits.deBruijn64tab", laid_math_bits_deBruijn64tab), ("hostler/status.next", laid_hostler_status_next), ("hostler/event.all", laid_hostler_event_all), ("hostler/mach.places", laid_hostler_mach_places)] }
def TopPongSaid : Prop := topPongRow.holds Tryz.pinned (OpenSpec.ofChange topPongSpec)

/-- ITS FALSE NEIGHBOUR: 'it returns false'. Refute it at one input. -/
def topPongWrong : ChangeSpec := { name := "topPong", fn := fun _ => fun
  | [d] => { results := [.lit (.bool false)], args := [d] }
  | _ => none }
def TopPongWrongFalsely : Prop := topPongRow.holds Tryz.pinned (OpenSpec.ofChange topPongWrong)

/-- 'hostlertop.TopSpread': WHATEVER THE INPUT: true; the input reads as it did. -/
def topSpreadSpec : ChangeSpec := { name := "topSpread", fn := fun _ => fun
  | [d1, d2] => { results := [.lit (.bool true)], args := [d1, d2] }
  | _ => none }
def topSpreadRow : OpenClaim := { program := "ytblhcbmcbhoeiaagreatdoor", sum := "66e8cd6283f70bc714c3afa747c3ac75f361dabe611521e85e5b22b556c642d7", func := "hostler/hostlertop.TopSpread", spec := "topSpread", inPlace := ["maps.clone"], unfollowed := true, recurses := true, named := ["hostler/status.next", "hostler/event.all", "hostler/mach.places", "math/bits.deBruijn64tab"], apart := false, laid := [("math/bits.deBruijn64tab", laid_math_bits_deBruijn64tab), ("hostler/status.next", laid_hostler_status_next), ("hostler/event.all", laid_hostler_event_all), ("hostler/mach.places", laid_hostler_mach_places)] }
def TopSpreadSaid : Prop := topSpreadRow.holds Tryz.pinned (OpenSpec.ofChange topSpreadSpec)

/-- ITS FALSE NEIGHBOUR: 'it returns false'. Refute it at one input. -/
def topSpreadWrong : ChangeSpec := { name := "topSpread", fn := fun _ => fun
  | [d1, d2] => { results := [.lit (.bool false)], args := [d1, d2] }
  | _ => none }
def TopSpreadWrongFalsely : Prop := topSpreadRow.holds Tryz.pinned (OpenSpec.ofChange topSpreadWrong)

/-- 'hostlertop.TopEnd': WHATEVER THE INPUT: true; the input reads as it did. -/
def topEndSpec : ChangeSpec := { name := "topEnd", fn := fun _ => fun
  | [d1, d2] => { results := [.lit (.bool true)], args := [d1, d2] }
  | _ => none }
def topEndRow : OpenClaim := { program := "ytblhcbmcbhoeiaagreatdoor", sum := "66e8cd6283f70bc714c3afa747c3ac75f361dabe611521e85e5b22b556c642d7", func := "hostler/hostlertop.TopEnd", spec := "topEnd", inPlace := ["maps.clone"], unfollowed := true, recurses := true, named := ["hostler/status.next", "hostler/event.all", "hostler/mach.places", "math/bits.deBruijn64tab"], apart := false, laid := [("math/bits.deBruijn64tab", laid_math_bits_deBruijn64tab), ("hostler/status.next", laid_hostler_status_next), ("hostler/event.all", laid_hostler_event_all), ("hostler/mach.places", laid_hostler_mach_places)] }
def TopEndSaid : Prop := topEndRow.holds Tryz.pinned (OpenSpec.ofChange topEndSpec)

/-- ITS FALSE NEIGHBOUR: 'it returns false'. Refute it at one input. -/
def topEndWrong : ChangeSpec := { name := "topEnd", fn := fun _ => fun
  | [d1, d2] => { results := [.lit (.bool false)], args := [d1, d2] }
  | _ => none }
def TopEndWrongFalsely : Prop := topEndRow.holds Tryz.pinned (OpenSpec.ofChange topEndWrong)

/-- 'hostlertop.TopSettles': WHATEVER THE INPUT: true; the input reads as it did. -/
def topSettlesSpec : ChangeSpec := { name := "topSettles", fn := fun _ => fun
  | [d1, d2, d3, d4] => { results := [.lit (.bool true)], args := [d1, d2, d3, d4] }
  | _ => none }
def topSettlesRow : OpenClaim := { program := "ytblhcbmcbhoeiaagreatdoor", sum := "66e8cd6283f70bc714c3afa747c3ac75f361dabe611521e85e5b22b556c642d7", func := "hostler/hostlertop.TopSettles", spec := "topSettles", inPlace := ["maps.clone"], unfollowed := true, recurses := true, named := ["hostler/status.next", "hostler/event.all", "hostler/mach.places", "math/bits.deBruijn64tab"], apart := false, laid := [("math/bits.deBruijn64tab", laid_math_bits_deBruijn64tab), ("hostler/status.next", laid_hostler_status_next), ("hostler/event.all", laid_hostler_event_all), ("hostler/mach.places", laid_hostler_mach_places)] }
def TopSettlesSaid : Prop := topSettlesRow.holds Tryz.pinned (OpenSpec.ofChange topSettlesSpec)

/-- ITS FALSE NEIGHBOUR: 'it returns false'. Refute it at one input. -/
def topSettlesWrong : ChangeSpec := { name := "topSettles", fn := fun _ => fun
  | [d1, d2, d3, d4] => { results := [.lit (.bool false)], args := [d1, d2, d3, d4] }
  | _ => none }
def TopSettlesWrongFalsely : Prop := topSettlesRow.holds Tryz.pinned (OpenSpec.ofChange topSettlesWrong)

/- THE SECOND FORM. 'bulk': how many values and letters a reading holds, each counted each time it is reached (what is shared counts as often as it is met; a slice's spare places count too). A statement '..UptoSaid' is the law's where the arguments, and the package variables that the reading takes, are together of bulk at most 1048576: NARROWER than '..Said'. Prove '..Said' where nothing that the law and all that it calls make is longer than what came in: it says more and counts as full. Else prove '..UptoSaid'. A law counts once. -/
mutual
def uptoBulk {H : Type} : DataW H → Nat
  | .lit (.string bytes) => bytes.length + 1
  | .lit _ => 1
  | .nil => 1
  | .ptr d => uptoBulk d + 1
  | .slice elems spare => uptoBulkAll elems + uptoBulkAll spare + 1
  | .agg parts => uptoBulkAll parts + 1
  | .iface _ d => uptoBulk d + 1
  | .map entries => uptoBulkEntries entries + 1
  | .held _ => 1
def uptoBulkAll {H : Type} : List (DataW H) → Nat
  | [] => 0
  | d :: r => uptoBulk d + uptoBulkAll r
def uptoBulkEntries {H : Type} : List (Lit × DataW H) → Nat
  | [] => 0
  | x :: r => uptoBulkEntry x + uptoBulkEntries r
def uptoBulkEntry {H : Type} : Lit × DataW H → Nat
  | (.string bytes, d) => bytes.length + uptoBulk d + 1
  | (_, d) => uptoBulk d + 1
 end
def uptoSmall : (H : Type) → List (DataW H) → Bool := fun _ ds => decide (uptoBulkAll ds ≤ 1048576)
def OpenSpec.upto (s : _root_.Go.ChangeSpec) : _root_.Go.OpenSpec := { _root_.Go.OpenSpec.ofChange s with cond := some uptoSmall }

/-- 'hostlertop.TopLost', WHERE WHAT IT READS IS OF BULK AT MOST 1048576: true; the input reads as it did. -/
def topLostUptoRow : OpenClaim := { program := "ytblhcbmcbhoeiaagreatdoor", sum := "66e8cd6283f70bc714c3afa747c3ac75f361dabe611521e85e5b22b556c642d7", func := "hostler/hostlertop.TopLost", spec := "topLost", inPlace := ["maps.clone"], unfollowed := true, recurses := true, named := ["hostler/status.next", "hostler/event.all", "hostler/mach.places", "math/bits.deBruijn64tab"], apart := false, laid := [("math/bits.deBruijn64tab", laid_math_bits_deBruijn64tab), ("hostler/status.next", laid_hostler_status_next), ("hostler/event.all", laid_hostler_event_all), ("hostler/mach.places", laid_hostler_mach_places)], narrowed := true }
def TopLostUptoSaid : Prop := topLostUptoRow.holds Tryz.pinned (OpenSpec.upto topLostSpec)

/-- 'hostlertop.TopPong', WHERE WHAT IT READS IS OF BULK AT MOST 1048576: true; the input reads as it did. -/
def topPongUptoRow : OpenClaim := { program := "ytblhcbmcbhoeiaagreatdoor", sum := "66e8cd6283f70bc714c3afa747c3ac75f361dabe611521e85e5b22b556c642d7", func := "hostler/hostlertop.TopPong", spec := "topPong", inPlace := ["maps.clone"], unfollowed := true, recurses := true, named := ["hostler/status.next", "hostler/event.all", "hostler/mach.places", "math/bits.deBruijn64tab"], apart := false, laid := [("math/bits.deBruijn64tab", laid_math_bits_deBruijn64tab), ("hostler/status.next", laid_hostler_status_next), ("hostler/event.all", laid_hostler_event_all), ("hostler/mach.places", laid_hostler_mach_places)], narrowed := true }
def TopPongUptoSaid : Prop := topPongUptoRow.holds Tryz.pinned (OpenSpec.upto topPongSpec)

/-- 'hostlertop.TopSpread', WHERE WHAT IT READS IS OF BULK AT MOST 1048576: true; the input reads as it did. -/
def topSpreadUptoRow : OpenClaim := { program := "ytblhcbmcbhoeiaagreatdoor", sum := "66e8cd6283f70bc714c3afa747c3ac75f361dabe611521e85e5b22b556c642d7", func := "hostler/hostlertop.TopSpread", spec := "topSpread", inPlace := ["maps.clone"], unfollowed := true, recurses := true, named := ["hostler/status.next", "hostler/event.all", "hostler/mach.places", "math/bits.deBruijn64tab"], apart := false, laid := [("math/bits.deBruijn64tab", laid_math_bits_deBruijn64tab), ("hostler/status.next", laid_hostler_status_next), ("hostler/event.all", laid_hostler_event_all), ("hostler/mach.places", laid_hostler_mach_places)], narrowed := true }
def TopSpreadUptoSaid : Prop := topSpreadUptoRow.holds Tryz.pinned (OpenSpec.upto topSpreadSpec)

/-- 'hostlertop.TopEnd', WHERE WHAT IT READS IS OF BULK AT MOST 1048576: true; the input reads as it did. -/
def topEndUptoRow : OpenClaim := { program := "ytblhcbmcbhoeiaagreatdoor", sum := "66e8cd6283f70bc714c3afa747c3ac75f361dabe611521e85e5b22b556c642d7", func := "hostler/hostlertop.TopEnd", spec := "topEnd", inPlace := ["maps.clone"], unfollowed := true, recurses := true, named := ["hostler/status.next", "hostler/event.all", "hostler/mach.places", "math/bits.deBruijn64tab"], apart := false, laid := [("math/bits.deBruijn64tab", laid_math_bits_deBruijn64tab), ("hostler/status.next", laid_hostler_status_next), ("hostler/event.all", laid_hostler_event_all), ("hostler/mach.places", laid_hostler_mach_places)], narrowed := true }
def TopEndUptoSaid : Prop := topEndUptoRow.holds Tryz.pinned (OpenSpec.upto topEndSpec)

/-- 'hostlertop.TopSettles', WHERE WHAT IT READS IS OF BULK AT MOST 1048576: true; the input reads as it did. -/
def topSettlesUptoRow : OpenClaim := { program := "ytblhcbmcbhoeiaagreatdoor", sum := "66e8cd6283f70bc714c3afa747c3ac75f361dabe611521e85e5b22b556c642d7", func := "hostler/hostlertop.TopSettles", spec := "topSettles", inPlace := ["maps.clone"], unfollowed := true, recurses := true, named := ["hostler/status.next", "hostler/event.all", "hostler/mach.places", "math/bits.deBruijn64tab"], apart := false, laid := [("math/bits.deBruijn64tab", laid_math_bits_deBruijn64tab), ("hostler/status.next", laid_hostler_status_next), ("hostler/event.all", laid_hostler_event_all), ("hostler/mach.places", laid_hostler_mach_places)], narrowed := true }
def TopSettlesUptoSaid : Prop := topSettlesUptoRow.holds Tryz.pinned (OpenSpec.upto topSettlesSpec)

end Rows
end Go.Proofs.YtblhcbmcbhoeiaaGreatDoor
