/-
  No cell of these rows narrows 'for every input' (looked for: loops, veiled, ifaces, maps, wideKeys, modest, calm, conditions, laid).
  DERIVED. THE GIVEN ROWS OF THIS SEAT. 9 by the template 'for every input the law returns true; each argument reads behind the call as it read before'; 0 by the template 'total and deterministic' (their statements: YtmcdmgnpbhkdhaaTotals.lean).
  GIVEN WITH THE SEED: the statements are not yours to turn. If you find one false, say at which input.
  Laid BY PROGRAM, IN A SANDBOX (cutbox-rows.mjs): the forced cells as the released guide's own fill.sh prints them over the translation 70fa85f9bd284abf… (all of the seat's roots in one cut). By AI agents, Wed Nov 11 2026. No macro, syntax, notation, axiom, sorry.
-/
import Derived.Test.YtmcdmgnpbhkdhaaChecked
import GoSem.Claim
import GoSem.ClaimJoined
import GoSem.ClaimMapViews
import Derived.JoinedTies
import Derived.KernelRfl
namespace Go.Proofs.Ytmcdmgnpbhkdhaa
/- THE CELL 'sum', in the pinned program and in every row, IS THE sha256 OF THE DUMP (.gsa) THAT YtmcdmgnpbhkdhaaProg.lean LOADS. Nothing in Lean hashes anything: it is a label: what it is worth is what the hold of that sum in a sandbox is worth. -/
noncomputable def Try.pinned : Pinned := { name := "ytmcdmgnpbhkdhaa", sum := "70fa85f9bd284abf0747b6ed5dffeecc8ded2cd55b61e1bdc3386faa1de9c236", checked := Try.checked }
namespace Rows
def none {H : Type} : Left H := { results := [], args := [] }

/-- 'packetboatkeep.OutqWhole': WHATEVER THE INPUT: true; the input reads as it did. -/
def outqWholeSpec : ChangeSpec := { name := "outqWhole", fn := fun _ => fun
  | [d1, d2] => { results := [.lit (.bool true)], args := [d1, d2] }
  | _ => none }
def outqWholeRow : OpenClaim := { program := "ytmcdmgnpbhkdhaa", sum := "70fa85f9bd284abf0747b6ed5dffeecc8ded2cd55b61e1bdc3386faa1de9c236", func := "packetboat/packetboatkeep.OutqWhole", spec := "outqWhole", plainKeys := false, apart := false }
def OutqWholeSaid : Prop := outqWholeRow.holds Try.pinned (OpenSpec.ofChange outqWholeSpec)

/-- ITS FALSE NEIGHBOUR: 'it returns false'. Refute it at one input. -/
def outqWholeWrong : ChangeSpec := { name := "outqWhole", fn := fun _ => fun
  | [d1, d2] => { results := [.lit (.bool false)], args := [d1, d2] }
  | _ => none }
def OutqWholeWrongFalsely : Prop := outqWholeRow.holds Try.pinned (OpenSpec.ofChange outqWholeWrong)

/-- 'packetboatkeep.OutqStream': WHATEVER THE INPUT: true; the input reads as it did. -/
def outqStreamSpec : ChangeSpec := { name := "outqStream", fn := fun _ => fun
  | [d] => { results := [.lit (.bool true)], args := [d] }
  | _ => none }
def outqStreamRow : OpenClaim := { program := "ytmcdmgnpbhkdhaa", sum := "70fa85f9bd284abf0747b6ed5dffeecc8ded2cd55b61e1bdc3386faa1de9c236", func := "packetboat/packetboatkeep.OutqStream", spec := "outqStream", plainKeys := false, apart := false }
def OutqStreamSaid : Prop := outqStreamRow.holds Try.pinned (OpenSpec.ofChange outqStreamSpec)

/-- ITS FALSE NEIGHBOUR: 'it returns false'. Refute it at one input. -/
def outqStreamWrong : ChangeSpec := { name := "outqStream", fn := fun _ => fun
  | [d] => { results := [.lit (.bool false)], args := [d] }
  | _ => none }
def OutqStreamWrongFalsely : Prop := outqStreamRow.holds Try.pinned (OpenSpec.ofChange outqStreamWrong)

/-- 'packetboatkeep.ListenFull': WHATEVER THE INPUT: true; the input reads as it did. -/
def listenFullSpec : ChangeSpec := { name := "listenFull", fn := fun _ => fun
  | [d] => { results := [.lit (.bool true)], args := [d] }
  | _ => none }
def listenFullRow : OpenClaim := { program := "ytmcdmgnpbhkdhaa", sum := "70fa85f9bd284abf0747b6ed5dffeecc8ded2cd55b61e1bdc3386faa1de9c236", func := "packetboat/packetboatkeep.ListenFull", spec := "listenFull", unfollowed := true, recurses := true, plainKeys := false, apart := false }
def ListenFullSaid : Prop := listenFullRow.holds Try.pinned (OpenSpec.ofChange listenFullSpec)

/-- ITS FALSE NEIGHBOUR: 'it returns false'. Refute it at one input. -/
def listenFullWrong : ChangeSpec := { name := "listenFull", fn := fun _ => fun
  | [d] => { results := [.lit (.bool false)], args := [d] }
  | _ => none }
def ListenFullWrongFalsely : Prop := listenFullRow.holds Try.pinned (OpenSpec.ofChange listenFullWrong)

/-- 'packetboatkeep.ListenRow': WHATEVER THE INPUT: true; the input reads as it did. -/
def listenRowSpec : ChangeSpec := { name := "listenRow", fn := fun _ => fun
  | [d1, d2] => { results := [.lit (.bool true)], args := [d1, d2] }
  | _ => none }
def listenRowRow : OpenClaim := { program := "ytmcdmgnpbhkdhaa", sum := "70fa85f9bd284abf0747b6ed5dffeecc8ded2cd55b61e1bdc3386faa1de9c236", func := "packetboat/packetboatkeep.ListenRow", spec := "listenRow", unfollowed := true, recurses := true, plainKeys := false, apart := false }
def ListenRowSaid : Prop := listenRowRow.holds Try.pinned (OpenSpec.ofChange listenRowSpec)

/-- ITS FALSE NEIGHBOUR: 'it returns false'. Refute it at one input. -/
def listenRowWrong : ChangeSpec := { name := "listenRow", fn := fun _ => fun
  | [d1, d2] => { results := [.lit (.bool false)], args := [d1, d2] }
  | _ => none }
def ListenRowWrongFalsely : Prop := listenRowRow.holds Try.pinned (OpenSpec.ofChange listenRowWrong)

/-- 'packetboatkeep.CookieBack': WHATEVER THE INPUT: true; the input reads as it did. -/
def cookieBackSpec : ChangeSpec := { name := "cookieBack", fn := fun _ => fun
  | [d1, d2, d3, d4, d5, d6, d7, d8] => { results := [.lit (.bool true)], args := [d1, d2, d3, d4, d5, d6, d7, d8] }
  | _ => none }
def cookieBackRow : OpenClaim := { program := "ytmcdmgnpbhkdhaa", sum := "70fa85f9bd284abf0747b6ed5dffeecc8ded2cd55b61e1bdc3386faa1de9c236", func := "packetboat/packetboatkeep.CookieBack", spec := "cookieBack", plainKeys := false, apart := false }
def CookieBackSaid : Prop := cookieBackRow.holds Try.pinned (OpenSpec.ofChange cookieBackSpec)

/-- ITS FALSE NEIGHBOUR: 'it returns false'. Refute it at one input. -/
def cookieBackWrong : ChangeSpec := { name := "cookieBack", fn := fun _ => fun
  | [d1, d2, d3, d4, d5, d6, d7, d8] => { results := [.lit (.bool false)], args := [d1, d2, d3, d4, d5, d6, d7, d8] }
  | _ => none }
def CookieBackWrongFalsely : Prop := cookieBackRow.holds Try.pinned (OpenSpec.ofChange cookieBackWrong)

/-- 'packetboatkeep.CookieOther': WHATEVER THE INPUT: true; the input reads as it did. -/
def cookieOtherSpec : ChangeSpec := { name := "cookieOther", fn := fun _ => fun
  | [d1, d2, d3, d4, d5, d6, d7, d8] => { results := [.lit (.bool true)], args := [d1, d2, d3, d4, d5, d6, d7, d8] }
  | _ => none }
def cookieOtherRow : OpenClaim := { program := "ytmcdmgnpbhkdhaa", sum := "70fa85f9bd284abf0747b6ed5dffeecc8ded2cd55b61e1bdc3386faa1de9c236", func := "packetboat/packetboatkeep.CookieOther", spec := "cookieOther", plainKeys := false, apart := false }
def CookieOtherSaid : Prop := cookieOtherRow.holds Try.pinned (OpenSpec.ofChange cookieOtherSpec)

/-- ITS FALSE NEIGHBOUR: 'it returns false'. Refute it at one input. -/
def cookieOtherWrong : ChangeSpec := { name := "cookieOther", fn := fun _ => fun
  | [d1, d2, d3, d4, d5, d6, d7, d8] => { results := [.lit (.bool false)], args := [d1, d2, d3, d4, d5, d6, d7, d8] }
  | _ => none }
def CookieOtherWrongFalsely : Prop := cookieOtherRow.holds Try.pinned (OpenSpec.ofChange cookieOtherWrong)

/-- 'packetboatkeep.FragLate': WHATEVER THE INPUT: true; the input reads as it did. -/
def fragLateSpec : ChangeSpec := { name := "fragLate", fn := fun _ => fun
  | [d1, d2] => { results := [.lit (.bool true)], args := [d1, d2] }
  | _ => none }
def fragLateRow : OpenClaim := { program := "ytmcdmgnpbhkdhaa", sum := "70fa85f9bd284abf0747b6ed5dffeecc8ded2cd55b61e1bdc3386faa1de9c236", func := "packetboat/packetboatkeep.FragLate", spec := "fragLate", plainKeys := false, apart := false }
def FragLateSaid : Prop := fragLateRow.holds Try.pinned (OpenSpec.ofChange fragLateSpec)

/-- ITS FALSE NEIGHBOUR: 'it returns false'. Refute it at one input. -/
def fragLateWrong : ChangeSpec := { name := "fragLate", fn := fun _ => fun
  | [d1, d2] => { results := [.lit (.bool false)], args := [d1, d2] }
  | _ => none }
def FragLateWrongFalsely : Prop := fragLateRow.holds Try.pinned (OpenSpec.ofChange fragLateWrong)

/-- 'packetboatkeep.FragWhole': WHATEVER THE INPUT: true; the input reads as it did. -/
def fragWholeSpec : ChangeSpec := { name := "fragWhole", fn := fun _ => fun
  | [d1, d2, d3, d4] => { results := [.lit (.bool true)], args := [d1, d2, d3, d4] }
  | _ => none }
def fragWholeRow : OpenClaim := { program := "ytmcdmgnpbhkdhaa", sum := "70fa85f9bd284abf0747b6ed5dffeecc8ded2cd55b61e1bdc3386faa1de9c236", func := "packetboat/packetboatkeep.FragWhole", spec := "fragWhole", unfollowed := true, recurses := true, plainKeys := false, apart := false }
def FragWholeSaid : Prop := fragWholeRow.holds Try.pinned (OpenSpec.ofChange fragWholeSpec)

/-- ITS FALSE NEIGHBOUR: 'it returns false'. Refute it at one input. -/
def fragWholeWrong : ChangeSpec := { name := "fragWhole", fn := fun _ => fun
  | [d1, d2, d3, d4] => { results := [.lit (.bool false)], args := [d1, d2, d3, d4] }
  | _ => none }
def FragWholeWrongFalsely : Prop := fragWholeRow.holds Try.pinned (OpenSpec.ofChange fragWholeWrong)

/-- 'packetboatkeep.FragLacks': WHATEVER THE INPUT: true; the input reads as it did. -/
def fragLacksSpec : ChangeSpec := { name := "fragLacks", fn := fun _ => fun
  | [d1, d2, d3, d4] => { results := [.lit (.bool true)], args := [d1, d2, d3, d4] }
  | _ => none }
def fragLacksRow : OpenClaim := { program := "ytmcdmgnpbhkdhaa", sum := "70fa85f9bd284abf0747b6ed5dffeecc8ded2cd55b61e1bdc3386faa1de9c236", func := "packetboat/packetboatkeep.FragLacks", spec := "fragLacks", plainKeys := false, apart := false }
def FragLacksSaid : Prop := fragLacksRow.holds Try.pinned (OpenSpec.ofChange fragLacksSpec)

/-- ITS FALSE NEIGHBOUR: 'it returns false'. Refute it at one input. -/
def fragLacksWrong : ChangeSpec := { name := "fragLacks", fn := fun _ => fun
  | [d1, d2, d3, d4] => { results := [.lit (.bool false)], args := [d1, d2, d3, d4] }
  | _ => none }
def FragLacksWrongFalsely : Prop := fragLacksRow.holds Try.pinned (OpenSpec.ofChange fragLacksWrong)

/- THE SECOND FORM. 'bulk': how many values and letters a reading holds, each counted each time it is reached (what is shared counts as often as it is met; a slice's spare places count too). A statement '..UptoSaid' is the law's where the arguments, and the package variables that the reading takes, are together of bulk at most 1048576: NARROWER than '..Said'. Prove '..Said' where nothing that the law and all that it calls make is longer than what came in: it says more and counts as full. Else prove '..UptoSaid'. A law counts once. -/
mutual
def uptoBulk {H : Type} : DataW H → Nat
  | .lit (.string bytes) => bytes.length + 1
  | .lit _ => 1
  | .nil => 1
  | .ptr d => uptoBulk d + 1
  | .slice elems spare => uptoBulkAll elems + uptoBulkAll spare + 1
  | .agg parts => uptoBulkAll parts + 1
  | .iface _ d => uptoBulk d + 1
  | .map entries => uptoBulkEntries entries + 1
  | .held _ => 1
def uptoBulkAll {H : Type} : List (DataW H) → Nat
  | [] => 0
  | d :: r => uptoBulk d + uptoBulkAll r
def uptoBulkEntries {H : Type} : List (Lit × DataW H) → Nat
  | [] => 0
  | x :: r => uptoBulkEntry x + uptoBulkEntries r
def uptoBulkEntry {H : Type} : Lit × DataW H → Nat
  | (.string bytes, d) => bytes.length + uptoBulk d + 1
  | (_, d) => uptoBulk d + 1
 end
def uptoSmall : (H : Type) → List (DataW H) → Bool := fun _ ds => decide (uptoBulkAll ds ≤ 1048576)
def OpenSpec.upto (s : _root_.Go.ChangeSpec) : _root_.Go.OpenSpec := { _root_.Go.OpenSpec.ofChange s with cond := some uptoSmall }

/-- 'packetboatkeep.OutqWhole', WHERE WHAT IT READS IS OF BULK AT MOST 1048576: true; the input reads as it did. -/
def outqWholeUptoRow : OpenClaim := { program := "ytmcdmgnpbhkdhaa", sum := "70fa85f9bd284abf0747b6ed5dffeecc8ded2cd55b61e1bdc3386faa1de9c236", func := "packetboat/packetboatkeep.OutqWhole", spec := "outqWhole", plainKeys := false, apart := false, narrowed := true }
def OutqWholeUptoSaid : Prop := outqWholeUptoRow.holds Try.pinned (OpenSpec.upto outqWholeSpec)

/-- 'packetboatkeep.OutqStream', WHERE WHAT IT READS IS OF BULK AT MOST 1048576: true; the input reads as it did. -/
def outqStreamUptoRow : OpenClaim := { program := "ytmcdmgnpbhkdhaa", sum := "70fa85f9bd284abf0747b6ed5dffeecc8ded2cd55b61e1bdc3386faa1de9c236", func := "packetboat/packetboatkeep.OutqStream", spec := "outqStream", plainKeys := false, apart := false, narrowed := true }
def OutqStreamUptoSaid : Prop := outqStreamUptoRow.holds Try.pinned (OpenSpec.upto outqStreamSpec)

/-- 'packetboatkeep.ListenFull', WHERE WHAT IT READS IS OF BULK AT MOST 1048576: true; the input reads as it did. -/
def listenFullUptoRow : OpenClaim := { program := "ytmcdmgnpbhkdhaa", sum := "70fa85f9bd284abf0747b6ed5dffeecc8ded2cd55b61e1bdc3386faa1de9c236", func := "packetboat/packetboatkeep.ListenFull", spec := "listenFull", unfollowed := true, recurses := true, plainKeys := false, apart := false, narrowed := true }
def ListenFullUptoSaid : Prop := listenFullUptoRow.holds Try.pinned (OpenSpec.upto listenFullSpec)

/-- 'packetboatkeep.ListenRow', WHERE WHAT IT READS IS OF BULK AT MOST 1048576: true; the input reads as it did. -/
def listenRowUptoRow : OpenClaim := { program := "ytmcdmgnpbhkdhaa", sum := "70fa85f9bd284abf0747b6ed5dffeecc8ded2cd55b61e1bdc3386faa1de9c236", func := "packetboat/packetboatkeep.ListenRow", spec := "listenRow", unfollowed := true, recurses := true, plainKeys := false, apart := false, narrowed := true }
def ListenRowUptoSaid : Prop := listenRowUptoRow.holds Try.pinned (OpenSpec.upto listenRowSpec)

/-- 'packetboatkeep.CookieBack', WHERE WHAT IT READS IS OF BULK AT MOST 1048576: true; the input reads as it did. -/
def cookieBackUptoRow : OpenClaim := { program := "ytmcdmgnpbhkdhaa", sum := "70fa85f9bd284abf0747b6ed5dffeecc8ded2cd55b61e1bdc3386faa1de9c236", func := "packetboat/packetboatkeep.CookieBack", spec := "cookieBack", plainKeys := false, apart := false, narrowed := true }
def CookieBackUptoSaid : Prop := cookieBackUptoRow.holds Try.pinned (OpenSpec.upto cookieBackSpec)

/-- 'packetboatkeep.CookieOther', WHERE WHAT IT READS IS OF BULK AT MOST 1048576: true; the input reads as it did. -/
def cookieOtherUptoRow : OpenClaim := { program := "ytmcdmgnpbhkdhaa", sum := "70fa85f9bd284abf0747b6ed5dffeecc8ded2cd55b61e1bdc3386faa1de9c236", func := "packetboat/packetboatkeep.CookieOther", spec := "cookieOther", plainKeys := false, apart := false, narrowed := true }
def CookieOtherUptoSaid : Prop := cookieOtherUptoRow.holds Try.pinned (OpenSpec.upto cookieOtherSpec)

/-- 'packetboatkeep.FragLate', WHERE WHAT IT READS IS OF BULK AT MOST 1048576: true; the input reads as it did. -/
def fragLateUptoRow : OpenClaim := { program := "ytmcdmgnpbhkdhaa", sum := "70fa85f9bd284abf0747b6ed5dffeecc8ded2cd55b61e1bdc3386faa1de9c236", func := "packetboat/packetboatkeep.FragLate", spec := "fragLate", plainKeys := false, apart := false, narrowed := true }
def FragLateUptoSaid : Prop := fragLateUptoRow.holds Try.pinned (OpenSpec.upto fragLateSpec)

/-- 'packetboatkeep.FragWhole', WHERE WHAT IT READS IS OF BULK AT MOST 1048576: true; the input reads as it did. -/
def fragWholeUptoRow : OpenClaim := { program := "ytmcdmgnpbhkdhaa", sum := "70fa85f9bd284abf0747b6ed5dffeecc8ded2cd55b61e1bdc3386faa1de9c236", func := "packetboat/packetboatkeep.FragWhole", spec := "fragWhole", unfollowed := true, recurses := true, plainKeys := false, apart := false, narrowed := true }
def FragWholeUptoSaid : Prop := fragWholeUptoRow.holds Try.pinned (OpenSpec.upto fragWholeSpec)

/-- 'packetboatkeep.FragLacks', WHERE WHAT IT READS IS OF BULK AT MOST 1048576: true; the input reads as it did. -/
def fragLacksUptoRow : OpenClaim := { program := "ytmcdmgnpbhkdhaa", sum := "70fa85f9bd284abf0747b6ed5dffeecc8ded2cd55b61e1bdc3386faa1de9c236", func := "packetboat/packetboatkeep.FragLacks", spec := "fragLacks", plainKeys := false, apart := false, narrowed := true }
def FragLacksUptoSaid : Prop := fragLacksUptoRow.holds Try.pinned (OpenSpec.upto fragLacksSpec)

end Rows
end Go.Proofs.Ytmcdmgnpbhkdhaa
