/-
  No cell of these rows narrows 'for every input' (looked for: loops, veiled, ifaces, maps, wideKeys, modest, calm, conditions, laid).
  DERIVED. THE GIVEN ROWS OF THIS SEAT. 6 by the template 'for every input the law returns true; each argument reads behind the call as it read before'; 0 by the template 'total and deterministic' (their statements: YtoebhddgpicegaaTotals.lean).
  GIVEN WITH THE SEED: the statements are not yours to turn. If you find one false, say at which input.
  Laid BY PROGRAM, IN A SANDBOX (cutbox-rows.mjs): the forced cells as the released guide's own fill.sh prints them over the translation 6c982898e1289af0… (all of the seat's roots in one cut). By AI agents, Wed Nov 11 2026. No macro, syntax, notation, axiom, sorry.
-/
import Derived.Test.YtoebhddgpicegaaChecked
import GoSem.Claim
import GoSem.ClaimJoined
import GoSem.ClaimMapViews
import Derived.JoinedTies
import Derived.KernelRfl
namespace Go.Proofs.Ytoebhddgpicegaa
/- THE CELL 'sum', in the pinned program and in every row, IS THE sha256 OF THE DUMP (.gsa) THAT YtoebhddgpicegaaProg.lean LOADS. Nothing in Lean hashes anything: it is a label: what it is worth is what the hold of that sum in a sandbox is worth. -/
noncomputable def Try.pinned : Pinned := { name := "ytoebhddgpicegaa", sum := "6c982898e1289af01b9249813d172307c255b6184ed69b3e938cca8212631a63", checked := Try.checked }
namespace Rows
def none {H : Type} : Left H := { results := [], args := [] }

/-- 'amberlaw21.ReplayReads': WHATEVER THE INPUT: true; the input reads as it did. -/
def replayReadsSpec : ChangeSpec := { name := "replayReads", fn := fun _ => fun
  | [d1, d2] => { results := [.lit (.bool true)], args := [d1, d2] }
  | _ => none }
def replayReadsRow : OpenClaim := { program := "ytoebhddgpicegaa", sum := "6c982898e1289af01b9249813d172307c255b6184ed69b3e938cca8212631a63", func := "amber/amberlaw21.ReplayReads", spec := "replayReads", unfollowed := true, recurses := true, apart := false }
def ReplayReadsSaid : Prop := replayReadsRow.holds Try.pinned (OpenSpec.ofChange replayReadsSpec)

/-- ITS FALSE NEIGHBOUR: 'it returns false'. Refute it at one input. -/
def replayReadsWrong : ChangeSpec := { name := "replayReads", fn := fun _ => fun
  | [d1, d2] => { results := [.lit (.bool false)], args := [d1, d2] }
  | _ => none }
def ReplayReadsWrongFalsely : Prop := replayReadsRow.holds Try.pinned (OpenSpec.ofChange replayReadsWrong)

/-- 'amberlaw21.ReplaySums': WHATEVER THE INPUT: true; the input reads as it did. -/
def replaySumsSpec : ChangeSpec := { name := "replaySums", fn := fun _ => fun
  | [d] => { results := [.lit (.bool true)], args := [d] }
  | _ => none }
def replaySumsRow : OpenClaim := { program := "ytoebhddgpicegaa", sum := "6c982898e1289af01b9249813d172307c255b6184ed69b3e938cca8212631a63", func := "amber/amberlaw21.ReplaySums", spec := "replaySums", unfollowed := true, recurses := true, apart := false }
def ReplaySumsSaid : Prop := replaySumsRow.holds Try.pinned (OpenSpec.ofChange replaySumsSpec)

/-- ITS FALSE NEIGHBOUR: 'it returns false'. Refute it at one input. -/
def replaySumsWrong : ChangeSpec := { name := "replaySums", fn := fun _ => fun
  | [d] => { results := [.lit (.bool false)], args := [d] }
  | _ => none }
def ReplaySumsWrongFalsely : Prop := replaySumsRow.holds Try.pinned (OpenSpec.ofChange replaySumsWrong)

/-- 'amberlaw21.ReplayBack': WHATEVER THE INPUT: true; the input reads as it did. -/
def replayBackSpec : ChangeSpec := { name := "replayBack", fn := fun _ => fun
  | [d1, d2] => { results := [.lit (.bool true)], args := [d1, d2] }
  | _ => none }
def replayBackRow : OpenClaim := { program := "ytoebhddgpicegaa", sum := "6c982898e1289af01b9249813d172307c255b6184ed69b3e938cca8212631a63", func := "amber/amberlaw21.ReplayBack", spec := "replayBack", unfollowed := true, recurses := true, apart := false }
def ReplayBackSaid : Prop := replayBackRow.holds Try.pinned (OpenSpec.ofChange replayBackSpec)

/-- ITS FALSE NEIGHBOUR: 'it returns false'. Refute it at one input. -/
def replayBackWrong : ChangeSpec := { name := "replayBack", fn := fun _ => fun
  | [d1, d2] => { results := [.lit (.bool false)], args := [d1, d2] }
  | _ => none }
def ReplayBackWrongFalsely : Prop := replayBackRow.holds Try.pinned (OpenSpec.ofChange replayBackWrong)

/-- 'amberlaw21.ReplayDigests': WHATEVER THE INPUT: true; the input reads as it did. -/
def replayDigestsSpec : ChangeSpec := { name := "replayDigests", fn := fun _ => fun
  | [d1, d2, d3, d4, d5] => { results := [.lit (.bool true)], args := [d1, d2, d3, d4, d5] }
  | _ => none }
def replayDigestsRow : OpenClaim := { program := "ytoebhddgpicegaa", sum := "6c982898e1289af01b9249813d172307c255b6184ed69b3e938cca8212631a63", func := "amber/amberlaw21.ReplayDigests", spec := "replayDigests", unfollowed := true, recurses := true, apart := false }
def ReplayDigestsSaid : Prop := replayDigestsRow.holds Try.pinned (OpenSpec.ofChange replayDigestsSpec)

/-- ITS FALSE NEIGHBOUR: 'it returns false'. Refute it at one input. -/
def replayDigestsWrong : ChangeSpec := { name := "replayDigests", fn := fun _ => fun
  | [d1, d2, d3, d4, d5] => { results := [.lit (.bool false)], args := [d1, d2, d3, d4, d5] }
  | _ => none }
def ReplayDigestsWrongFalsely : Prop := replayDigestsRow.holds Try.pinned (OpenSpec.ofChange replayDigestsWrong)

/-- 'amberlaw21.ReplayApart': WHATEVER THE INPUT: true; the input reads as it did. -/
def replayApartSpec : ChangeSpec := { name := "replayApart", fn := fun _ => fun
  | [d] => { results := [.lit (.bool true)], args := [d] }
  | _ => none }
def replayApartRow : OpenClaim := { program := "ytoebhddgpicegaa", sum := "6c982898e1289af01b9249813d172307c255b6184ed69b3e938cca8212631a63", func := "amber/amberlaw21.ReplayApart", spec := "replayApart", unfollowed := true, recurses := true, apart := false }
def ReplayApartSaid : Prop := replayApartRow.holds Try.pinned (OpenSpec.ofChange replayApartSpec)

/-- ITS FALSE NEIGHBOUR: 'it returns false'. Refute it at one input. -/
def replayApartWrong : ChangeSpec := { name := "replayApart", fn := fun _ => fun
  | [d] => { results := [.lit (.bool false)], args := [d] }
  | _ => none }
def ReplayApartWrongFalsely : Prop := replayApartRow.holds Try.pinned (OpenSpec.ofChange replayApartWrong)

/-- 'amberlaw21.ReplayTellsBursts': WHATEVER THE INPUT: true; the input reads as it did. -/
def replayTellsBurstsSpec : ChangeSpec := { name := "replayTellsBursts", fn := fun _ => fun
  | [d1, d2, d3, d4] => { results := [.lit (.bool true)], args := [d1, d2, d3, d4] }
  | _ => none }
def replayTellsBurstsRow : OpenClaim := { program := "ytoebhddgpicegaa", sum := "6c982898e1289af01b9249813d172307c255b6184ed69b3e938cca8212631a63", func := "amber/amberlaw21.ReplayTellsBursts", spec := "replayTellsBursts", unfollowed := true, recurses := true, apart := false }
def ReplayTellsBurstsSaid : Prop := replayTellsBurstsRow.holds Try.pinned (OpenSpec.ofChange replayTellsBurstsSpec)

/-- ITS FALSE NEIGHBOUR: 'it returns false'. Refute it at one input. -/
def replayTellsBurstsWrong : ChangeSpec := { name := "replayTellsBursts", fn := fun _ => fun
  | [d1, d2, d3, d4] => { results := [.lit (.bool false)], args := [d1, d2, d3, d4] }
  | _ => none }
def ReplayTellsBurstsWrongFalsely : Prop := replayTellsBurstsRow.holds Try.pinned (OpenSpec.ofChange replayTellsBurstsWrong)

/- THE SECOND FORM. 'bulk': how many values and letters a reading holds, each counted each time it is reached (what is shared counts as often as it is met; a slice's spare places count too). A statement '..UptoSaid' is the law's where the arguments, and the package variables that the reading takes, are together of bulk at most 1048576: NARROWER than '..Said'. Prove '..Said' where nothing that the law and all that it calls make is longer than what came in: it says more and counts as full. Else prove '..UptoSaid'. A law counts once. -/
mutual
def uptoBulk {H : Type} : DataW H → Nat
  | .lit (.string bytes) => bytes.length + 1
  | .lit _ => 1
  | .nil => 1
  | .ptr d => uptoBulk d + 1
  | .slice elems spare => uptoBulkAll elems + uptoBulkAll spare + 1
  | .agg parts => uptoBulkAll parts + 1
  | .iface _ d => uptoBulk d + 1
  | .map entries => uptoBulkEntries entries + 1
  | .held _ => 1
def uptoBulkAll {H : Type} : List (DataW H) → Nat
  | [] => 0
  | d :: r => uptoBulk d + uptoBulkAll r
def uptoBulkEntries {H : Type} : List (Lit × DataW H) → Nat
  | [] => 0
  | x :: r => uptoBulkEntry x + uptoBulkEntries r
def uptoBulkEntry {H : Type} : Lit × DataW H → Nat
  | (.string bytes, d) => bytes.length + uptoBulk d + 1
  | (_, d) => uptoBulk d + 1
 end
def uptoSmall : (H : Type) → List (DataW H) → Bool := fun _ ds => decide (uptoBulkAll ds ≤ 1048576)
def OpenSpec.upto (s : _root_.Go.ChangeSpec) : _root_.Go.OpenSpec := { _root_.Go.OpenSpec.ofChange s with cond := some uptoSmall }

/-- 'amberlaw21.ReplayReads', WHERE WHAT IT READS IS OF BULK AT MOST 1048576: true; the input reads as it did. -/
def replayReadsUptoRow : OpenClaim := { program := "ytoebhddgpicegaa", sum := "6c982898e1289af01b9249813d172307c255b6184ed69b3e938cca8212631a63", func := "amber/amberlaw21.ReplayReads", spec := "replayReads", unfollowed := true, recurses := true, apart := false, narrowed := true }
def ReplayReadsUptoSaid : Prop := replayReadsUptoRow.holds Try.pinned (OpenSpec.upto replayReadsSpec)

/-- 'amberlaw21.ReplaySums', WHERE WHAT IT READS IS OF BULK AT MOST 1048576: true; the input reads as it did. -/
def replaySumsUptoRow : OpenClaim := { program := "ytoebhddgpicegaa", sum := "6c982898e1289af01b9249813d172307c255b6184ed69b3e938cca8212631a63", func := "amber/amberlaw21.ReplaySums", spec := "replaySums", unfollowed := true, recurses := true, apart := false, narrowed := true }
def ReplaySumsUptoSaid : Prop := replaySumsUptoRow.holds Try.pinned (OpenSpec.upto replaySumsSpec)

/-- 'amberlaw21.ReplayBack', WHERE WHAT IT READS IS OF BULK AT MOST 1048576: true; the input reads as it did. -/
def replayBackUptoRow : OpenClaim := { program := "ytoebhddgpicegaa", sum := "6c982898e1289af01b9249813d172307c255b6184ed69b3e938cca8212631a63", func := "amber/amberlaw21.ReplayBack", spec := "replayBack", unfollowed := true, recurses := true, apart := false, narrowed := true }
def ReplayBackUptoSaid : Prop := replayBackUptoRow.holds Try.pinned (OpenSpec.upto replayBackSpec)

/-- 'amberlaw21.ReplayDigests', WHERE WHAT IT READS IS OF BULK AT MOST 1048576: true; the input reads as it did. -/
def replayDigestsUptoRow : OpenClaim := { program := "ytoebhddgpicegaa", sum := "6c982898e1289af01b9249813d172307c255b6184ed69b3e938cca8212631a63", func := "amber/amberlaw21.ReplayDigests", spec := "replayDigests", unfollowed := true, recurses := true, apart := false, narrowed := true }
def ReplayDigestsUptoSaid : Prop := replayDigestsUptoRow.holds Try.pinned (OpenSpec.upto replayDigestsSpec)

/-- 'amberlaw21.ReplayApart', WHERE WHAT IT READS IS OF BULK AT MOST 1048576: true; the input reads as it did. -/
def replayApartUptoRow : OpenClaim := { program := "ytoebhddgpicegaa", sum := "6c982898e1289af01b9249813d172307c255b6184ed69b3e938cca8212631a63", func := "amber/amberlaw21.ReplayApart", spec := "replayApart", unfollowed := true, recurses := true, apart := false, narrowed := true }
def ReplayApartUptoSaid : Prop := replayApartUptoRow.holds Try.pinned (OpenSpec.upto replayApartSpec)

/-- 'amberlaw21.ReplayTellsBursts', WHERE WHAT IT READS IS OF BULK AT MOST 1048576: true; the input reads as it did. -/
def replayTellsBurstsUptoRow : OpenClaim := { program := "ytoebhddgpicegaa", sum := "6c982898e1289af01b9249813d172307c255b6184ed69b3e938cca8212631a63", func := "amber/amberlaw21.ReplayTellsBursts", spec := "replayTellsBursts", unfollowed := true, recurses := true, apart := false, narrowed := true }
def ReplayTellsBurstsUptoSaid : Prop := replayTellsBurstsUptoRow.holds Try.pinned (OpenSpec.upto replayTellsBurstsSpec)

end Rows
end Go.Proofs.Ytoebhddgpicegaa
