/-
  No cell of these rows narrows 'for every input' (looked for: loops, veiled, ifaces, maps, wideKeys, modest, calm, conditions, laid).
  DERIVED. THE GIVEN ROWS OF THIS SEAT. 4 by the template 'for every input the law returns true; each argument reads behind the call as it read before'; 0 by the template 'total and deterministic' (their statements: YtdgdiikijjlnnaaTotals.lean).
  GIVEN WITH THE SEED: the statements are not yours to turn. If you find one false, say at which input.
  Laid BY PROGRAM, IN A SANDBOX (cutbox-rows.mjs): the forced cells as the released guide's own fill.sh prints them over the translation ab48bc6dd6d4d0b9… (all of the seat's roots in one cut). By AI agents, Wed Nov 11 2026. No macro, syntax, notation, axiom, sorry.
-/
import Derived.Test.YtdgdiikijjlnnaaChecked
import GoSem.Claim
import GoSem.ClaimJoined
import GoSem.ClaimMapViews
import Derived.JoinedTies
import Derived.KernelRfl
namespace Go.Proofs.Ytdgdiikijjlnnaa
/- THE CELL 'sum', in the pinned program and in every row, IS THE sha256 OF THE DUMP (.gsa) THAT YtdgdiikijjlnnaaProg.lean LOADS. Nothing in Lean hashes anything: it is a label: what it is worth is what the hold of that sum in a sandbox is worth. -/
noncomputable def Try.pinned : Pinned := { name := "ytdgdiikijjlnnaa", sum := "ab48bc6dd6d4d0b9d6d7927a724768201da528fbbe46c6f7db00816a85421c74", checked := Try.checked }
namespace Rows
def none {H : Type} : Left H := { results := [], args := [] }

/-- 'folkmootlaw15.ContentOne': WHATEVER THE INPUT: true; the input reads as it did. -/
def contentOneSpec : ChangeSpec := { name := "contentOne", fn := fun _ => fun
  | [d] => { results := [.lit (.bool true)], args := [d] }
  | _ => none }
def contentOneRow : OpenClaim := { program := "ytdgdiikijjlnnaa", sum := "ab48bc6dd6d4d0b9d6d7927a724768201da528fbbe46c6f7db00816a85421c74", func := "folkmoot/folkmootlaw15.ContentOne", spec := "contentOne", unfollowed := true, recurses := true, plainKeys := false, apart := false }
def ContentOneSaid : Prop := contentOneRow.holds Try.pinned (OpenSpec.ofChange contentOneSpec)

/-- ITS FALSE NEIGHBOUR: 'it returns false'. Refute it at one input. -/
def contentOneWrong : ChangeSpec := { name := "contentOne", fn := fun _ => fun
  | [d] => { results := [.lit (.bool false)], args := [d] }
  | _ => none }
def ContentOneWrongFalsely : Prop := contentOneRow.holds Try.pinned (OpenSpec.ofChange contentOneWrong)

/-- 'folkmootlaw15.ContentReads': WHATEVER THE INPUT: true; the input reads as it did. -/
def contentReadsSpec : ChangeSpec := { name := "contentReads", fn := fun _ => fun
  | [d] => { results := [.lit (.bool true)], args := [d] }
  | _ => none }
def contentReadsRow : OpenClaim := { program := "ytdgdiikijjlnnaa", sum := "ab48bc6dd6d4d0b9d6d7927a724768201da528fbbe46c6f7db00816a85421c74", func := "folkmoot/folkmootlaw15.ContentReads", spec := "contentReads", unfollowed := true, recurses := true, plainKeys := false, apart := false }
def ContentReadsSaid : Prop := contentReadsRow.holds Try.pinned (OpenSpec.ofChange contentReadsSpec)

/-- ITS FALSE NEIGHBOUR: 'it returns false'. Refute it at one input. -/
def contentReadsWrong : ChangeSpec := { name := "contentReads", fn := fun _ => fun
  | [d] => { results := [.lit (.bool false)], args := [d] }
  | _ => none }
def ContentReadsWrongFalsely : Prop := contentReadsRow.holds Try.pinned (OpenSpec.ofChange contentReadsWrong)

/-- 'folkmootlaw15.ContentAll': WHATEVER THE INPUT: true; the input reads as it did. -/
def contentAllSpec : ChangeSpec := { name := "contentAll", fn := fun _ => fun
  | [d] => { results := [.lit (.bool true)], args := [d] }
  | _ => none }
def contentAllRow : OpenClaim := { program := "ytdgdiikijjlnnaa", sum := "ab48bc6dd6d4d0b9d6d7927a724768201da528fbbe46c6f7db00816a85421c74", func := "folkmoot/folkmootlaw15.ContentAll", spec := "contentAll", unfollowed := true, recurses := true, plainKeys := false, apart := false }
def ContentAllSaid : Prop := contentAllRow.holds Try.pinned (OpenSpec.ofChange contentAllSpec)

/-- ITS FALSE NEIGHBOUR: 'it returns false'. Refute it at one input. -/
def contentAllWrong : ChangeSpec := { name := "contentAll", fn := fun _ => fun
  | [d] => { results := [.lit (.bool false)], args := [d] }
  | _ => none }
def ContentAllWrongFalsely : Prop := contentAllRow.holds Try.pinned (OpenSpec.ofChange contentAllWrong)

/-- 'folkmootlaw16.ExchangeMore': WHATEVER THE INPUT: true; the input reads as it did. -/
def exchangeMoreSpec : ChangeSpec := { name := "exchangeMore", fn := fun _ => fun
  | [d1, d2] => { results := [.lit (.bool true)], args := [d1, d2] }
  | _ => none }
def exchangeMoreRow : OpenClaim := { program := "ytdgdiikijjlnnaa", sum := "ab48bc6dd6d4d0b9d6d7927a724768201da528fbbe46c6f7db00816a85421c74", func := "folkmoot/folkmootlaw16.ExchangeMore", spec := "exchangeMore", inPlace := ["slices.overlaps[folkmoot/api.Entry]"], unfollowed := true, recurses := true, plainKeys := false, apart := false }
def ExchangeMoreSaid : Prop := exchangeMoreRow.holds Try.pinned (OpenSpec.ofChange exchangeMoreSpec)

/-- ITS FALSE NEIGHBOUR: 'it returns false'. Refute it at one input. -/
def exchangeMoreWrong : ChangeSpec := { name := "exchangeMore", fn := fun _ => fun
  | [d1, d2] => { results := [.lit (.bool false)], args := [d1, d2] }
  | _ => none }
def ExchangeMoreWrongFalsely : Prop := exchangeMoreRow.holds Try.pinned (OpenSpec.ofChange exchangeMoreWrong)

/- THE SECOND FORM. 'bulk': how many values and letters a reading holds, each counted each time it is reached (what is shared counts as often as it is met; a slice's spare places count too). A statement '..UptoSaid' is the law's where the arguments, and the package variables that the reading takes, are together of bulk at most 1048576: NARROWER than '..Said'. Prove '..Said' where nothing that the law and all that it calls make is longer than what came in: it says more and counts as full. Else prove '..UptoSaid'. A law counts once. -/
mutual
def uptoBulk {H : Type} : DataW H → Nat
  | .lit (.string bytes) => bytes.length + 1
  | .lit _ => 1
  | .nil => 1
  | .ptr d => uptoBulk d + 1
  | .slice elems spare => uptoBulkAll elems + uptoBulkAll spare + 1
  | .agg parts => uptoBulkAll parts + 1
  | .iface _ d => uptoBulk d + 1
  | .map entries => uptoBulkEntries entries + 1
  | .held _ => 1
def uptoBulkAll {H : Type} : List (DataW H) → Nat
  | [] => 0
  | d :: r => uptoBulk d + uptoBulkAll r
def uptoBulkEntries {H : Type} : List (Lit × DataW H) → Nat
  | [] => 0
  | x :: r => uptoBulkEntry x + uptoBulkEntries r
def uptoBulkEntry {H : Type} : Lit × DataW H → Nat
  | (.string bytes, d) => bytes.length + uptoBulk d + 1
  | (_, d) => uptoBulk d + 1
 end
def uptoSmall : (H : Type) → List (DataW H) → Bool := fun _ ds => decide (uptoBulkAll ds ≤ 1048576)
def OpenSpec.upto (s : _root_.Go.ChangeSpec) : _root_.Go.OpenSpec := { _root_.Go.OpenSpec.ofChange s with cond := some uptoSmall }

/-- 'folkmootlaw15.ContentOne', WHERE WHAT IT READS IS OF BULK AT MOST 1048576: true; the input reads as it did. -/
def contentOneUptoRow : OpenClaim := { program := "ytdgdiikijjlnnaa", sum := "ab48bc6dd6d4d0b9d6d7927a724768201da528fbbe46c6f7db00816a85421c74", func := "folkmoot/folkmootlaw15.ContentOne", spec := "contentOne", unfollowed := true, recurses := true, plainKeys := false, apart := false, narrowed := true }
def ContentOneUptoSaid : Prop := contentOneUptoRow.holds Try.pinned (OpenSpec.upto contentOneSpec)

/-- 'folkmootlaw15.ContentReads', WHERE WHAT IT READS IS OF BULK AT MOST 1048576: true; the input reads as it did. -/
def contentReadsUptoRow : OpenClaim := { program := "ytdgdiikijjlnnaa", sum := "ab48bc6dd6d4d0b9d6d7927a724768201da528fbbe46c6f7db00816a85421c74", func := "folkmoot/folkmootlaw15.ContentReads", spec := "contentReads", unfollowed := true, recurses := true, plainKeys := false, apart := false, narrowed := true }
def ContentReadsUptoSaid : Prop := contentReadsUptoRow.holds Try.pinned (OpenSpec.upto contentReadsSpec)

/-- 'folkmootlaw15.ContentAll', WHERE WHAT IT READS IS OF BULK AT MOST 1048576: true; the input reads as it did. -/
def contentAllUptoRow : OpenClaim := { program := "ytdgdiikijjlnnaa", sum := "ab48bc6dd6d4d0b9d6d7927a724768201da528fbbe46c6f7db00816a85421c74", func := "folkmoot/folkmootlaw15.ContentAll", spec := "contentAll", unfollowed := true, recurses := true, plainKeys := false, apart := false, narrowed := true }
def ContentAllUptoSaid : Prop := contentAllUptoRow.holds Try.pinned (OpenSpec.upto contentAllSpec)

/-- 'folkmootlaw16.ExchangeMore', WHERE WHAT IT READS IS OF BULK AT MOST 1048576: true; the input reads as it did. -/
def exchangeMoreUptoRow : OpenClaim := { program := "ytdgdiikijjlnnaa", sum := "ab48bc6dd6d4d0b9d6d7927a724768201da528fbbe46c6f7db00816a85421c74", func := "folkmoot/folkmootlaw16.ExchangeMore", spec := "exchangeMore", inPlace := ["slices.overlaps[folkmoot/api.Entry]"], unfollowed := true, recurses := true, plainKeys := false, apart := false, narrowed := true }
def ExchangeMoreUptoSaid : Prop := exchangeMoreUptoRow.holds Try.pinned (OpenSpec.upto exchangeMoreSpec)

end Rows
end Go.Proofs.Ytdgdiikijjlnnaa
