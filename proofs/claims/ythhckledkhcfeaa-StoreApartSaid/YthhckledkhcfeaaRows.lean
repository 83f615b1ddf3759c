/-
  No cell of these rows narrows 'for every input' (looked for: loops, veiled, ifaces, maps, wideKeys, modest, calm, conditions, laid).
  DERIVED. THE GIVEN ROWS OF THIS SEAT. 9 by the template 'for every input the law returns true; each argument reads behind the call as it read before'; 0 by the template 'total and deterministic' (their statements: YthhckledkhcfeaaTotals.lean).
  GIVEN WITH THE SEED: the statements are not yours to turn. If you find one false, say at which input.
  Laid BY PROGRAM, IN A SANDBOX (cutbox-rows.mjs): the forced cells as the released guide's own fill.sh prints them over the translation 444edf36828535b7… (all of the seat's roots in one cut). By AI agents, Wed Nov 11 2026. No macro, syntax, notation, axiom, sorry.
-/
import Derived.Test.YthhckledkhcfeaaChecked
import GoSem.Claim
import GoSem.ClaimJoined
import GoSem.ClaimMapViews
import Derived.JoinedTies
import Derived.KernelRfl
namespace Go.Proofs.Ythhckledkhcfeaa
/- THE CELL 'sum', in the pinned program and in every row, IS THE sha256 OF THE DUMP (.gsa) THAT YthhckledkhcfeaaProg.lean LOADS. Nothing in Lean hashes anything: it is a label: what it is worth is what the hold of that sum in a sandbox is worth. -/
noncomputable def Try.pinned : Pinned := { name := "ythhckledkhcfeaa", sum := "444edf36828535b7d8fdac45fcf12c6f0680d3b322b57665dc03f5158aef7827", checked := Try.checked }
namespace Rows
def none {H : Type} : Left H := { results := [], args := [] }

/-- 'mezzotintlaw05.StoreParts': WHATEVER THE INPUT: true; the input reads as it did. -/
def storePartsSpec : ChangeSpec := { name := "storeParts", fn := fun _ => fun
  | [d1, d2, d3, d4, d5] => { results := [.lit (.bool true)], args := [d1, d2, d3, d4, d5] }
  | _ => none }
def storePartsRow : OpenClaim := { program := "ythhckledkhcfeaa", sum := "444edf36828535b7d8fdac45fcf12c6f0680d3b322b57665dc03f5158aef7827", func := "mezzotint/mezzotintlaw05.StoreParts", spec := "storeParts", apart := false }
def StorePartsSaid : Prop := storePartsRow.holds Try.pinned (OpenSpec.ofChange storePartsSpec)

/-- ITS FALSE NEIGHBOUR: 'it returns false'. Refute it at one input. -/
def storePartsWrong : ChangeSpec := { name := "storeParts", fn := fun _ => fun
  | [d1, d2, d3, d4, d5] => { results := [.lit (.bool false)], args := [d1, d2, d3, d4, d5] }
  | _ => none }
def StorePartsWrongFalsely : Prop := storePartsRow.holds Try.pinned (OpenSpec.ofChange storePartsWrong)

/-- 'mezzotintlaw06.SaveNested': WHATEVER THE INPUT: true; the input reads as it did. -/
def saveNestedSpec : ChangeSpec := { name := "saveNested", fn := fun _ => fun
  | [d1, d2] => { results := [.lit (.bool true)], args := [d1, d2] }
  | _ => none }
def saveNestedRow : OpenClaim := { program := "ythhckledkhcfeaa", sum := "444edf36828535b7d8fdac45fcf12c6f0680d3b322b57665dc03f5158aef7827", func := "mezzotint/mezzotintlaw06.SaveNested", spec := "saveNested", inPlace := ["slices.overlaps[mezzotint/store.pair]"], unfollowed := true, recurses := true, apart := false }
def SaveNestedSaid : Prop := saveNestedRow.holds Try.pinned (OpenSpec.ofChange saveNestedSpec)

/-- ITS FALSE NEIGHBOUR: 'it returns false'. Refute it at one input. -/
def saveNestedWrong : ChangeSpec := { name := "saveNested", fn := fun _ => fun
  | [d1, d2] => { results := [.lit (.bool false)], args := [d1, d2] }
  | _ => none }
def SaveNestedWrongFalsely : Prop := saveNestedRow.holds Try.pinned (OpenSpec.ofChange saveNestedWrong)

/-- 'mezzotintlaw06.SaveRefuses': WHATEVER THE INPUT: true; the input reads as it did. -/
def saveRefusesSpec : ChangeSpec := { name := "saveRefuses", fn := fun _ => fun
  | [d] => { results := [.lit (.bool true)], args := [d] }
  | _ => none }
def saveRefusesRow : OpenClaim := { program := "ythhckledkhcfeaa", sum := "444edf36828535b7d8fdac45fcf12c6f0680d3b322b57665dc03f5158aef7827", func := "mezzotint/mezzotintlaw06.SaveRefuses", spec := "saveRefuses", inPlace := ["slices.overlaps[mezzotint/store.pair]"], unfollowed := true, recurses := true, apart := false }
def SaveRefusesSaid : Prop := saveRefusesRow.holds Try.pinned (OpenSpec.ofChange saveRefusesSpec)

/-- ITS FALSE NEIGHBOUR: 'it returns false'. Refute it at one input. -/
def saveRefusesWrong : ChangeSpec := { name := "saveRefuses", fn := fun _ => fun
  | [d] => { results := [.lit (.bool false)], args := [d] }
  | _ => none }
def SaveRefusesWrongFalsely : Prop := saveRefusesRow.holds Try.pinned (OpenSpec.ofChange saveRefusesWrong)

/-- 'mezzotintlaw05.StoreApart': WHATEVER THE INPUT: true; the input reads as it did. -/
def storeApartSpec : ChangeSpec := { name := "storeApart", fn := fun _ => fun
  | [d1, d2, d3] => { results := [.lit (.bool true)], args := [d1, d2, d3] }
  | _ => none }
def storeApartRow : OpenClaim := { program := "ythhckledkhcfeaa", sum := "444edf36828535b7d8fdac45fcf12c6f0680d3b322b57665dc03f5158aef7827", func := "mezzotint/mezzotintlaw05.StoreApart", spec := "storeApart", unfollowed := true, recurses := true, apart := false }
def StoreApartSaid : Prop := storeApartRow.holds Try.pinned (OpenSpec.ofChange storeApartSpec)

/-- ITS FALSE NEIGHBOUR: 'it returns false'. Refute it at one input. -/
def storeApartWrong : ChangeSpec := { name := "storeApart", fn := fun _ => fun
  | [d1, d2, d3] => { results := [.lit (.bool false)], args := [d1, d2, d3] }
  | _ => none }
def StoreApartWrongFalsely : Prop := storeApartRow.holds Try.pinned (OpenSpec.ofChange storeApartWrong)

/-- 'mezzotintlaw05.StoreActs': WHATEVER THE INPUT: true; the input reads as it did. -/
def storeActsSpec : ChangeSpec := { name := "storeActs", fn := fun _ => fun
  | [d1, d2] => { results := [.lit (.bool true)], args := [d1, d2] }
  | _ => none }
def storeActsRow : OpenClaim := { program := "ythhckledkhcfeaa", sum := "444edf36828535b7d8fdac45fcf12c6f0680d3b322b57665dc03f5158aef7827", func := "mezzotint/mezzotintlaw05.StoreActs", spec := "storeActs", unfollowed := true, recurses := true, apart := false }
def StoreActsSaid : Prop := storeActsRow.holds Try.pinned (OpenSpec.ofChange storeActsSpec)

/-- ITS FALSE NEIGHBOUR: 'it returns false'. Refute it at one input. -/
def storeActsWrong : ChangeSpec := { name := "storeActs", fn := fun _ => fun
  | [d1, d2] => { results := [.lit (.bool false)], args := [d1, d2] }
  | _ => none }
def StoreActsWrongFalsely : Prop := storeActsRow.holds Try.pinned (OpenSpec.ofChange storeActsWrong)

/-- 'mezzotintlaw06.SaveActs': WHATEVER THE INPUT: true; the input reads as it did. -/
def saveActsSpec : ChangeSpec := { name := "saveActs", fn := fun _ => fun
  | [d] => { results := [.lit (.bool true)], args := [d] }
  | _ => none }
def saveActsRow : OpenClaim := { program := "ythhckledkhcfeaa", sum := "444edf36828535b7d8fdac45fcf12c6f0680d3b322b57665dc03f5158aef7827", func := "mezzotint/mezzotintlaw06.SaveActs", spec := "saveActs", inPlace := ["slices.overlaps[mezzotint/store.pair]"], unfollowed := true, recurses := true, apart := false }
def SaveActsSaid : Prop := saveActsRow.holds Try.pinned (OpenSpec.ofChange saveActsSpec)

/-- ITS FALSE NEIGHBOUR: 'it returns false'. Refute it at one input. -/
def saveActsWrong : ChangeSpec := { name := "saveActs", fn := fun _ => fun
  | [d] => { results := [.lit (.bool false)], args := [d] }
  | _ => none }
def SaveActsWrongFalsely : Prop := saveActsRow.holds Try.pinned (OpenSpec.ofChange saveActsWrong)

/-- 'mezzotintlaw06.SaveStrings': WHATEVER THE INPUT: true; the input reads as it did. -/
def saveStringsSpec : ChangeSpec := { name := "saveStrings", fn := fun _ => fun
  | [d1, d2, d3] => { results := [.lit (.bool true)], args := [d1, d2, d3] }
  | _ => none }
def saveStringsRow : OpenClaim := { program := "ythhckledkhcfeaa", sum := "444edf36828535b7d8fdac45fcf12c6f0680d3b322b57665dc03f5158aef7827", func := "mezzotint/mezzotintlaw06.SaveStrings", spec := "saveStrings", inPlace := ["slices.overlaps[mezzotint/store.pair]"], unfollowed := true, recurses := true, apart := false }
def SaveStringsSaid : Prop := saveStringsRow.holds Try.pinned (OpenSpec.ofChange saveStringsSpec)

/-- ITS FALSE NEIGHBOUR: 'it returns false'. Refute it at one input. -/
def saveStringsWrong : ChangeSpec := { name := "saveStrings", fn := fun _ => fun
  | [d1, d2, d3] => { results := [.lit (.bool false)], args := [d1, d2, d3] }
  | _ => none }
def SaveStringsWrongFalsely : Prop := saveStringsRow.holds Try.pinned (OpenSpec.ofChange saveStringsWrong)

/-- 'mezzotintlaw09.CollFound': WHATEVER THE INPUT: true; the input reads as it did. -/
def collFoundSpec : ChangeSpec := { name := "collFound", fn := fun _ => fun
  | [d1, d2] => { results := [.lit (.bool true)], args := [d1, d2] }
  | _ => none }
def collFoundRow : OpenClaim := { program := "ythhckledkhcfeaa", sum := "444edf36828535b7d8fdac45fcf12c6f0680d3b322b57665dc03f5158aef7827", func := "mezzotint/mezzotintlaw09.CollFound", spec := "collFound", inPlace := ["internal/bytealg.IndexByte", "internal/bytealg.Index", "internal/bytealg.Compare"], unfollowed := true, recurses := true, named := ["internal/bytealg.MaxLen"], apart := false }
def CollFoundSaid : Prop := collFoundRow.holds Try.pinned (OpenSpec.ofChange collFoundSpec)

/-- ITS FALSE NEIGHBOUR: 'it returns false'. Refute it at one input. -/
def collFoundWrong : ChangeSpec := { name := "collFound", fn := fun _ => fun
  | [d1, d2] => { results := [.lit (.bool false)], args := [d1, d2] }
  | _ => none }
def CollFoundWrongFalsely : Prop := collFoundRow.holds Try.pinned (OpenSpec.ofChange collFoundWrong)

/-- 'mezzotintlaw09.CollMoves': WHATEVER THE INPUT: true; the input reads as it did. -/
def collMovesSpec : ChangeSpec := { name := "collMoves", fn := fun _ => fun
  | [d1, d2, d3, d4] => { results := [.lit (.bool true)], args := [d1, d2, d3, d4] }
  | _ => none }
def collMovesRow : OpenClaim := { program := "ythhckledkhcfeaa", sum := "444edf36828535b7d8fdac45fcf12c6f0680d3b322b57665dc03f5158aef7827", func := "mezzotint/mezzotintlaw09.CollMoves", spec := "collMoves", inPlace := ["internal/bytealg.IndexByte", "internal/bytealg.Index", "internal/bytealg.Compare"], unfollowed := true, recurses := true, named := ["internal/bytealg.MaxLen"], apart := false }
def CollMovesSaid : Prop := collMovesRow.holds Try.pinned (OpenSpec.ofChange collMovesSpec)

/-- ITS FALSE NEIGHBOUR: 'it returns false'. Refute it at one input. -/
def collMovesWrong : ChangeSpec := { name := "collMoves", fn := fun _ => fun
  | [d1, d2, d3, d4] => { results := [.lit (.bool false)], args := [d1, d2, d3, d4] }
  | _ => none }
def CollMovesWrongFalsely : Prop := collMovesRow.holds Try.pinned (OpenSpec.ofChange collMovesWrong)

/- THE SECOND FORM. 'bulk': how many values and letters a reading holds, each counted each time it is reached (what is shared counts as often as it is met; a slice's spare places count too). A statement '..UptoSaid' is the law's where the arguments, and the package variables that the reading takes, are together of bulk at most 1048576: NARROWER than '..Said'. Prove '..Said' where nothing that the law and all that it calls make is longer than what came in: it says more and counts as full. Else prove '..UptoSaid'. A law counts once. -/
mutual
def uptoBulk {H : Type} : DataW H → Nat
  | .lit (.string bytes) => bytes.length + 1
  | .lit _ => 1
  | .nil => 1
  | .ptr d => uptoBulk d + 1
  | .slice elems spare => uptoBulkAll elems + uptoBulkAll spare + 1
  | .agg parts => uptoBulkAll parts + 1
  | .iface _ d => uptoBulk d + 1
  | .map entries => uptoBulkEntries entries + 1
  | .held _ => 1
def uptoBulkAll {H : Type} : List (DataW H) → Nat
  | [] => 0
  | d :: r => uptoBulk d + uptoBulkAll r
def uptoBulkEntries {H : Type} : List (Lit × DataW H) → Nat
  | [] => 0
  | x :: r => uptoBulkEntry x + uptoBulkEntries r
def uptoBulkEntry {H : Type} : Lit × DataW H → Nat
  | (.string bytes, d) => bytes.length + uptoBulk d + 1
  | (_, d) => uptoBulk d + 1
 end
def uptoSmall : (H : Type) → List (DataW H) → Bool := fun _ ds => decide (uptoBulkAll ds ≤ 1048576)
def OpenSpec.upto (s : _root_.Go.ChangeSpec) : _root_.Go.OpenSpec := { _root_.Go.OpenSpec.ofChange s with cond := some uptoSmall }

/-- 'mezzotintlaw05.StoreParts', WHERE WHAT IT READS IS OF BULK AT MOST 1048576: true; the input reads as it did. -/
def storePartsUptoRow : OpenClaim := { program := "ythhckledkhcfeaa", sum := "444edf36828535b7d8fdac45fcf12c6f0680d3b322b57665dc03f5158aef7827", func := "mezzotint/mezzotintlaw05.StoreParts", spec := "storeParts", apart := false, narrowed := true }
def StorePartsUptoSaid : Prop := storePartsUptoRow.holds Try.pinned (OpenSpec.upto storePartsSpec)

/-- 'mezzotintlaw06.SaveNested', WHERE WHAT IT READS IS OF BULK AT MOST 1048576: true; the input reads as it did. -/
def saveNestedUptoRow : OpenClaim := { program := "ythhckledkhcfeaa", sum := "444edf36828535b7d8fdac45fcf12c6f0680d3b322b57665dc03f5158aef7827", func := "mezzotint/mezzotintlaw06.SaveNested", spec := "saveNested", inPlace := ["slices.overlaps[mezzotint/store.pair]"], unfollowed := true, recurses := true, apart := false, narrowed := true }
def SaveNestedUptoSaid : Prop := saveNestedUptoRow.holds Try.pinned (OpenSpec.upto saveNestedSpec)

/-- 'mezzotintlaw06.SaveRefuses', WHERE WHAT IT READS IS OF BULK AT MOST 1048576: true; the input reads as it did. -/
def saveRefusesUptoRow : OpenClaim := { program := "ythhckledkhcfeaa", sum := "444edf36828535b7d8fdac45fcf12c6f0680d3b322b57665dc03f5158aef7827", func := "mezzotint/mezzotintlaw06.SaveRefuses", spec := "saveRefuses", inPlace := ["slices.overlaps[mezzotint/store.pair]"], unfollowed := true, recurses := true, apart := false, narrowed := true }
def SaveRefusesUptoSaid : Prop := saveRefusesUptoRow.holds Try.pinned (OpenSpec.upto saveRefusesSpec)

/-- 'mezzotintlaw05.StoreApart', WHERE WHAT IT READS IS OF BULK AT MOST 1048576: true; the input reads as it did. -/
def storeApartUptoRow : OpenClaim := { program := "ythhckledkhcfeaa", sum := "444edf36828535b7d8fdac45fcf12c6f0680d3b322b57665dc03f5158aef7827", func := "mezzotint/mezzotintlaw05.StoreApart", spec := "storeApart", unfollowed := true, recurses := true, apart := false, narrowed := true }
def StoreApartUptoSaid : Prop := storeApartUptoRow.holds Try.pinned (OpenSpec.upto storeApartSpec)

/-- 'mezzotintlaw05.StoreActs', WHERE WHAT IT READS IS OF BULK AT MOST 1048576: true; the input reads as it did. -/
def storeActsUptoRow : OpenClaim := { program := "ythhckledkhcfeaa", sum := "444edf36828535b7d8fdac45fcf12c6f0680d3b322b57665dc03f5158aef7827", func := "mezzotint/mezzotintlaw05.StoreActs", spec := "storeActs", unfollowed := true, recurses := true, apart := false, narrowed := true }
def StoreActsUptoSaid : Prop := storeActsUptoRow.holds Try.pinned (OpenSpec.upto storeActsSpec)

/-- 'mezzotintlaw06.SaveActs', WHERE WHAT IT READS IS OF BULK AT MOST 1048576: true; the input reads as it did. -/
def saveActsUptoRow : OpenClaim := { program := "ythhckledkhcfeaa", sum := "444edf36828535b7d8fdac45fcf12c6f0680d3b322b57665dc03f5158aef7827", func := "mezzotint/mezzotintlaw06.SaveActs", spec := "saveActs", inPlace := ["slices.overlaps[mezzotint/store.pair]"], unfollowed := true, recurses := true, apart := false, narrowed := true }
def SaveActsUptoSaid : Prop := saveActsUptoRow.holds Try.pinned (OpenSpec.upto saveActsSpec)

/-- 'mezzotintlaw06.SaveStrings', WHERE WHAT IT READS IS OF BULK AT MOST 1048576: true; the input reads as it did. -/
def saveStringsUptoRow : OpenClaim := { program := "ythhckledkhcfeaa", sum := "444edf36828535b7d8fdac45fcf12c6f0680d3b322b57665dc03f5158aef7827", func := "mezzotint/mezzotintlaw06.SaveStrings", spec := "saveStrings", inPlace := ["slices.overlaps[mezzotint/store.pair]"], unfollowed := true, recurses := true, apart := false, narrowed := true }
def SaveStringsUptoSaid : Prop := saveStringsUptoRow.holds Try.pinned (OpenSpec.upto saveStringsSpec)

/-- 'mezzotintlaw09.CollFound', WHERE WHAT IT READS IS OF BULK AT MOST 1048576: true; the input reads as it did. -/
def collFoundUptoRow : OpenClaim := { program := "ythhckledkhcfeaa", sum := "444edf36828535b7d8fdac45fcf12c6f0680d3b322b57665dc03f5158aef7827", func := "mezzotint/mezzotintlaw09.CollFound", spec := "collFound", inPlace := ["internal/bytealg.IndexByte", "internal/bytealg.Index", "internal/bytealg.Compare"], unfollowed := true, recurses := true, named := ["internal/bytealg.MaxLen"], apart := false, narrowed := true }
def CollFoundUptoSaid : Prop := collFoundUptoRow.holds Try.pinned (OpenSpec.upto collFoundSpec)

/-- 'mezzotintlaw09.CollMoves', WHERE WHAT IT READS IS OF BULK AT MOST 1048576: true; the input reads as it did. -/
def collMovesUptoRow : OpenClaim := { program := "ythhckledkhcfeaa", sum := "444edf36828535b7d8fdac45fcf12c6f0680d3b322b57665dc03f5158aef7827", func := "mezzotint/mezzotintlaw09.CollMoves", spec := "collMoves", inPlace := ["internal/bytealg.IndexByte", "internal/bytealg.Index", "internal/bytealg.Compare"], unfollowed := true, recurses := true, named := ["internal/bytealg.MaxLen"], apart := false, narrowed := true }
def CollMovesUptoSaid : Prop := collMovesUptoRow.holds Try.pinned (OpenSpec.upto collMovesSpec)

end Rows
end Go.Proofs.Ythhckledkhcfeaa
