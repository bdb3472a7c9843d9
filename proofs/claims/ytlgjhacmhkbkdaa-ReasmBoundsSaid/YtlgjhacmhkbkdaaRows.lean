/-
  No cell of these rows narrows 'for every input' (looked for: loops, veiled, ifaces, maps, wideKeys, modest, calm, conditions, laid).
  DERIVED. THE GIVEN ROWS OF THIS SEAT. 6 by the template 'for every input the law returns true; each argument reads behind the call as it read before'; 0 by the template 'total and deterministic' (their statements: YtlgjhacmhkbkdaaTotals.lean).
  GIVEN WITH THE SEED: the statements are not yours to turn. If you find one false, say at which input.
  Laid BY PROGRAM, IN A SANDBOX (cutbox-rows.mjs): the forced cells as the released guide's own fill.sh prints them over the translation 24c39394b2b34511… (all of the seat's roots in one cut). By AI agents, Wed Nov 11 2026. No macro, syntax, notation, axiom, sorry.
-/
import Derived.Test.YtlgjhacmhkbkdaaChecked
import GoSem.Claim
import GoSem.ClaimJoined
import GoSem.ClaimMapViews
import Derived.JoinedTies
import Derived.KernelRfl
namespace Go.Proofs.Ytlgjhacmhkbkdaa
/- THE CELL 'sum', in the pinned program and in every row, IS THE sha256 OF THE DUMP (.gsa) THAT YtlgjhacmhkbkdaaProg.lean LOADS. Nothing in Lean hashes anything: it is a label: what it is worth is what the hold of that sum in a sandbox is worth. -/
noncomputable def Try.pinned : Pinned := { name := "ytlgjhacmhkbkdaa", sum := "24c39394b2b3451183bd4226c59407bf461c1ce5de31413311fe8d61fd1822fa", checked := Try.checked }
namespace Rows
def none {H : Type} : Left H := { results := [], args := [] }

/-- 'palanquinlaw16.ReasmPlays': WHATEVER THE INPUT: true; the input reads as it did. -/
def reasmPlaysSpec : ChangeSpec := { name := "reasmPlays", fn := fun _ => fun
  | [d1, d2] => { results := [.lit (.bool true)], args := [d1, d2] }
  | _ => none }
def reasmPlaysRow : OpenClaim := { program := "ytlgjhacmhkbkdaa", sum := "24c39394b2b3451183bd4226c59407bf461c1ce5de31413311fe8d61fd1822fa", func := "palanquin/palanquinlaw16.ReasmPlays", spec := "reasmPlays", inPlace := ["internal/abi.NoEscape"], unfollowed := true, recurses := true, plainKeys := false, apart := false }
def ReasmPlaysSaid : Prop := reasmPlaysRow.holds Try.pinned (OpenSpec.ofChange reasmPlaysSpec)

/-- ITS FALSE NEIGHBOUR: 'it returns false'. Refute it at one input. -/
def reasmPlaysWrong : ChangeSpec := { name := "reasmPlays", fn := fun _ => fun
  | [d1, d2] => { results := [.lit (.bool false)], args := [d1, d2] }
  | _ => none }
def ReasmPlaysWrongFalsely : Prop := reasmPlaysRow.holds Try.pinned (OpenSpec.ofChange reasmPlaysWrong)

/-- 'palanquinlaw16.ReasmBounds': WHATEVER THE INPUT: true; the input reads as it did. -/
def reasmBoundsSpec : ChangeSpec := { name := "reasmBounds", fn := fun _ => fun
  | [d1, d2] => { results := [.lit (.bool true)], args := [d1, d2] }
  | _ => none }
def reasmBoundsRow : OpenClaim := { program := "ytlgjhacmhkbkdaa", sum := "24c39394b2b3451183bd4226c59407bf461c1ce5de31413311fe8d61fd1822fa", func := "palanquin/palanquinlaw16.ReasmBounds", spec := "reasmBounds", inPlace := ["internal/abi.NoEscape"], unfollowed := true, recurses := true, plainKeys := false, apart := false }
def ReasmBoundsSaid : Prop := reasmBoundsRow.holds Try.pinned (OpenSpec.ofChange reasmBoundsSpec)

/-- ITS FALSE NEIGHBOUR: 'it returns false'. Refute it at one input. -/
def reasmBoundsWrong : ChangeSpec := { name := "reasmBounds", fn := fun _ => fun
  | [d1, d2] => { results := [.lit (.bool false)], args := [d1, d2] }
  | _ => none }
def ReasmBoundsWrongFalsely : Prop := reasmBoundsRow.holds Try.pinned (OpenSpec.ofChange reasmBoundsWrong)

/-- 'palanquinlaw16.ReasmApart': WHATEVER THE INPUT: true; the input reads as it did. -/
def reasmApartSpec : ChangeSpec := { name := "reasmApart", fn := fun _ => fun
  | [d1, d2, d3, d4, d5, d6] => { results := [.lit (.bool true)], args := [d1, d2, d3, d4, d5, d6] }
  | _ => none }
def reasmApartRow : OpenClaim := { program := "ytlgjhacmhkbkdaa", sum := "24c39394b2b3451183bd4226c59407bf461c1ce5de31413311fe8d61fd1822fa", func := "palanquin/palanquinlaw16.ReasmApart", spec := "reasmApart", inPlace := ["internal/abi.NoEscape"], unfollowed := true, recurses := true, plainKeys := false, apart := false }
def ReasmApartSaid : Prop := reasmApartRow.holds Try.pinned (OpenSpec.ofChange reasmApartSpec)

/-- ITS FALSE NEIGHBOUR: 'it returns false'. Refute it at one input. -/
def reasmApartWrong : ChangeSpec := { name := "reasmApart", fn := fun _ => fun
  | [d1, d2, d3, d4, d5, d6] => { results := [.lit (.bool false)], args := [d1, d2, d3, d4, d5, d6] }
  | _ => none }
def ReasmApartWrongFalsely : Prop := reasmApartRow.holds Try.pinned (OpenSpec.ofChange reasmApartWrong)

/-- 'palanquinlaw16.ReasmOverlaps': WHATEVER THE INPUT: true; the input reads as it did. -/
def reasmOverlapsSpec : ChangeSpec := { name := "reasmOverlaps", fn := fun _ => fun
  | [d1, d2, d3, d4, d5] => { results := [.lit (.bool true)], args := [d1, d2, d3, d4, d5] }
  | _ => none }
def reasmOverlapsRow : OpenClaim := { program := "ytlgjhacmhkbkdaa", sum := "24c39394b2b3451183bd4226c59407bf461c1ce5de31413311fe8d61fd1822fa", func := "palanquin/palanquinlaw16.ReasmOverlaps", spec := "reasmOverlaps", inPlace := ["internal/abi.NoEscape"], unfollowed := true, recurses := true, plainKeys := false, apart := false }
def ReasmOverlapsSaid : Prop := reasmOverlapsRow.holds Try.pinned (OpenSpec.ofChange reasmOverlapsSpec)

/-- ITS FALSE NEIGHBOUR: 'it returns false'. Refute it at one input. -/
def reasmOverlapsWrong : ChangeSpec := { name := "reasmOverlaps", fn := fun _ => fun
  | [d1, d2, d3, d4, d5] => { results := [.lit (.bool false)], args := [d1, d2, d3, d4, d5] }
  | _ => none }
def ReasmOverlapsWrongFalsely : Prop := reasmOverlapsRow.holds Try.pinned (OpenSpec.ofChange reasmOverlapsWrong)

/-- 'palanquinlaw16.ReasmOnce': WHATEVER THE INPUT: true; the input reads as it did. -/
def reasmOnceSpec : ChangeSpec := { name := "reasmOnce", fn := fun _ => fun
  | [d1, d2, d3, d4] => { results := [.lit (.bool true)], args := [d1, d2, d3, d4] }
  | _ => none }
def reasmOnceRow : OpenClaim := { program := "ytlgjhacmhkbkdaa", sum := "24c39394b2b3451183bd4226c59407bf461c1ce5de31413311fe8d61fd1822fa", func := "palanquin/palanquinlaw16.ReasmOnce", spec := "reasmOnce", inPlace := ["internal/abi.NoEscape"], unfollowed := true, recurses := true, plainKeys := false, apart := false }
def ReasmOnceSaid : Prop := reasmOnceRow.holds Try.pinned (OpenSpec.ofChange reasmOnceSpec)

/-- ITS FALSE NEIGHBOUR: 'it returns false'. Refute it at one input. -/
def reasmOnceWrong : ChangeSpec := { name := "reasmOnce", fn := fun _ => fun
  | [d1, d2, d3, d4] => { results := [.lit (.bool false)], args := [d1, d2, d3, d4] }
  | _ => none }
def ReasmOnceWrongFalsely : Prop := reasmOnceRow.holds Try.pinned (OpenSpec.ofChange reasmOnceWrong)

/-- 'palanquinlaw16.ReasmHoles': WHATEVER THE INPUT: true; the input reads as it did. -/
def reasmHolesSpec : ChangeSpec := { name := "reasmHoles", fn := fun _ => fun
  | [d1, d2, d3, d4, d5] => { results := [.lit (.bool true)], args := [d1, d2, d3, d4, d5] }
  | _ => none }
def reasmHolesRow : OpenClaim := { program := "ytlgjhacmhkbkdaa", sum := "24c39394b2b3451183bd4226c59407bf461c1ce5de31413311fe8d61fd1822fa", func := "palanquin/palanquinlaw16.ReasmHoles", spec := "reasmHoles", inPlace := ["internal/abi.NoEscape"], unfollowed := true, recurses := true, plainKeys := false, apart := false }
def ReasmHolesSaid : Prop := reasmHolesRow.holds Try.pinned (OpenSpec.ofChange reasmHolesSpec)

/-- ITS FALSE NEIGHBOUR: 'it returns false'. Refute it at one input. -/
def reasmHolesWrong : ChangeSpec := { name := "reasmHoles", fn := fun _ => fun
  | [d1, d2, d3, d4, d5] => { results := [.lit (.bool false)], args := [d1, d2, d3, d4, d5] }
  | _ => none }
def ReasmHolesWrongFalsely : Prop := reasmHolesRow.holds Try.pinned (OpenSpec.ofChange reasmHolesWrong)

/- THE SECOND FORM. 'bulk': how many values and letters a reading holds, each counted each time it is reached (what is shared counts as often as it is met; a slice's spare places count too). A statement '..UptoSaid' is the law's where the arguments, and the package variables that the reading takes, are together of bulk at most 1048576: NARROWER than '..Said'. Prove '..Said' where nothing that the law and all that it calls make is longer than what came in: it says more and counts as full. Else prove '..UptoSaid'. A law counts once. -/
mutual
def uptoBulk {H : Type} : DataW H → Nat
  | .lit (.string bytes) => bytes.length + 1
  | .lit _ => 1
  | .nil => 1
  | .ptr d => uptoBulk d + 1
  | .slice elems spare => uptoBulkAll elems + uptoBulkAll spare + 1
  | .agg parts => uptoBulkAll parts + 1
  | .iface _ d => uptoBulk d + 1
  | .map entries => uptoBulkEntries entries + 1
  | .held _ => 1
def uptoBulkAll {H : Type} : List (DataW H) → Nat
  | [] => 0
  | d :: r => uptoBulk d + uptoBulkAll r
def uptoBulkEntries {H : Type} : List (Lit × DataW H) → Nat
  | [] => 0
  | x :: r => uptoBulkEntry x + uptoBulkEntries r
def uptoBulkEntry {H : Type} : Lit × DataW H → Nat
  | (.string bytes, d) => bytes.length + uptoBulk d + 1
  | (_, d) => uptoBulk d + 1
 end
def uptoSmall : (H : Type) → List (DataW H) → Bool := fun _ ds => decide (uptoBulkAll ds ≤ 1048576)
def OpenSpec.upto (s : _root_.Go.ChangeSpec) : _root_.Go.OpenSpec := { _root_.Go.OpenSpec.ofChange s with cond := some uptoSmall }

/-- 'palanquinlaw16.ReasmPlays', WHERE WHAT IT READS IS OF BULK AT MOST 1048576: true; the input reads as it did. -/
def reasmPlaysUptoRow : OpenClaim := { program := "ytlgjhacmhkbkdaa", sum := "24c39394b2b3451183bd4226c59407bf461c1ce5de31413311fe8d61fd1822fa", func := "palanquin/palanquinlaw16.ReasmPlays", spec := "reasmPlays", inPlace := ["internal/abi.NoEscape"], unfollowed := true, recurses := true, plainKeys := false, apart := false, narrowed := true }
def ReasmPlaysUptoSaid : Prop := reasmPlaysUptoRow.holds Try.pinned (OpenSpec.upto reasmPlaysSpec)

/-- 'palanquinlaw16.ReasmBounds', WHERE WHAT IT READS IS OF BULK AT MOST 1048576: true; the input reads as it did. -/
def reasmBoundsUptoRow : OpenClaim := { program := "ytlgjhacmhkbkdaa", sum := "24c39394b2b3451183bd4226c59407bf461c1ce5de31413311fe8d61fd1822fa", func := "palanquin/palanquinlaw16.ReasmBounds", spec := "reasmBounds", inPlace := ["internal/abi.NoEscape"], unfollowed := true, recurses := true, plainKeys := false, apart := false, narrowed := true }
def ReasmBoundsUptoSaid : Prop := reasmBoundsUptoRow.holds Try.pinned (OpenSpec.upto reasmBoundsSpec)

/-- 'palanquinlaw16.ReasmApart', WHERE WHAT IT READS IS OF BULK AT MOST 1048576: true; the input reads as it did. -/
def reasmApartUptoRow : OpenClaim := { program := "ytlgjhacmhkbkdaa", sum := "24c39394b2b3451183bd4226c59407bf461c1ce5de31413311fe8d61fd1822fa", func := "palanquin/palanquinlaw16.ReasmApart", spec := "reasmApart", inPlace := ["internal/abi.NoEscape"], unfollowed := true, recurses := true, plainKeys := false, apart := false, narrowed := true }
def ReasmApartUptoSaid : Prop := reasmApartUptoRow.holds Try.pinned (OpenSpec.upto reasmApartSpec)

/-- 'palanquinlaw16.ReasmOverlaps', WHERE WHAT IT READS IS OF BULK AT MOST 1048576: true; the input reads as it did. -/
def reasmOverlapsUptoRow : OpenClaim := { program := "ytlgjhacmhkbkdaa", sum := "24c39394b2b3451183bd4226c59407bf461c1ce5de31413311fe8d61fd1822fa", func := "palanquin/palanquinlaw16.ReasmOverlaps", spec := "reasmOverlaps", inPlace := ["internal/abi.NoEscape"], unfollowed := true, recurses := true, plainKeys := false, apart := false, narrowed := true }
def ReasmOverlapsUptoSaid : Prop := reasmOverlapsUptoRow.holds Try.pinned (OpenSpec.upto reasmOverlapsSpec)

/-- 'palanquinlaw16.ReasmOnce', WHERE WHAT IT READS IS OF BULK AT MOST 1048576: true; the input reads as it did. -/
def reasmOnceUptoRow : OpenClaim := { program := "ytlgjhacmhkbkdaa", sum := "24c39394b2b3451183bd4226c59407bf461c1ce5de31413311fe8d61fd1822fa", func := "palanquin/palanquinlaw16.ReasmOnce", spec := "reasmOnce", inPlace := ["internal/abi.NoEscape"], unfollowed := true, recurses := true, plainKeys := false, apart := false, narrowed := true }
def ReasmOnceUptoSaid : Prop := reasmOnceUptoRow.holds Try.pinned (OpenSpec.upto reasmOnceSpec)

/-- 'palanquinlaw16.ReasmHoles', WHERE WHAT IT READS IS OF BULK AT MOST 1048576: true; the input reads as it did. -/
def reasmHolesUptoRow : OpenClaim := { program := "ytlgjhacmhkbkdaa", sum := "24c39394b2b3451183bd4226c59407bf461c1ce5de31413311fe8d61fd1822fa", func := "palanquin/palanquinlaw16.ReasmHoles", spec := "reasmHoles", inPlace := ["internal/abi.NoEscape"], unfollowed := true, recurses := true, plainKeys := false, apart := false, narrowed := true }
def ReasmHolesUptoSaid : Prop := reasmHolesUptoRow.holds Try.pinned (OpenSpec.upto reasmHolesSpec)

end Rows
end Go.Proofs.Ytlgjhacmhkbkdaa
