/-
  No cell of these rows narrows 'for every input' (looked for: loops, veiled, ifaces, maps, wideKeys, modest, calm, conditions, laid).
  DERIVED. THE GIVEN ROWS OF THIS SEAT. 4 by the template 'for every input the law returns true; each argument reads behind the call as it read before'; 0 by the template 'total and deterministic' (their statements: YtjindkkdgjeppaaTotals.lean).
  GIVEN WITH THE SEED: the statements are not yours to turn. If you find one false, say at which input.
  Laid BY PROGRAM, IN A SANDBOX (cutbox-rows.mjs): the forced cells as the released guide's own fill.sh prints them over the translation a194aa5945ed54b5… (all of the seat's roots in one cut). By AI agents, Wed Nov 11 2026. No macro, syntax, notation, axiom, sorry.
-/
import Derived.Test.YtjindkkdgjeppaaChecked
import GoSem.Claim
import GoSem.ClaimJoined
import GoSem.ClaimMapViews
import Derived.JoinedTies
import Derived.KernelRfl
namespace Go.Proofs.Ytjindkkdgjeppaa
/- THE CELL 'sum', in the pinned program and in every row, IS THE sha256 OF THE DUMP (.gsa) THAT YtjindkkdgjeppaaProg.lean LOADS. Nothing in Lean hashes anything: it is a label: what it is worth is what the hold of that sum in a sandbox is worth. -/
noncomputable def Try.pinned : Pinned := { name := "ytjindkkdgjeppaa", sum := "a194aa5945ed54b56c3c56c3770c74195696292a9d2dc25feb096ef0370b94e8", checked := Try.checked }
namespace Rows
def none {H : Type} : Left H := { results := [], args := [] }

/-- 'unisonlaw19.BeatHeard': WHATEVER THE INPUT: true; the input reads as it did. -/
def beatHeardSpec : ChangeSpec := { name := "beatHeard", fn := fun _ => fun
  | [d1, d2, d3, d4] => { results := [.lit (.bool true)], args := [d1, d2, d3, d4] }
  | _ => none }
def beatHeardRow : OpenClaim := { program := "ytjindkkdgjeppaa", sum := "a194aa5945ed54b56c3c56c3770c74195696292a9d2dc25feb096ef0370b94e8", func := "unison/unisonlaw19.BeatHeard", spec := "beatHeard", apart := false }
def BeatHeardSaid : Prop := beatHeardRow.holds Try.pinned (OpenSpec.ofChange beatHeardSpec)

/-- ITS FALSE NEIGHBOUR: 'it returns false'. Refute it at one input. -/
def beatHeardWrong : ChangeSpec := { name := "beatHeard", fn := fun _ => fun
  | [d1, d2, d3, d4] => { results := [.lit (.bool false)], args := [d1, d2, d3, d4] }
  | _ => none }
def BeatHeardWrongFalsely : Prop := beatHeardRow.holds Try.pinned (OpenSpec.ofChange beatHeardWrong)

/-- 'unisonlaw19.BeatWrong': WHATEVER THE INPUT: true; the input reads as it did. -/
def beatWrongSpec : ChangeSpec := { name := "beatWrong", fn := fun _ => fun
  | [d1, d2] => { results := [.lit (.bool true)], args := [d1, d2] }
  | _ => none }
def beatWrongRow : OpenClaim := { program := "ytjindkkdgjeppaa", sum := "a194aa5945ed54b56c3c56c3770c74195696292a9d2dc25feb096ef0370b94e8", func := "unison/unisonlaw19.BeatWrong", spec := "beatWrong", apart := false }
def BeatWrongSaid : Prop := beatWrongRow.holds Try.pinned (OpenSpec.ofChange beatWrongSpec)

/-- ITS FALSE NEIGHBOUR: 'it returns false'. Refute it at one input. -/
def beatWrongWrong : ChangeSpec := { name := "beatWrong", fn := fun _ => fun
  | [d1, d2] => { results := [.lit (.bool false)], args := [d1, d2] }
  | _ => none }
def BeatWrongWrongFalsely : Prop := beatWrongRow.holds Try.pinned (OpenSpec.ofChange beatWrongWrong)

/-- 'unisonlaw19.BeatRises': WHATEVER THE INPUT: true; the input reads as it did. -/
def beatRisesSpec : ChangeSpec := { name := "beatRises", fn := fun _ => fun
  | [d1, d2] => { results := [.lit (.bool true)], args := [d1, d2] }
  | _ => none }
def beatRisesRow : OpenClaim := { program := "ytjindkkdgjeppaa", sum := "a194aa5945ed54b56c3c56c3770c74195696292a9d2dc25feb096ef0370b94e8", func := "unison/unisonlaw19.BeatRises", spec := "beatRises", apart := false }
def BeatRisesSaid : Prop := beatRisesRow.holds Try.pinned (OpenSpec.ofChange beatRisesSpec)

/-- ITS FALSE NEIGHBOUR: 'it returns false'. Refute it at one input. -/
def beatRisesWrong : ChangeSpec := { name := "beatRises", fn := fun _ => fun
  | [d1, d2] => { results := [.lit (.bool false)], args := [d1, d2] }
  | _ => none }
def BeatRisesWrongFalsely : Prop := beatRisesRow.holds Try.pinned (OpenSpec.ofChange beatRisesWrong)

/-- 'unisonlaw19.BeatNil': WHATEVER THE INPUT: true; the input reads as it did. -/
def beatNilSpec : ChangeSpec := { name := "beatNil", fn := fun _ => fun
  | [d1, d2] => { results := [.lit (.bool true)], args := [d1, d2] }
  | _ => none }
def beatNilRow : OpenClaim := { program := "ytjindkkdgjeppaa", sum := "a194aa5945ed54b56c3c56c3770c74195696292a9d2dc25feb096ef0370b94e8", func := "unison/unisonlaw19.BeatNil", spec := "beatNil", apart := false }
def BeatNilSaid : Prop := beatNilRow.holds Try.pinned (OpenSpec.ofChange beatNilSpec)

/-- ITS FALSE NEIGHBOUR: 'it returns false'. Refute it at one input. -/
def beatNilWrong : ChangeSpec := { name := "beatNil", fn := fun _ => fun
  | [d1, d2] => { results := [.lit (.bool false)], args := [d1, d2] }
  | _ => none }
def BeatNilWrongFalsely : Prop := beatNilRow.holds Try.pinned (OpenSpec.ofChange beatNilWrong)

/- THE SECOND FORM. 'bulk': how many values and letters a reading holds, each counted each time it is reached (what is shared counts as often as it is met; a slice's spare places count too). A statement '..UptoSaid' is the law's where the arguments, and the package variables that the reading takes, are together of bulk at most 1048576: NARROWER than '..Said'. Prove '..Said' where nothing that the law and all that it calls make is longer than what came in: it says more and counts as full. Else prove '..UptoSaid'. A law counts once. -/
mutual
def uptoBulk {H : Type} : DataW H → Nat
  | .lit (.string bytes) => bytes.length + 1
  | .lit _ => 1
  | .nil => 1
  | .ptr d => uptoBulk d + 1
  | .slice elems spare => uptoBulkAll elems + uptoBulkAll spare + 1
  | .agg parts => uptoBulkAll parts + 1
  | .iface _ d => uptoBulk d + 1
  | .map entries => uptoBulkEntries entries + 1
  | .held _ => 1
def uptoBulkAll {H : Type} : List (DataW H) → Nat
  | [] => 0
  | d :: r => uptoBulk d + uptoBulkAll r
def uptoBulkEntries {H : Type} : List (Lit × DataW H) → Nat
  | [] => 0
  | x :: r => uptoBulkEntry x + uptoBulkEntries r
def uptoBulkEntry {H : Type} : Lit × DataW H → Nat
  | (.string bytes, d) => bytes.length + uptoBulk d + 1
  | (_, d) => uptoBulk d + 1
 end
def uptoSmall : (H : Type) → List (DataW H) → Bool := fun _ ds => decide (uptoBulkAll ds ≤ 1048576)
def OpenSpec.upto (s : _root_.Go.ChangeSpec) : _root_.Go.OpenSpec := { _root_.Go.OpenSpec.ofChange s with cond := some uptoSmall }

/-- 'unisonlaw19.BeatHeard', WHERE WHAT IT READS IS OF BULK AT MOST 1048576: true; the input reads as it did. -/
def beatHeardUptoRow : OpenClaim := { program := "ytjindkkdgjeppaa", sum := "a194aa5945ed54b56c3c56c3770c74195696292a9d2dc25feb096ef0370b94e8", func := "unison/unisonlaw19.BeatHeard", spec := "beatHeard", apart := false, narrowed := true }
def BeatHeardUptoSaid : Prop := beatHeardUptoRow.holds Try.pinned (OpenSpec.upto beatHeardSpec)

/-- 'unisonlaw19.BeatWrong', WHERE WHAT IT READS IS OF BULK AT MOST 1048576: true; the input reads as it did. -/
def beatWrongUptoRow : OpenClaim := { program := "ytjindkkdgjeppaa", sum := "a194aa5945ed54b56c3c56c3770c74195696292a9d2dc25feb096ef0370b94e8", func := "unison/unisonlaw19.BeatWrong", spec := "beatWrong", apart := false, narrowed := true }
def BeatWrongUptoSaid : Prop := beatWrongUptoRow.holds Try.pinned (OpenSpec.upto beatWrongSpec)

/-- 'unisonlaw19.BeatRises', WHERE WHAT IT READS IS OF BULK AT MOST 1048576: true; the input reads as it did. -/
def beatRisesUptoRow : OpenClaim := { program := "ytjindkkdgjeppaa", sum := "a194aa5945ed54b56c3c56c3770c74195696292a9d2dc25feb096ef0370b94e8", func := "unison/unisonlaw19.BeatRises", spec := "beatRises", apart := false, narrowed := true }
def BeatRisesUptoSaid : Prop := beatRisesUptoRow.holds Try.pinned (OpenSpec.upto beatRisesSpec)

/-- 'unisonlaw19.BeatNil', WHERE WHAT IT READS IS OF BULK AT MOST 1048576: true; the input reads as it did. -/
def beatNilUptoRow : OpenClaim := { program := "ytjindkkdgjeppaa", sum := "a194aa5945ed54b56c3c56c3770c74195696292a9d2dc25feb096ef0370b94e8", func := "unison/unisonlaw19.BeatNil", spec := "beatNil", apart := false, narrowed := true }
def BeatNilUptoSaid : Prop := beatNilUptoRow.holds Try.pinned (OpenSpec.upto beatNilSpec)

end Rows
end Go.Proofs.Ytjindkkdgjeppaa
