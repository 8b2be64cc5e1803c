/-
  No cell of these rows narrows 'for every input' (looked for: loops, veiled, ifaces, maps, wideKeys, modest, calm, conditions, laid).
  DERIVED. THE GIVEN ROWS OF THIS SEAT. 4 by the template 'for every input the law returns true; each argument reads behind the call as it read before'; 0 by the template 'total and deterministic' (their statements: YthpcjddcgdlilaaTotals.lean).
  GIVEN WITH THE SEED: the statements are not yours to turn. If you find one false, say at which input.
  Laid BY PROGRAM, IN A SANDBOX (cutbox-rows.mjs): the forced cells as the released guide's own fill.sh prints them over the translation 3b9a58ed654156b7… (all of the seat's roots in one cut). By AI agents, Wed Nov 11 2026. No macro, syntax, notation, axiom, sorry.
-/
import Derived.Test.YthpcjddcgdlilaaChecked
import GoSem.Claim
import GoSem.ClaimJoined
import GoSem.ClaimMapViews
import Derived.JoinedTies
import Derived.KernelRfl
namespace Go.Proofs.Ythpcjddcgdlilaa
/- THE CELL 'sum', in the pinned program and in every row, IS THE sha256 OF THE DUMP (.gsa) THAT YthpcjddcgdlilaaProg.lean LOADS. Nothing in Lean hashes anything: it is a label: what it is worth is what the hold of that sum in a sandbox is worth. -/
noncomputable def Try.pinned : Pinned := { name := "ythpcjddcgdlilaa", sum := "3b9a58ed654156b7f835cbe5e2aec4e4d336574c9a8f767454860326dcb2731f", checked := Try.checked }
namespace Rows
def none {H : Type} : Left H := { results := [], args := [] }

/-- 'chancerykeep1.ReplicaAnyOrder': WHATEVER THE INPUT: true; the input reads as it did. -/
def replicaAnyOrderSpec : ChangeSpec := { name := "replicaAnyOrder", fn := fun _ => fun
  | [d1, d2, d3, d4] => { results := [.lit (.bool true)], args := [d1, d2, d3, d4] }
  | _ => none }
def replicaAnyOrderRow : OpenClaim := { program := "ythpcjddcgdlilaa", sum := "3b9a58ed654156b7f835cbe5e2aec4e4d336574c9a8f767454860326dcb2731f", func := "chancery/chancerykeep1.ReplicaAnyOrder", spec := "replicaAnyOrder", unfollowed := true, recurses := true, apart := false }
def ReplicaAnyOrderSaid : Prop := replicaAnyOrderRow.holds Try.pinned (OpenSpec.ofChange replicaAnyOrderSpec)

/-- ITS FALSE NEIGHBOUR: 'it returns false'. Refute it at one input. -/
def replicaAnyOrderWrong : ChangeSpec := { name := "replicaAnyOrder", fn := fun _ => fun
  | [d1, d2, d3, d4] => { results := [.lit (.bool false)], args := [d1, d2, d3, d4] }
  | _ => none }
def ReplicaAnyOrderWrongFalsely : Prop := replicaAnyOrderRow.holds Try.pinned (OpenSpec.ofChange replicaAnyOrderWrong)

/-- 'chancerykeep1.ReplicaBetweenInserts': WHATEVER THE INPUT: true; the input reads as it did. -/
def replicaBetweenInsertsSpec : ChangeSpec := { name := "replicaBetweenInserts", fn := fun _ => fun
  | [d] => { results := [.lit (.bool true)], args := [d] }
  | _ => none }
def replicaBetweenInsertsRow : OpenClaim := { program := "ythpcjddcgdlilaa", sum := "3b9a58ed654156b7f835cbe5e2aec4e4d336574c9a8f767454860326dcb2731f", func := "chancery/chancerykeep1.ReplicaBetweenInserts", spec := "replicaBetweenInserts", unfollowed := true, recurses := true, apart := false }
def ReplicaBetweenInsertsSaid : Prop := replicaBetweenInsertsRow.holds Try.pinned (OpenSpec.ofChange replicaBetweenInsertsSpec)

/-- ITS FALSE NEIGHBOUR: 'it returns false'. Refute it at one input. -/
def replicaBetweenInsertsWrong : ChangeSpec := { name := "replicaBetweenInserts", fn := fun _ => fun
  | [d] => { results := [.lit (.bool false)], args := [d] }
  | _ => none }
def ReplicaBetweenInsertsWrongFalsely : Prop := replicaBetweenInsertsRow.holds Try.pinned (OpenSpec.ofChange replicaBetweenInsertsWrong)

/-- 'chancerykeep1.ReplicaIsTree': WHATEVER THE INPUT: true; the input reads as it did. -/
def replicaIsTreeSpec : ChangeSpec := { name := "replicaIsTree", fn := fun _ => fun
  | [d1, d2] => { results := [.lit (.bool true)], args := [d1, d2] }
  | _ => none }
def replicaIsTreeRow : OpenClaim := { program := "ythpcjddcgdlilaa", sum := "3b9a58ed654156b7f835cbe5e2aec4e4d336574c9a8f767454860326dcb2731f", func := "chancery/chancerykeep1.ReplicaIsTree", spec := "replicaIsTree", unfollowed := true, recurses := true, apart := false }
def ReplicaIsTreeSaid : Prop := replicaIsTreeRow.holds Try.pinned (OpenSpec.ofChange replicaIsTreeSpec)

/-- ITS FALSE NEIGHBOUR: 'it returns false'. Refute it at one input. -/
def replicaIsTreeWrong : ChangeSpec := { name := "replicaIsTree", fn := fun _ => fun
  | [d1, d2] => { results := [.lit (.bool false)], args := [d1, d2] }
  | _ => none }
def ReplicaIsTreeWrongFalsely : Prop := replicaIsTreeRow.holds Try.pinned (OpenSpec.ofChange replicaIsTreeWrong)

/-- 'chancerykeep1.ReplicaTowardsBack': WHATEVER THE INPUT: true; the input reads as it did. -/
def replicaTowardsBackSpec : ChangeSpec := { name := "replicaTowardsBack", fn := fun _ => fun
  | [d1, d2] => { results := [.lit (.bool true)], args := [d1, d2] }
  | _ => none }
def replicaTowardsBackRow : OpenClaim := { program := "ythpcjddcgdlilaa", sum := "3b9a58ed654156b7f835cbe5e2aec4e4d336574c9a8f767454860326dcb2731f", func := "chancery/chancerykeep1.ReplicaTowardsBack", spec := "replicaTowardsBack", unfollowed := true, recurses := true, apart := false }
def ReplicaTowardsBackSaid : Prop := replicaTowardsBackRow.holds Try.pinned (OpenSpec.ofChange replicaTowardsBackSpec)

/-- ITS FALSE NEIGHBOUR: 'it returns false'. Refute it at one input. -/
def replicaTowardsBackWrong : ChangeSpec := { name := "replicaTowardsBack", fn := fun _ => fun
  | [d1, d2] => { results := [.lit (.bool false)], args := [d1, d2] }
  | _ => none }
def ReplicaTowardsBackWrongFalsely : Prop := replicaTowardsBackRow.holds Try.pinned (OpenSpec.ofChange replicaTowardsBackWrong)

/- THE SECOND FORM. 'bulk': how many values and letters a reading holds, each counted each time it is reached (what is shared counts as often as it is met; a slice's spare places count too). A statement '..UptoSaid' is the law's where the arguments, and the package variables that the reading takes, are together of bulk at most 1048576: NARROWER than '..Said'. Prove '..Said' where nothing that the law and all that it calls make is longer than what came in: it says more and counts as full. Else prove '..UptoSaid'. A law counts once. -/
mutual
def uptoBulk {H : Type} : DataW H → Nat
  | .lit (.string bytes) => bytes.length + 1
  | .lit _ => 1
  | .nil => 1
  | .ptr d => uptoBulk d + 1
  | .slice elems spare => uptoBulkAll elems + uptoBulkAll spare + 1
  | .agg parts => uptoBulkAll parts + 1
  | .iface _ d => uptoBulk d + 1
  | .map entries => uptoBulkEntries entries + 1
  | .held _ => 1
def uptoBulkAll {H : Type} : List (DataW H) → Nat
  | [] => 0
  | d :: r => uptoBulk d + uptoBulkAll r
def uptoBulkEntries {H : Type} : List (Lit × DataW H) → Nat
  | [] => 0
  | x :: r => uptoBulkEntry x + uptoBulkEntries r
def uptoBulkEntry {H : Type} : Lit × DataW H → Nat
  | (.string bytes, d) => bytes.length + uptoBulk d + 1
  | (_, d) => uptoBulk d + 1
 end
def uptoSmall : (H : Type) → List (DataW H) → Bool := fun _ ds => decide (uptoBulkAll ds ≤ 1048576)
def OpenSpec.upto (s : _root_.Go.ChangeSpec) : _root_.Go.OpenSpec := { _root_.Go.OpenSpec.ofChange s with cond := some uptoSmall }

/-- 'chancerykeep1.ReplicaAnyOrder', WHERE WHAT IT READS IS OF BULK AT MOST 1048576: true; the input reads as it did. -/
def replicaAnyOrderUptoRow : OpenClaim := { program := "ythpcjddcgdlilaa", sum := "3b9a58ed654156b7f835cbe5e2aec4e4d336574c9a8f767454860326dcb2731f", func := "chancery/chancerykeep1.ReplicaAnyOrder", spec := "replicaAnyOrder", unfollowed := true, recurses := true, apart := false, narrowed := true }
def ReplicaAnyOrderUptoSaid : Prop := replicaAnyOrderUptoRow.holds Try.pinned (OpenSpec.upto replicaAnyOrderSpec)

/-- 'chancerykeep1.ReplicaBetweenInserts', WHERE WHAT IT READS IS OF BULK AT MOST 1048576: true; the input reads as it did. -/
def replicaBetweenInsertsUptoRow : OpenClaim := { program := "ythpcjddcgdlilaa", sum := "3b9a58ed654156b7f835cbe5e2aec4e4d336574c9a8f767454860326dcb2731f", func := "chancery/chancerykeep1.ReplicaBetweenInserts", spec := "replicaBetweenInserts", unfollowed := true, recurses := true, apart := false, narrowed := true }
def ReplicaBetweenInsertsUptoSaid : Prop := replicaBetweenInsertsUptoRow.holds Try.pinned (OpenSpec.upto replicaBetweenInsertsSpec)

/-- 'chancerykeep1.ReplicaIsTree', WHERE WHAT IT READS IS OF BULK AT MOST 1048576: true; the input reads as it did. -/
def replicaIsTreeUptoRow : OpenClaim := { program := "ythpcjddcgdlilaa", sum := "3b9a58ed654156b7f835cbe5e2aec4e4d336574c9a8f767454860326dcb2731f", func := "chancery/chancerykeep1.ReplicaIsTree", spec := "replicaIsTree", unfollowed := true, recurses := true, apart := false, narrowed := true }
def ReplicaIsTreeUptoSaid : Prop := replicaIsTreeUptoRow.holds Try.pinned (OpenSpec.upto replicaIsTreeSpec)

/-- 'chancerykeep1.ReplicaTowardsBack', WHERE WHAT IT READS IS OF BULK AT MOST 1048576: true; the input reads as it did. -/
def replicaTowardsBackUptoRow : OpenClaim := { program := "ythpcjddcgdlilaa", sum := "3b9a58ed654156b7f835cbe5e2aec4e4d336574c9a8f767454860326dcb2731f", func := "chancery/chancerykeep1.ReplicaTowardsBack", spec := "replicaTowardsBack", unfollowed := true, recurses := true, apart := false, narrowed := true }
def ReplicaTowardsBackUptoSaid : Prop := replicaTowardsBackUptoRow.holds Try.pinned (OpenSpec.upto replicaTowardsBackSpec)

end Rows
end Go.Proofs.Ythpcjddcgdlilaa
