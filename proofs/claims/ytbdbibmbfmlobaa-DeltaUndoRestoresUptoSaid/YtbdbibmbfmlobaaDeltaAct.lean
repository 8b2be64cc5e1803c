/- Changes given place by place, as the reference builds them. -/
import Derived.Test.YtbdbibmbfmlobaaDeltaUndo
set_option linter.unusedVariables false
set_option linter.unusedSimpArgs false
namespace Go.Ch
open Go Go.Ab

def elemsT (l : List Elem) : Tree := .lst 3 (l.map elemT)
def boolT (b : Bool) : Tree := .sc (.bool b)
def attrsT (l : List Attr) : Tree := .lst 2 (l.map attrT)
structure Act where
  ins : List (List Elem)
  cut : List Bool
  set : List (List Attr)
def actT (x : Act) : Tree := .agg [.lst 1 (x.ins.map elemsT), .lst 1 (x.cut.map boolT), .lst 1 (x.set.map attrsT)]
/-- What is left from place i on, as units. -/
def actR (x : Act) (i : Nat) : List DU :=
  if i < x.cut.length then (x.ins.getD i default).map .A ++ ((if x.cut.getD i default = true then .C else .K (x.set.getD i default)) :: actR x (i + 1))
  else (x.ins.getD i default).map .A
termination_by x.cut.length - i
def tailR (x : Act) (i : Nat) : List DU := if i < x.cut.length then (if x.cut.getD i default = true then .C else .K (x.set.getD i default)) :: actR x (i + 1) else []
theorem actR_eq (x : Act) (i : Nat) : actR x i = (x.ins.getD i default).map .A ++ tailR x i := by
  unfold tailR
  rw [actR]
  split <;> simp
theorem tailR_C {x : Act} {i : Nat} (h : i < x.cut.length) (k : x.cut.getD i default = true) : tailR x i = .C :: actR x (i + 1) := by unfold tailR; rw [if_pos h, if_pos k]
theorem tailR_K {x : Act} {i : Nat} (h : i < x.cut.length) (k : x.cut.getD i default = false) : tailR x i = .K (x.set.getD i default) :: actR x (i + 1) := by unfold tailR; rw [if_pos h, if_neg (by rw [k]; decide)]
theorem tailR_e {x : Act} {i : Nat} (h : ¬ i < x.cut.length) : tailR x i = [] := by unfold tailR; rw [if_neg h]
theorem actR_cut (x : Act) : ∀ (n i : Nat), x.cut.length - i = n → n ≤ (actR x i).length
  | 0, i, h => Nat.zero_le _
  | n + 1, i, h => by
    have := actR_cut x n (i + 1) (by omega)
    rw [actR, if_pos (by omega)]
    simp only [List.length_append, List.length_cons]
    omega
variable {w G : DWr} {us : List DU} {T : Nat}
theorem DI.keep1 {c : List Attr} (h : DI w (.K c :: us) T G) : DI ⟨keepD (flushD w) 1 c, [], 0⟩ us T G := DI.keep (n := 0) h
theorem DI.cut1 (h : DI w (.C :: us) T G) : DI ⟨w.out, w.add, w.cut + 1⟩ us T G := DI.cuts (n := 1) h
theorem DI.of_eq {o o' : List DStep} {a : List Elem} {c : Int} (e : o' = o) (h : DI ⟨o, a, c⟩ us T G) : DI ⟨o', a, c⟩ us T G := e ▸ h
end Go.Ch
