/- What the laws on deltas ask. -/
import Derived.Test.YtbdbibmbfmlobaaDeltaChange
import Derived.Test.YtbdbibmbfmlobaaChFlow2
set_option linter.unusedVariables false
set_option linter.unusedSimpArgs false
namespace Go.Ch
open Go Go.Ab

variable {w G : DWr} {us : List DU} {T : Nat}
theorem DI.all : ∀ {us : List DU} {w : DWr}, DI w us T G → DI G [] T G
  | [], w, h => by have := h.done; subst this; exact h
  | .K c :: us, w, h => DI.all h.keep1
  | .A e :: us, w, h => DI.all (DI.elems (e := [e]) h)
  | .C :: us, w, h => DI.all h.cut1
theorem doneD_dn (hu : ∀ u ∈ us, UnitOk u) (hs : us.length ≤ 8589934592) : DN 400000000000 (doneD us) := (DI.start hu hs).all.fl.2
theorem eok_of {f : List Elem} (hp : partE f 0 = 0) (ha : AN 100000000000 f) : EOk f := fun x hx => ⟨part_iff.1 hp x hx, ha x hx⟩
theorem undo_law {f : List Elem} {l : List DStep} (hp : partE f 0 = 0) (hv : DValid l) (hd : DN 100000000000 l) (ha : AN 100000000000 f) (hlen : oldD l = f.length) :
    EOk f ∧ DN 400000000000 l ∧ AN 400000000000 f ∧ DValid (undoD f l) ∧ DN 400000000000 (undoD f l) ∧ partE (rawD f l) 0 = 0 ∧ AN 400000000000 (rawD f l) ∧ oldD (undoD f l) = (rawD f l).length ∧ sameF (rawD (rawD f l) (undoD f l)) f = true := by
  have hf := eok_of hp ha
  obtain ⟨q1, q2, q3, q4, q5, q6, q7, q8, q9, q10, q11⟩ := undo_final hv hd hf hlen
  refine ⟨hf, hd.mono (by decide), hf.an, q6, doneD_dn q4 q5, part_iff.2 (fun x hx => (q9 x hx).1), fun x hx => by have := (q9 x hx).2; omega, by omega, ?_⟩
  rw [q11]; exact sameF_self _
theorem partE_take {f : List Elem} (h : partE f 0 = 0) (n : Nat) : partE (f.take n) 0 = 0 := part_iff.2 (fun x hx => part_iff.1 h x (List.mem_of_mem_take hx))
theorem an_take {m : Nat} {f : List Elem} (h : AN m f) (n : Nat) : AN m (f.take n) := fun x hx => h x (List.mem_of_mem_take hx)
theorem ltr_an (s : ByteArray) (n : Nat) : AN n (lettersL s) := fun x hx => by
  obtain ⟨i, _, rfl⟩ := List.mem_map.1 hx
  simp [ltr]
def probeD : List DStep := [⟨1, 0, [], lettersL { data := #[120] }⟩, ⟨2, 1, [], []⟩, ⟨0, 1, [], []⟩]
theorem probe_dn : DN 400000000000 probeD := by
  intro s hs
  simp only [probeD, List.mem_cons, List.not_mem_nil, or_false] at hs
  rcases hs with rfl | rfl | rfl
  · exact ⟨by simp [lettersL, ByteArray.size], by simp, ltr_an _ _⟩
  · exact ⟨by simp, by simp, fun x hx => by cases hx⟩
  · exact ⟨by simp, by simp, fun x hx => by cases hx⟩
theorem probe_facts : partE (lettersL { data := #[97, 98] }) 0 = 0 ∧ DValid probeD ∧ oldD probeD = ((lettersL { data := #[97, 98] }).length : Int) ∧ sameF (rawD (lettersL { data := #[97, 98] }) probeD) (lettersL { data := #[120, 98] }) = true :=
  ⟨by decide +kernel, checkD_iff.1 (by decide +kernel), by decide +kernel, by decide +kernel⟩
end Go.Ch
