/- An owned row that nobody writes from here on. -/
import Derived.Test.YtbdbibmbfmlobaaAbOpen
set_option linter.unusedVariables false
namespace Go.Ab
open Go
variable {P : Program} {n : Nat} {l0 : List (Nat × Ob)} {s : St}
theorem Le.fz {id k : Nat} {xs : List Tree} (hid : s.st id = some (.row k false xs)) : Le n l0 s ⟨s.sl, upd s.st id (.row k true xs), s.nx⟩ := by
  intro F m0 w0 m a w h0 h1 h2
  obtain ⟨r1, r2⟩ := freeze h1.srel hid
  refine ⟨m, ⟨fun t' => r2.val (h1.slots t'), h1.size, h1.defers, r1, fun i hi => ?_⟩, h2.trans h0 r2⟩
  have hi' : s.nx ≤ i := hi
  have : i ≠ id := fun e => by subst e; rw [h1.fresh i hi] at hid; cases hid
  show upd s.st id (.row k true xs) i = none
  rw [upd_ne this]
  exact h1.fresh i hi
end Go.Ab
