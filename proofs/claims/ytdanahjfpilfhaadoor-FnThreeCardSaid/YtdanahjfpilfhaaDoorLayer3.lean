/- A layer of laws by which a walk through code is told by what values stand for; it is of no program and has no condition. -/
import Derived.Test.YtdanahjfpilfhaaDoorPart1
/- The value-level layer, part 36: what is appended may be owned. -/
namespace Go.Vr
open Go
theorem srcMv {P : Program} {env : Env} {α : Type} {f : α → List PV} {ys : List α} {t n : Nat} {els : List (List PV)} (h : env.get t = .own n els) (hE : els = ys.map f) : Source P env (.tmp t) n (ys.map f) [t] := by
  subst hE; exact source_own h
/-- What stands at one step into a list. -/
theorem at_map {α : Type} [Inhabited α] {f : α → List PV} {xs : List α} {m j n : Nat} {c : PV} (h : m < xs.length) (hj : (f (xs.getD m default))[j]? = some c) : (PV.own n (xs.map f)).at [⟨m, j, n⟩] = some c := by
  simp only [PV.at, row_map h]
  exact hj
end Go.Vr
