/- From the machine's answer to the program's. -/
import Derived.Test.YtcibofbmennjpaaAmMain
set_option linter.unusedVariables false
namespace Go.Am
open Go.RowKit

/-- A CALL FROM OUTSIDE: closed arguments, a value that holds no memory. -/
theorem answers {P : Program} {G : Nat → List AV} {F : Nat → Option MF} (hF : FOk P F) (hG : ∀ g, AV.closedL (G g) = true) {n : Nat} {f : Nat} {as : List AV} {vs : List Value} {w : World} {S : Nat → Prop}
    (hS : ∀ g, S g → g < w.heap.size) (hglob : ∀ g, RV w S [] [] (.rptr (G g)) (.pointer (some ⟨g, 0, none⟩))) (hargs : RVL w S [] [] as vs) (hcl : AV.closedL as = true) (hlen : as.length < 65535)
    (hred : as.mapM (reify reifyDepth []) = some as) {b : Bool} {al : Bool} (h : pcall F (aexec G F n) f as = some (.val (.bool b), al)) :
    Calls P f vs.toArray w fun e w' => e = .returned (.bool b) ∧ Below w.heap.size w w' := by
  have hR : Rel G 0 w w.heap.size S S [] ⟨.e, [], 0⟩ (#[] : Array Value) w :=
    ⟨Below.refl _ _, Nat.le_refl _, Nat.zero_le _, rfl, hS, fun _ h => .inl h, fun id b hb => by simp at hb, fun i j bi bj x y hi => by simp at hi,
      fun t => (by
        have e1 : Tm.get .e t = .undef := Tm.getF_e t
        have e2 : (#[] : Array Value).getD t undef = undef := by simp
        show RV w S [] [] (Tm.get .e t) ((#[] : Array Value).getD t undef)
        rw [e1, e2]
        exact .undef), hglob⟩
  refine ((pure_sound (sound hF hG n) hF hG hR hargs hlen hred h (by simp [hcl])).1 (.bool b) rfl).mono fun e w' ⟨u, S', he, R', L, hv⟩ => ?_
  exact ⟨by rw [he, hv.bool_inv], R'.below⟩
end Go.Am
