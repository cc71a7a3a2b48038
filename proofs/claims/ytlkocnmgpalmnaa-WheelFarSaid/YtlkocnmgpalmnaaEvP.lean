/- What the program is known by. -/
import Derived.Test.YtlkocnmgpalmnaaProg
import Derived.Test.YtlkocnmgpalmnaaEvW
namespace Go.Proofs.Ytlkocnmgpalmnaa
open Go Go.EV

theorem mixed : Try.prog.follows .mixedOrders = true := by kernel_rfl

def entL : List Nat := [25, 35, 22, 20, 26, 33, 16, 18, 13, 15, 11, 12, 28, 17, 34, 24, 32, 21, 23, 31, 30, 29, 39, 38, 19, 4, 8, 3, 7, 6, 9, 14, 10, 27]
def ent (f : Nat) : Bool := entL.any (Nat.beq f)

theorem hent : ∀ f, ent f = true → Enters Try.prog f := by
  have key : ∀ g ∈ entL, Enters Try.prog g := by
    unfold entL
    simp only [List.forall_mem_cons]
    refine ⟨?_, ?_, ?_, ?_, ?_, ?_, ?_, ?_, ?_, ?_, ?_, ?_, ?_, ?_, ?_, ?_, ?_, ?_, ?_, ?_, ?_, ?_, ?_, ?_, ?_, ?_, ?_, ?_, ?_, ?_, ?_, ?_, ?_, ?_, ?_⟩
    all_goals first | exact trivial | (intro args Q H; kernel_rfl) | (intro x hx; cases hx)
  intro f h
  obtain ⟨g, hg, he⟩ := List.any_eq_true.1 h
  have : f = g := Nat.eq_of_beq_eq_true he
  subst this
  exact key f hg

end Go.Proofs.Ytlkocnmgpalmnaa
