/- WheelTurns answers true whatever comes in, and what came in reads as it did. -/
import Derived.Test.YtlkocnmgpalmnaaLcA
import Derived.Test.YtlkocnmgpalmnaaLwTurns
namespace Go.Proofs.Ytlkocnmgpalmnaa
open Go Go.EV Go.RowKit Go.ChangeShapes Go.WideShapes Go.ChangeAt

set_option maxRecDepth 100000 in
theorem wheelTurns_lifted (os : Os) (started : os.Started) (H : Type) (enc : TypeId × Value → H) :
    ReturnsInHanded {} Try.checked os 6 .any (Rows.wheelTurnsSpec.pre6 enc Try.prog Try.f6 [] false) (Rows.wheelTurnsSpec.post enc Try.prog Try.f6 false true false false) := by
  refine law_lift (C := Try.checked) own_knob started (by kernel_rfl) Try.func6
    (ChangeSpec.witness6 (enc := enc) (C := Try.checked) false ⟨#[], #[.int .u64 0, .slice none 0 0, .int .u64 0], []⟩ 8 (by kernel_rfl) (by kernel_rfl) (by kernel_rfl) (by kernel_rfl))
    laid_out (by kernel_rfl) rfl Try.underlying4 rfl ?_
  intro W base args ds ps hval hA
  rw [Try.params6] at hA hval
  obtain ⟨v0, v1, v2, d0, d1, d2, p0, p1, p2, rfl, rfl, rfl, h0, h1, h2⟩ := trodAll_three hA
  obtain ⟨n0, rfl, b0⟩ := arg_u64 Try.underlying22 (hval 0 _ _ rfl rfl) h0
  obtain ⟨a1, c1, x1, rfl, r1, b1⟩ := arg_u64s Try.underlying23 Try.underlying22 cells_u64 (hval 1 _ _ rfl rfl) h1
  obtain ⟨n2, rfl, b2⟩ := arg_u64 Try.underlying22 (hval 2 _ _ rfl rfl) h2
  exact ⟨rfl, Turns_spec n0 n2 b2 b1 r1⟩

theorem wheelTurns_holds : Rows.WheelTurnsSaid :=
  OpenClaim.holds_of_wide 6 Try.f6 rfl rfl rfl rfl rfl rfl rfl ⟨rfl, rfl, rfl, rfl, rfl⟩ rfl rfl rfl rfl rfl (by kernel_rfl) Try.func6 (by kernel_rfl)
    (of_decide_eq_true (by kernel_rfl)) (by unfold Func.isWrapper; rw [if_neg (by decide +kernel)]; exact ⟨rfl, rfl⟩)
    (fun os started H enc _ => wheelTurns_lifted os started H enc)

end Go.Proofs.Ytlkocnmgpalmnaa
