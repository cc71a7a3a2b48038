/- WheelFar answers true whatever comes in, and what came in reads as it did. -/
import Derived.Test.YtlkocnmgpalmnaaLcA
import Derived.Test.YtlkocnmgpalmnaaLwFar
namespace Go.Proofs.Ytlkocnmgpalmnaa
open Go Go.EV Go.RowKit Go.ChangeShapes Go.WideShapes Go.ChangeAt

set_option maxRecDepth 100000 in
theorem wheelFar_lifted (os : Os) (started : os.Started) (H : Type) (enc : TypeId × Value → H) :
    ReturnsInHanded {} Try.checked os 8 .any (Rows.wheelFarSpec.pre6 enc Try.prog Try.f8 [] false) (Rows.wheelFarSpec.post enc Try.prog Try.f8 false true false false) := by
  refine law_lift (C := Try.checked) own_knob started (by kernel_rfl) Try.func8
    (ChangeSpec.witness6 (enc := enc) (C := Try.checked) false ⟨#[], #[.int .u64 0, .int .u64 0, .slice none 0 0], []⟩ 8 (by kernel_rfl) (by kernel_rfl) (by kernel_rfl) (by kernel_rfl))
    laid_out (by kernel_rfl) rfl Try.underlying4 rfl ?_
  intro W base args ds ps hval hA
  rw [Try.params8] at hA hval
  obtain ⟨v0, v1, v2, d0, d1, d2, p0, p1, p2, rfl, rfl, rfl, h0, h1, h2⟩ := trodAll_three hA
  obtain ⟨n0, rfl, b0⟩ := arg_u64 Try.underlying22 (hval 0 _ _ rfl rfl) h0
  obtain ⟨n1, rfl, b1⟩ := arg_u64 Try.underlying22 (hval 1 _ _ rfl rfl) h1
  obtain ⟨a2, c2, x2, rfl, r2, b2⟩ := arg_u64s Try.underlying23 Try.underlying22 cells_u64 (hval 2 _ _ rfl rfl) h2
  exact ⟨rfl, Far_spec n0 n1 b0 b1 b2 r2⟩

theorem wheelFar_holds : Rows.WheelFarSaid :=
  OpenClaim.holds_of_wide 8 Try.f8 rfl rfl rfl rfl rfl rfl rfl ⟨rfl, rfl, rfl, rfl, rfl⟩ rfl rfl rfl rfl rfl (by kernel_rfl) Try.func8 (by kernel_rfl)
    (of_decide_eq_true (by kernel_rfl)) (by unfold Func.isWrapper; rw [if_neg (by decide +kernel)]; exact ⟨rfl, rfl⟩)
    (fun os started H enc _ => wheelFar_lifted os started H enc)

end Go.Proofs.Ytlkocnmgpalmnaa
