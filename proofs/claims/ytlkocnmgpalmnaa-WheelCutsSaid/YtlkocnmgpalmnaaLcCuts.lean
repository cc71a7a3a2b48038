/- WheelCuts answers true whatever comes in, and what came in reads as it did. -/
import Derived.Test.YtlkocnmgpalmnaaLcA
import Derived.Test.YtlkocnmgpalmnaaLwCuts
namespace Go.Proofs.Ytlkocnmgpalmnaa
open Go Go.EV Go.RowKit Go.ChangeShapes Go.WideShapes Go.ChangeAt

set_option maxRecDepth 100000 in
theorem wheelCuts_lifted (os : Os) (started : os.Started) (H : Type) (enc : TypeId × Value → H) :
    ReturnsInHanded {} Try.checked os 4 .any (Rows.wheelCutsSpec.pre6 enc Try.prog Try.f4 [] false) (Rows.wheelCutsSpec.post enc Try.prog Try.f4 false true false false) := by
  refine law_lift (C := Try.checked) own_knob started (by kernel_rfl) Try.func4
    (ChangeSpec.witness6 (enc := enc) (C := Try.checked) false ⟨#[], #[.int .u64 0, .slice none 0 0, .slice none 0 0, .int .u64 0], []⟩ 8 (by kernel_rfl) (by kernel_rfl) (by kernel_rfl) (by kernel_rfl))
    laid_out (by kernel_rfl) rfl Try.underlying4 rfl ?_
  intro W base args ds ps hval hA
  rw [Try.params4] at hA hval
  obtain ⟨v0, v1, v2, v3, d0, d1, d2, d3, p0, p1, p2, p3, rfl, rfl, rfl, h0, h1, h2, h3⟩ := trodAll_four hA
  obtain ⟨n0, rfl, b0⟩ := arg_u64 Try.underlying22 (hval 0 _ _ rfl rfl) h0
  obtain ⟨a1, c1, x1, rfl, r1, b1⟩ := arg_u64s Try.underlying23 Try.underlying22 cells_u64 (hval 1 _ _ rfl rfl) h1
  obtain ⟨a2, c2, x2, rfl, r2, b2⟩ := arg_u64s Try.underlying23 Try.underlying22 cells_u64 (hval 2 _ _ rfl rfl) h2
  obtain ⟨n3, rfl, b3⟩ := arg_u64 Try.underlying22 (hval 3 _ _ rfl rfl) h3
  exact ⟨rfl, Cuts_spec n0 n3 b3 b1 b2 r1 r2⟩

theorem wheelCuts_holds : Rows.WheelCutsSaid :=
  OpenClaim.holds_of_wide 4 Try.f4 rfl rfl rfl rfl rfl rfl rfl ⟨rfl, rfl, rfl, rfl, rfl⟩ rfl rfl rfl rfl rfl (by kernel_rfl) Try.func4 (by kernel_rfl)
    (of_decide_eq_true (by kernel_rfl)) (by unfold Func.isWrapper; rw [if_neg (by decide +kernel)]; exact ⟨rfl, rfl⟩)
    (fun os started H enc _ => wheelCuts_lifted os started H enc)

end Go.Proofs.Ytlkocnmgpalmnaa
