/- The document's example of a wheel. -/
import Derived.Test.YtlkocnmgpalmnaaWhL
namespace Go.Proofs.Ytlkocnmgpalmnaa
open Go Go.EV

def alA : Nat → Option Mk
  | 0 => some ⟨5000, 2⟩
  | 1 => some ⟨5000, 1⟩
  | 2 => some ⟨1099511627776, 0⟩
  | 3 => some ⟨50, 9⟩
  | _ => none

def alB : Nat → Option Mk
  | 0 => some ⟨5000, 2⟩
  | 1 => some ⟨5000, 1⟩
  | 2 => some ⟨1099511627776, 0⟩
  | _ => none

def alC : Nat → Option Mk
  | 2 => some ⟨1099511627776, 0⟩
  | _ => none

theorem alA_eq : upd (upd (upd (upd (fun _ => (none : Option Mk)) 0 (some ⟨5000, 2⟩)) 1 (some ⟨5000, 1⟩)) 2 (some ⟨1099511627776, 0⟩)) 3 (some ⟨50, 9⟩) = alA := by
  funext k
  match k with
  | 0 | 1 | 2 | 3 | k + 4 => simp [upd, alA]

theorem alA_past : pastA alA 4999 = alB := by
  funext k
  match k with
  | 0 | 1 | 2 | 3 | k + 4 => simp [pastA, alA, alB]

theorem alB_past : pastA alB 5000 = alC := by
  funext k
  match k with
  | 0 | 1 | 2 | k + 3 => simp [pastA, alB, alC]

theorem alC_upd : upd alC 2 none = fun _ => none := by
  funext k
  match k with
  | 0 | 1 | 2 | k + 3 => simp [upd, alC]

theorem al_due1 : DueA alA 4999 [3] := by
  refine ⟨fun k => ?_, by simp⟩
  match k with
  | 0 | 1 | 2 | 3 | k + 4 => simp [alA]

theorem al_due2 : DueA alB 5000 [1, 0] := by
  refine ⟨fun k => ?_, ?_⟩
  · match k with
    | 0 | 1 | 2 | k + 3 => simp [alB]
  · simp [alB]

theorem set_ok {H : Hp} {p n now : Nat} {A : Nat → Option Mk} {F : List Asr} {K : Value → Hp → Prop} (k t u : Nat) (ht : t < 18446744073709551616) (hu : u < 18446744073709551616) (hk : k < n) (hA : A k = none) (hS : Sat H (sep (wheelA p n now A :: F)))
    (hK : ∀ H', Sat H' (sep (wheelA p n now (upd A k (some ⟨t, u⟩)) :: F)) → K (.bool true) H') :
    CallV Try.prog 11 #[(.pointer (some ⟨p, 0, none⟩)), (.int .i64 k), (.int .u64 t), (.int .u64 u)] H K := by
  refine (SetA (k : Int) t u ht hu hS).mono ?_
  rintro v H' (⟨_, _, h⟩ | ⟨rfl, _, _, _, h⟩)
  · exact absurd ⟨by omega, by omega, by rw [Int.toNat_natCast]; exact hA⟩ h
  · rw [Int.toNat_natCast] at h
    exact hK H' h

theorem alive_spec {H : Hp} {F : List Asr} (hS : Sat H (sep F)) :
    CallV Try.prog 9 #[] H fun v H' => v = .bool true ∧ Sat H' (sep F) := by
  apply l7alive.calls
  unfold l7alive
  refine (NewA 4 100 (by omega) (by omega) hS).mono ?_
  rintro v H1 ⟨p, rfl, hS1⟩
  refine ⟨_, rfl, guard_on rfl ?_⟩
  refine set_ok 0 5000 2 (by omega) (by omega) (by omega) rfl hS1 fun H2 hS2 => ⟨_, rfl, guard_on rfl ?_⟩
  refine set_ok 1 5000 1 (by omega) (by omega) (by omega) rfl hS2 fun H3 hS3 => ⟨_, rfl, guard_on rfl ?_⟩
  refine set_ok 2 1099511627776 0 (by omega) (by omega) (by omega) rfl hS3 fun H4 hS4 => ⟨_, rfl, guard_on rfl ?_⟩
  refine (SetA (2 : Int) 7 0 (by omega) (by omega) hS4).mono ?_
  rintro v H5 (⟨rfl, rfl, _⟩ | ⟨_, _, _, h, _⟩)
  case inr => exact absurd h (by simp [upd])
  refine ⟨_, rfl, guard_on rfl ?_⟩
  refine set_ok 3 50 9 (by omega) (by omega) (by omega) rfl hS4 fun H6 hS6 => ⟨_, rfl, fun h => (by cases h), fun _ => ?_⟩
  rw [alA_eq] at hS6
  refine (ToA 4999 (by omega) hS6).mono ?_
  rintro v H7 ⟨q1, a1, c1, rfl, hq1, hS7⟩
  have e1 : q1 = [3] := due_eq hq1 al_due1 fun _ _ => Iff.rfl
  subst e1
  rw [show max 100 4999 = 4999 by decide, alA_past] at hS7
  refine ⟨_, _, _, rfl, (ToA 5000 (by omega) (hS7.perm (.swap _ _ _))).mono ?_⟩
  rintro v H8 ⟨q2, a2, c2, rfl, hq2, hS8⟩
  have e2 : q2 = [1, 0] := due_eq hq2 al_due2 fun _ _ => Iff.rfl
  subst e2
  rw [show max 4999 5000 = 5000 by decide, alB_past] at hS8
  have hS8' := hS8.perm (.swap _ _ _)
  refine ⟨_, _, _, rfl, (AtA 2 hS8').mono ?_⟩
  rintro v H9 ⟨rfl, rfl⟩
  refine ⟨1099511627776, 0, true, rfl, (FirstA_spec hS8').mono ?_⟩
  rintro v H10 ⟨⟨m, b, rfl, hf⟩, rfl⟩
  have hm : m = 1099511627776 ∧ b = true := by
    rcases hf with ⟨_, _, h⟩ | ⟨rfl, ⟨k, x, hk, rfl⟩, _⟩
    · exact absurd (h 2) (by simp [alC])
    · match k with
      | 0 | 1 | k + 3 => simp [alC] at hk
      | 2 => simp [alC] at hk; subst hk; exact ⟨rfl, rfl⟩
  obtain ⟨rfl, rfl⟩ := hm
  refine ⟨_, _, rfl, (UnsetA 2 hS8').mono ?_⟩
  rintro v H11 ⟨rfl, hS11⟩
  refine ⟨true, rfl, ?_⟩
  replace hS11 : Sat H11 (sep (wheelA p 4 5000 (upd alC 2 none) :: own a2 [1, 0].length c2 1 (ints [1, 0]) :: own a1 [3].length c1 1 (ints [3]) :: F)) := hS11
  rw [alC_upd] at hS11
  refine nw_at (cs := ints [3]) hS11 fun b1 H12 hS12 => ?_
  refine (same_spec (rd_own hS12 (i := 3) rfl) (rd_blk hS12 (i := 0) rfl) (by decide) (c := c1) (d := 1)).mono ?_
  rintro v H13 ⟨rfl, rfl⟩
  refine ⟨_, rfl, guard_on rfl ?_⟩
  refine nw_at (cs := ints [1, 0]) hS12 fun b2 H14 hS14 => ?_
  refine (same_spec (rd_own hS14 (i := 3) rfl) (rd_blk hS14 (i := 0) rfl) (by decide) (c := c2) (d := 2)).mono ?_
  rintro v H15 ⟨rfl, rfl⟩
  refine ⟨_, rfl, guard_on rfl (guard_on rfl (guard_on rfl (guard_on rfl (guard_on rfl (guard_on rfl (guard_on rfl ?_))))))⟩
  have hS15 := hS14.drop.drop
  refine (LenA hS15).mono ?_
  rintro v H16 ⟨rfl, rfl⟩
  refine ⟨_, rfl, guard_on rfl ?_⟩
  refine (NowA hS15).mono ?_
  rintro v H16 ⟨rfl, rfl⟩
  exact ⟨_, rfl, rfl, hS15.drop.drop.drop⟩

end Go.Proofs.Ytlkocnmgpalmnaa
