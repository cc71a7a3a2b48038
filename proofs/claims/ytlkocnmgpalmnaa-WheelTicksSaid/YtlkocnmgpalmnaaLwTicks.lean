/- WheelTicks: whatever the hour and the gaps are, the law answers true and all that was there stands. -/
import Derived.Test.YtlkocnmgpalmnaaLwB
namespace Go.Proofs.Ytlkocnmgpalmnaa
open Go Go.EV

def tickF (n0 : Nat) (xs : List Nat) : Nat → Mk := fun k => ⟨n0 + xs.getD k 0 % 512, 0⟩

theorem Ticks_spec {H : Hp} {a : Option Addr} {c : Nat} {xs : List Nat} (n0 : Nat) (hx : ∀ x, x ∈ xs → x < 18446744073709551616) (ha : RdU H a xs) :
    CallV Try.prog 7 #[.int .u64 n0, .slice a xs.length c] H fun v H' => v = .bool true ∧ Grows H H' := by
  apply l7Ticks.calls
  unfold l7Ticks
  refine (alive_spec (sat_old H)).mono ?_
  rintro v H1 ⟨rfl, hS1⟩
  refine ⟨_, rfl, fun h => (by cases h), fun _ => ?_⟩
  by_cases hl : (xs.length : Int) > 20
  · exact guard_off (by rw [decide_eq_true hl]; decide) ⟨fun _ => ⟨by trivial, grows_of (old_heap hS1 0 rfl)⟩, fun h => by cases h⟩
  refine guard_on (decide_eq_false hl) ⟨fun _ => ⟨by trivial, grows_of (old_heap hS1 0 rfl)⟩, fun hn => ?_⟩
  have hn0 : n0 ≤ 4611686018427387904 := by have := of_decide_eq_false hn; omega
  have hlen : xs.length ≤ 20 := by omega
  have hxs : ∀ k, xs.getD k 0 < 18446744073709551616 := fun k => by
    rw [List.getD_eq_getElem?_getD]
    cases h : xs[k]? with
    | none => simp
    | some x => exact hx x (List.mem_of_getElem? h)
  have hF : ∀ k, IntKind.wrap .u64 ((n0 : Int) + iand .u64 ((xs.getD k 0 : Nat) : Int) 511) = ((tickF n0 xs k).at_ : Nat) := fun k => (mask_add n0 _ 9 hn0 (hxs k) (by omega)).1
  have hF' : ∀ k, n0 ≤ (tickF n0 xs k).at_ ∧ (tickF n0 xs k).at_ < n0 + 512 := fun k => by unfold tickF; simp only; omega
  have hmask : ∀ k, iand .u64 ((xs.getD k 0 : Nat) : Int) 511 = ((xs.getD k 0 % 512 : Nat) : Int) := fun k => iand_mask (hxs k) 9 (by omega)
  refine (NewA xs.length n0 (by omega) (by omega) hS1).mono ?_
  rintro v H2 ⟨p, rfl, hS2⟩
  rw [← cut_zero (tickF n0 xs) 0] at hS2
  refine ⟨_, rfl, fun vs H' => match vs with
    | [.int _ i] => ∃ j : Nat, i = j ∧ j ≤ xs.length ∧ Sat H' (sep [wheelA p xs.length n0 (cutA (tickF n0 xs) j 0), old (hp H)])
    | _ => False, fun vs _ => match vs with
    | [.int _ i] => xs.length - i.toNat
    | _ => 0, ⟨0, rfl, Nat.zero_le _, hS2⟩, ?_⟩
  rintro i H3 ⟨j, rfl, hj, hS3⟩
  refine ⟨fun h => ?_, fun h => ?_⟩
  · have hjl : j < xs.length := by have := of_decide_eq_true h; omega
    obtain ⟨b, rfl, hc⟩ := rdU_at (ha.old (old_heap hS3 1 rfl)) hjl
    simp only [optK_some, Int.toNat_natCast, Nat.mul_one]
    refine ⟨by omega, by omega, _, hc, ?_⟩
    rw [hF j]
    have := hF' j
    refine set_ok j (tickF n0 xs j).at_ 0 (by omega) (by omega) hjl (cut_none (Nat.le_refl _)) hS3 fun H4 hS4 => ⟨_, rfl, ?_⟩
    have e : upd (cutA (tickF n0 xs) j 0) j (some ⟨(tickF n0 xs j).at_, 0⟩) = cutA (tickF n0 xs) (j + 1) 0 := cut_upd (tickF n0 xs) j
    rw [e] at hS4
    rw [step64 hjl (by omega)]
    exact ⟨⟨j + 1, rfl, by omega, hS4⟩, by omega⟩
  · have : j = xs.length := by have := of_decide_eq_false h; omega
    subst this
    rw [cut_same (B' := n0) (fun k _ => ⟨fun _ => (hF' k).1, fun _ => Nat.zero_le _⟩)] at hS3
    refine ⟨fun vs H' => match vs with
      | [.int _ i] => ∃ t now : Nat, i = t ∧ t ≤ 512 ∧ now ≤ n0 + t ∧ Sat H' (sep [wheelA p xs.length now (cutA (tickF n0 xs) xs.length (n0 + t)), old (hp H)])
      | _ => False, fun vs _ => match vs with
      | [.int _ i] => 512 - i.toNat
      | _ => 0, ⟨0, n0, rfl, by omega, Nat.le_refl _, hS3⟩, ?_⟩
    rintro i H4 ⟨t, now, rfl, ht, hnow, hS4⟩
    refine ⟨fun h => ?_, fun h => ?_⟩
    · have htl : t < 512 := by have := of_decide_eq_true h; omega
      have et : IntKind.wrap .u64 ((n0 : Int) + t) = ((n0 + t : Nat) : Int) := by rw [← Int.natCast_add]; exact wrapU_nat (by omega)
      rw [et]
      refine (ToA (n0 + t) (by omega) hS4).mono ?_
      rintro v H5 ⟨q, a5, c5, rfl, hq, hS5⟩
      rw [Nat.max_eq_right hnow] at hq hS5
      rw [cut_past, Nat.max_eq_right (by omega)] at hS5
      have hq' : ∀ k, k ∈ q → k < xs.length ∧ xs.getD k 0 % 512 = t := fun k hk => by
        obtain ⟨x, h1, h2⟩ := (hq.mem k).1 hk
        obtain ⟨⟨h3, h4⟩, rfl⟩ := cut_some.1 h1
        refine ⟨h3, ?_⟩
        unfold tickF at h2 h4
        simp only at h2 h4
        omega
      have hql : q.length ≤ 4096 := by
        have h1 : q.length ≤ xs.length := nodup_length hq.nodup fun k hk => (hq' k hk).1
        omega
      have hown := rd_own hS5 (i := 0) rfl
      have harg := ha.old (old_heap hS5 2 rfl)
      refine ⟨_, _, _, rfl, fun vs H' => H' = H5 ∧ match vs with
        | [.int _ i] => ∃ j : Nat, i = j ∧ j ≤ q.length
        | _ => False, fun vs _ => match vs with
        | [.int _ i] => q.length - i.toNat
        | _ => 0, ⟨rfl, 0, rfl, Nat.zero_le _⟩, ?_⟩
      rintro i H6 ⟨rfl, j, rfl, hj⟩
      refine ⟨fun h => ?_, fun h => ?_⟩
      · have hjl : j < q.length := by have := of_decide_eq_true h; omega
        have hget := List.getElem?_eq_getElem hjl
        generalize q[j] = k at hget
        obtain ⟨b5, rfl, hc⟩ := hown j k hget
        obtain ⟨hk1, hk2⟩ := hq' k (List.mem_of_getElem? hget)
        obtain ⟨b, rfl, hca⟩ := rdU_at harg hk1
        simp only [optK_some, Int.toNat_natCast, Nat.mul_one]
        refine ⟨by omega, by omega, _, hc, guard_on (decide_eq_false (by omega)) ?_⟩
        refine guard_on (decide_eq_false (by omega)) ⟨by omega, by omega, _, hca, ?_⟩
        rw [hmask, hk2, step64 hjl (by omega)]
        exact ⟨fun h => by simp at h, fun _ => ⟨⟨by first | exact rfl | exact trivial, j + 1, rfl, by omega⟩, by omega⟩⟩
      · have hS5' := hS5.drop
        refine ⟨fun vs H' => H' = H6 ∧ match vs with
          | [.int _ i] => ∃ j : Nat, i = j ∧ j ≤ xs.length
          | _ => False, fun vs _ => match vs with
          | [.int _ i] => xs.length - i.toNat
          | _ => 0, ⟨rfl, 0, rfl, Nat.zero_le _⟩, ?_⟩
        rintro i H7 ⟨rfl, k, rfl, hk⟩
        refine ⟨fun h => ?_, fun h => ?_⟩
        · have hkl : k < xs.length := by have := of_decide_eq_true h; omega
          obtain ⟨b, rfl, hca⟩ := rdU_at harg hkl
          simp only [optK_some, Int.toNat_natCast, Nat.mul_one]
          refine ⟨by omega, by omega, _, hca, (AtA (k : Int) hS5').mono ?_⟩
          rintro v H8 ⟨rfl, rfl⟩
          rw [getA_nat hkl, hmask, step64 hkl (by omega)]
          have fin : ∀ (n1 n2 : Int) (b' : Bool), b' = decide (((xs.getD k 0 % 512 : Nat) : Int) > t) → (!((b' : Bool) == decide (((xs.getD k 0 % 512 : Nat) : Int) > t))) = false := fun _ _ b' h => by rw [h]; simp
          by_cases hgt : t < xs.getD k 0 % 512
          · have : cutA (tickF n0 xs) xs.length (n0 + t + 1) k = some (tickF n0 xs k) := cut_some.2 ⟨⟨hkl, by unfold tickF; simp only; omega⟩, rfl⟩
            rw [this]
            refine ⟨_, _, true, rfl, fun h => ?_, fun _ => ⟨⟨by first | exact rfl | exact trivial, k + 1, rfl, by omega⟩, by omega⟩⟩
            rw [fin 0 0 true (by rw [decide_eq_true (by omega)])] at h; cases h
          · have : cutA (tickF n0 xs) xs.length (n0 + t + 1) k = none := by
              unfold cutA; rw [if_neg (by unfold tickF; simp only; omega)]
            rw [this]
            refine ⟨_, _, false, rfl, fun h => ?_, fun _ => ⟨⟨by first | exact rfl | exact trivial, k + 1, rfl, by omega⟩, by omega⟩⟩
            rw [fin 0 0 false (by rw [decide_eq_false (by omega)])] at h; cases h
        · have wt : IntKind.wrap .u64 ((t : Int) + 1) = ((t + 1 : Nat) : Int) := wrapU_nat (x := t + 1) (by omega)
          rw [wt]
          exact ⟨⟨t + 1, n0 + t, rfl, by omega, by omega, hS5'⟩, by dsimp only; omega⟩
    · have : t = 512 := by have := of_decide_eq_false h; omega
      subst this
      refine (LenA hS4).mono ?_
      rintro v H5 ⟨rfl, rfl⟩
      rw [cntA_none (fun k _ => by have := hF' k; unfold cutA; rw [if_neg (by omega)])]
      exact ⟨_, rfl, rfl, grows_of (old_heap hS4 1 rfl)⟩

end Go.Proofs.Ytlkocnmgpalmnaa
