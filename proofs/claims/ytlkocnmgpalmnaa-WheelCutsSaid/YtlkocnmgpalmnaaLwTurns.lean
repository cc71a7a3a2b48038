/- WheelTurns: whatever the hour, the gaps and the end are, the law answers true and all that was there stands. -/
import Derived.Test.YtlkocnmgpalmnaaLwB
namespace Go.Proofs.Ytlkocnmgpalmnaa
open Go Go.EV

def turnF (n0 : Nat) (xs : List Nat) : Nat → Mk := fun k => ⟨n0 + xs.getD k 0 % 4611686018427387904, xs.getD k 0 % 4⟩

/-- The last m of n are set. -/
def topA (f : Nat → Mk) (n m : Nat) : Nat → Option Mk := fun k => if n ≤ k + m ∧ k < n then some (f k) else none

theorem top_zero (f : Nat → Mk) (n : Nat) : topA f n 0 = fun _ => none := by
  funext k; unfold topA; rw [if_neg (by omega)]

theorem top_upd (f : Nat → Mk) {n m : Nat} (h : m < n) : upd (topA f n m) (n - 1 - m) (some (f (n - 1 - m))) = topA f n (m + 1) := by
  funext k
  by_cases hk : k = n - 1 - m
  · subst hk
    rw [upd_self]; unfold topA; rw [if_pos (by omega)]
  · rw [upd_ne _ _ hk]; unfold topA
    by_cases h2 : n ≤ k + m ∧ k < n
    · rw [if_pos h2, if_pos (by omega)]
    · rw [if_neg h2, if_neg (by omega)]

theorem top_all (f : Nat → Mk) (n : Nat) : topA f n n = cutA f n 0 := by
  funext k; unfold topA cutA
  by_cases h : k < n
  · rw [if_pos ⟨by omega, h⟩, if_pos ⟨h, Nat.zero_le _⟩]
  · rw [if_neg (by omega), if_neg (by omega)]

theorem getD_lt {xs : List Nat} (hx : ∀ x, x ∈ xs → x < 18446744073709551616) (k : Nat) : xs.getD k 0 < 18446744073709551616 := by
  rw [List.getD_eq_getElem?_getD]
  cases h : xs[k]? with
  | none => simp
  | some x => exact hx x (List.mem_of_getElem? h)

theorem first_due {A : Nat → Option Mk} {m to : Nat} {q : List Nat} (hf : FirstA A m true) (hq : DueA A to q) : match q with
    | [] => to < m
    | k :: _ => ∃ x, A k = some x ∧ x.at_ = m := by
  rcases hf with ⟨h, _⟩ | ⟨_, ⟨k, x, hk, rfl⟩, hle⟩
  · cases h
  cases q with
  | nil =>
    show to < x.at_
    by_cases h : x.at_ ≤ to
    · have := (hq.mem k).2 ⟨x, hk, h⟩
      cases this
    · omega
  | cons k0 q =>
    obtain ⟨y, hy, hyle⟩ := (hq.mem k0).1 (List.mem_cons_self ..)
    refine ⟨y, hy, Nat.le_antisymm ?_ (hle k0 y hy)⟩
    have hm := hle k0 y hy
    have hkq := (hq.mem k).2 ⟨x, hk, by omega⟩
    rcases List.mem_cons.1 hkq with rfl | hkq
    · rw [hk] at hy; cases hy; exact Nat.le_refl _
    · obtain ⟨y', x', hy', hx', h⟩ := (List.pairwise_cons.1 hq.sorted).1 k hkq
      rw [hy] at hy'; rw [hk] at hx'
      cases hy'; cases hx'
      omega

theorem Turns_spec {H : Hp} {a : Option Addr} {c : Nat} {xs : List Nat} (n0 n4 : Nat) (h4 : n4 < 18446744073709551616) (hx : ∀ x, x ∈ xs → x < 18446744073709551616) (ha : RdU H a xs) :
    CallV Try.prog 6 #[.int .u64 n0, .slice a xs.length c, .int .u64 n4] H fun v H' => v = .bool true ∧ Grows H H' := by
  apply l7Turns.calls
  unfold l7Turns
  refine (alive_spec (sat_old H)).mono ?_
  rintro v H1 ⟨rfl, hS1⟩
  refine ⟨_, rfl, fun h => (by cases h), fun _ => ?_⟩
  by_cases hl : (xs.length : Int) > 64
  · exact guard_off (by rw [decide_eq_true hl]; decide) ⟨fun _ => ⟨by trivial, grows_of (old_heap hS1 0 rfl)⟩, fun h => by cases h⟩
  refine guard_on (decide_eq_false hl) ⟨fun _ => ⟨by trivial, grows_of (old_heap hS1 0 rfl)⟩, fun hn => ?_⟩
  have hn0 : n0 ≤ 4611686018427387904 := by have := of_decide_eq_false hn; omega
  have hlen : xs.length ≤ 64 := by omega
  have hxs := getD_lt hx
  have hF : ∀ k, IntKind.wrap .u64 ((n0 : Int) + iand .u64 ((xs.getD k 0 : Nat) : Int) 4611686018427387903) = ((turnF n0 xs k).at_ : Nat) := fun k => (mask_add n0 _ 62 hn0 (hxs k) (by omega)).1
  have hF' : ∀ k, n0 ≤ (turnF n0 xs k).at_ ∧ (turnF n0 xs k).at_ < 18446744073709551616 := fun k => by unfold turnF; simp only; omega
  have hT : ∀ k, iand .u64 ((xs.getD k 0 : Nat) : Int) 3 = ((turnF n0 xs k).turn : Nat) := fun k => iand_mask (hxs k) 2 (by omega)
  have hT' : ∀ k, (turnF n0 xs k).turn < 18446744073709551616 := fun k => by unfold turnF; simp only; omega
  have hE : IntKind.wrap .u64 ((n0 : Int) + iand .u64 (n4 : Int) 4611686018427387903) = ((n0 + n4 % 4611686018427387904 : Nat) : Int) := (mask_add n0 n4 62 hn0 h4 (by omega)).1
  rw [hE]
  have hend : n0 ≤ n0 + n4 % 4611686018427387904 ∧ n0 + n4 % 4611686018427387904 < 18446744073709551616 := by omega
  generalize n0 + n4 % 4611686018427387904 = e at hend ⊢
  refine (NewA xs.length n0 (by omega) (by omega) hS1).mono ?_
  rintro v H2 ⟨p, rfl, hS2⟩
  refine ⟨_, rfl, (NewA xs.length n0 (by omega) (by omega) hS2).mono ?_⟩
  rintro v H3 ⟨r, rfl, hS3⟩
  refine ⟨_, rfl, fun vs H' => match vs with
    | [.int _ i] => ∃ j : Nat, i = j ∧ j ≤ xs.length ∧ Sat H' (sep [wheelA p xs.length n0 (cutA (turnF n0 xs) j 0), wheelA r xs.length n0 (topA (turnF n0 xs) xs.length j), old (hp H)])
    | _ => False, fun vs _ => match vs with
    | [.int _ i] => xs.length - i.toNat
    | _ => 0, ⟨0, rfl, Nat.zero_le _, by rw [cut_zero, top_zero]; exact hS3.perm (.swap _ _ _)⟩, ?_⟩
  rintro i H4 ⟨j, rfl, hj, hS4⟩
  refine ⟨fun h => ?_, fun h => ?_⟩
  · have hjl : j < xs.length := by have := of_decide_eq_true h; omega
    have harg := ha.old (old_heap hS4 2 rfl)
    obtain ⟨b, rfl, hc⟩ := rdU_at harg hjl
    simp only [optK_some, Int.toNat_natCast, Nat.mul_one]
    refine ⟨by omega, by omega, _, hc, by omega, by omega, _, hc, ?_⟩
    rw [hF j, hT j]
    refine set_ok j (turnF n0 xs j).at_ (turnF n0 xs j).turn (hF' j).2 (hT' j) hjl (cut_none (Nat.le_refl _)) hS4 fun H5 hS5 => ⟨_, rfl, ?_⟩
    have e5 : upd (cutA (turnF n0 xs) j 0) j (some ⟨(turnF n0 xs j).at_, (turnF n0 xs j).turn⟩) = cutA (turnF n0 xs) (j + 1) 0 := cut_upd (turnF n0 xs) j
    rw [e5] at hS5
    have hi : IntKind.wrap .i64 (IntKind.wrap .i64 ((xs.length : Int) - 1) - j) = ((xs.length - 1 - j : Nat) : Int) := by
      rw [wrap64_id (n := (xs.length : Int) - 1) (by omega) (by omega), wrap64_id (by omega) (by omega)]; omega
    rw [hi]
    obtain ⟨b', he', hc'⟩ := rdU_at (ha.old (old_heap hS5 2 rfl)) (j := xs.length - 1 - j) (by omega)
    cases he'
    simp only [Int.toNat_natCast]
    refine ⟨by omega, by omega, _, hc', by omega, by omega, _, hc', ?_⟩
    rw [hF, hT]
    refine set_ok (xs.length - 1 - j) (turnF n0 xs (xs.length - 1 - j)).at_ (turnF n0 xs (xs.length - 1 - j)).turn (hF' _).2 (hT' _) (by omega) (by unfold topA; rw [if_neg (by omega)]) (hS5.perm (.swap _ _ _)) fun H6 hS6 => ⟨_, rfl, ?_⟩
    have e6 : upd (topA (turnF n0 xs) xs.length j) (xs.length - 1 - j) (some ⟨(turnF n0 xs (xs.length - 1 - j)).at_, (turnF n0 xs (xs.length - 1 - j)).turn⟩) = topA (turnF n0 xs) xs.length (j + 1) := top_upd _ hjl
    rw [e6] at hS6
    rw [step64 hjl (by omega)]
    exact ⟨⟨j + 1, rfl, by omega, hS6.perm (.swap _ _ _)⟩, by omega⟩
  · have : j = xs.length := by have := of_decide_eq_false h; omega
    subst this
    rw [top_all] at hS4
    refine (FirstA_spec hS4).mono ?_
    rintro v H5 ⟨⟨m, b, rfl, hf⟩, rfl⟩
    refine ⟨_, _, rfl, (ToA e hend.2 hS4).mono ?_⟩
    rintro v H6 ⟨q, a6, c6, rfl, hq, hS6⟩
    have hS6' : Sat H6 (sep (wheelA r xs.length n0 (cutA (turnF n0 xs) xs.length 0) :: [own a6 q.length c6 1 (ints q), wheelA p xs.length (max n0 e) (pastA (cutA (turnF n0 xs) xs.length 0) (max n0 e)), old (hp H)])) := hS6.perm (List.perm_middle (l₁ := [_, _]))
    refine ⟨_, _, _, rfl, (ToA e hend.2 hS6').mono ?_⟩
    rintro v H7 ⟨q', a7, c7, rfl, hq', hS7⟩
    have hqq : q = q' := due_eq hq hq' fun _ _ => Iff.rfl
    subst hqq
    have hqn : ∀ k, k ∈ q → k < xs.length := fun k hk => by
      obtain ⟨x, h1, _⟩ := (hq.mem k).1 hk
      exact (cut_some.1 h1).1.1
    have hql : q.length ≤ xs.length := nodup_length hq.nodup hqn
    have hr1 := rd_own hS7 (i := 2) rfl
    have hr2 := rd_own hS7 (i := 0) rfl
    refine ⟨_, _, _, rfl, (same_spec hr1 hr2 (by omega)).mono ?_⟩
    rintro v H8 ⟨rfl, rfl⟩
    rw [decide_eq_true rfl]
    have hb : b = decide ((xs.length : Int) > 0) := by
      rcases hf with ⟨rfl, _, h⟩ | ⟨rfl, ⟨k, x, hk, _⟩, _⟩
      · rw [decide_eq_false]
        intro hp
        have := h 0
        rw [cut_some.2 ⟨⟨by omega, Nat.zero_le _⟩, rfl⟩] at this
        cases this
      · have := (cut_some.1 hk).1.1
        rw [decide_eq_true (by omega)]
    refine ⟨_, rfl, guard_on rfl ⟨fun h => (by rw [← hb] at h; simp at h), fun _ => ?_⟩⟩
    have hg := grows_of (old_heap hS7 4 rfl)
    have hmax : max n0 e = e := by omega
    rw [hmax] at hq
    refine ⟨fun h0 => ?_, fun h0 => ?_⟩
    · have hq0 : q = [] := List.length_eq_zero_iff.1 (by have : (q.length : Int) = 0 := by simpa using h0
                                                         omega)
      subst hq0
      cases b with
      | false => exact guard_off (by decide) ⟨rfl, hg⟩
      | true =>
        have := first_due hf hq
        refine guard_on rfl ⟨?_, hg⟩
        rw [decide_eq_true (by omega)]
    · cases q with
      | nil => simp at h0
      | cons k q =>
        have hbt : b = true := by
          rw [hb, decide_eq_true]
          have := hqn k (List.mem_cons_self ..)
          omega
        subst hbt
        obtain ⟨x, hxk, hxm⟩ := first_due hf hq
        obtain ⟨⟨hkn, _⟩, rfl⟩ := cut_some.1 hxk
        obtain ⟨b6, rfl, hc6⟩ := hr1 0 k rfl
        obtain ⟨ba, rfl, hca⟩ := rdU_at (ha.old (old_heap hS7 4 rfl)) hkn
        have hc6' : cellH H8 (b6.add (Int.toNat 0 * 1)) = some (.int .i64 (k : Nat)) := hc6
        simp only [optK_some]
        have hcl : (0 : Int) < ((k :: q).length : Nat) := by simp
        refine ⟨by omega, hcl, _, hc6', guard_on (decide_eq_true (by omega)) ⟨by omega, hcl, _, hc6', ?_⟩⟩
        refine guard_on (decide_eq_true (by omega)) ⟨by omega, hcl, _, hc6', by omega, by omega, _, by rw [Int.toNat_natCast, Nat.mul_one]; exact hca, ?_⟩
        rw [hF k, hxm]
        exact ⟨by simp, hg⟩

end Go.Proofs.Ytlkocnmgpalmnaa
