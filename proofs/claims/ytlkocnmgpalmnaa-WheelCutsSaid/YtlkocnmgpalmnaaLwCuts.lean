/- WheelCuts: whatever the hour, the gaps, the cuts and the end are, the law answers true and all that was there stands. -/
import Derived.Test.YtlkocnmgpalmnaaLwOnce
namespace Go.Proofs.Ytlkocnmgpalmnaa
open Go Go.EV

def cutF (n0 : Nat) (xs : List Nat) : Nat → Mk := fun k => ⟨n0 + xs.getD k 0 % 4611686018427387904, k % 4⟩

theorem src_rdI {H : Hp} {a : Option Addr} {c : Nat} {q : List Nat} (h : RdI H a q) : Src H 1 (.slice a q.length c) q.length (ints q) := by
  unfold Src
  refine ⟨by unfold ints; simp, ?_⟩
  cases a with
  | none =>
    refine ⟨rfl, ?_⟩
    cases q with
    | nil => rfl
    | cons x q =>
      obtain ⟨b, hb, _⟩ := h 0 x rfl
      cases hb
  | some ad =>
    refine ⟨rfl, fun j v hj => ?_⟩
    unfold ints at hj
    rw [List.getElem?_map] at hj
    obtain ⟨k, hk, rfl⟩ := Option.map_eq_some_iff.1 hj
    obtain ⟨b, hb, hc⟩ := h j k hk
    cases hb
    exact hc

theorem append_ints {H : Hp} {l : List Asr} (h : Sat H (sep l)) (i : Nat) {a b : Option Addr} {c d : Nat} {xs ys : List Nat} (hio : l[i]? = some (own a xs.length c 1 (ints xs))) (hr : RdI H b ys) (hb : xs.length + ys.length ≤ 1000000) {K : Value → Hp → Prop}
    (k : ∀ a' c' H', Sat H' (sep (l.set i (own a' (xs ++ ys).length c' 1 (ints (xs ++ ys))))) → K (.slice a' (xs ++ ys).length c') H') :
    hw Try.prog (Builtin.append_ #[28, 28] 28 #[.slice a xs.length c, .slice b ys.length d]) K H := by
  obtain ⟨inf, hi, hz, hs, hbb⟩ := info_of iInt
  refine append_at tInts hi hz (by rw [hs]; rfl) h i (by rw [hs]; exact hio) (m := ys.length) (vs := ints ys) (by rw [hs]; exact src_rdI hr) ?_ (by rw [hbb]; omega) (by rw [hbb]; omega) fun a' c' H' hS' => ?_
  · unfold ints
    rw [List.all_eq_true]
    intro v hv
    obtain ⟨k, _, rfl⟩ := List.mem_map.1 hv
    rfl
  · have := k a' c' H'
    rw [List.length_append] at this
    refine this ?_
    rw [hs] at hS'
    have e : ints (xs ++ ys) = ints xs ++ ints ys := List.map_append
    rw [e]
    exact hS'

/-- What is due by one hour, and behind it by another. -/
theorem due_append {f : Nat → Mk} {n B T T' : Nat} {q r : List Nat} (hq : DueA (cutA f n B) T q) (hr : DueA (cutA f n (max B (T + 1))) T' r) : DueA (cutA f n B) (max T T') (q ++ r) := by
  refine ⟨fun k => ?_, ?_⟩
  · rw [List.mem_append, hq.mem, hr.mem]
    constructor
    · rintro (⟨x, h1, h2⟩ | ⟨x, h1, h2⟩)
      · exact ⟨x, h1, by omega⟩
      · obtain ⟨⟨h3, h4⟩, rfl⟩ := cut_some.1 h1
        exact ⟨_, cut_some.2 ⟨⟨h3, by omega⟩, rfl⟩, by omega⟩
    · rintro ⟨x, h1, h2⟩
      obtain ⟨⟨h3, h4⟩, rfl⟩ := cut_some.1 h1
      by_cases h : (f k).at_ ≤ T
      · exact .inl ⟨_, h1, h⟩
      · exact .inr ⟨_, cut_some.2 ⟨⟨h3, by omega⟩, rfl⟩, by omega⟩
  · rw [List.pairwise_append]
    refine ⟨hq.sorted, hr.sorted.imp ?_, fun i hi j hj => ?_⟩
    · rintro i j ⟨x, y, hx, hy, h⟩
      obtain ⟨⟨h3, h4⟩, rfl⟩ := cut_some.1 hx
      obtain ⟨⟨h5, h6⟩, rfl⟩ := cut_some.1 hy
      exact ⟨_, _, cut_some.2 ⟨⟨h3, by omega⟩, rfl⟩, cut_some.2 ⟨⟨h5, by omega⟩, rfl⟩, h⟩
    · obtain ⟨x, hx, hxl⟩ := (hq.mem i).1 hi
      obtain ⟨y, hy, hyl⟩ := (hr.mem j).1 hj
      obtain ⟨⟨h3, h4⟩, rfl⟩ := cut_some.1 hx
      obtain ⟨⟨h5, h6⟩, rfl⟩ := cut_some.1 hy
      exact ⟨_, _, hx, cut_some.2 ⟨⟨h5, by omega⟩, rfl⟩, .inl (by omega)⟩

theorem due_len {f : Nat → Mk} {n B T : Nat} {q : List Nat} (hq : DueA (cutA f n B) T q) : q.length ≤ n := nodup_length hq.nodup fun k hk => by
  obtain ⟨x, h1, _⟩ := (hq.mem k).1 hk
  exact (cut_some.1 h1).1.1

theorem Cuts_spec {H : Hp} {a a' : Option Addr} {c c' : Nat} {xs ys : List Nat} (n0 n7 : Nat) (h7 : n7 < 18446744073709551616) (hx : ∀ x, x ∈ xs → x < 18446744073709551616) (hy : ∀ y, y ∈ ys → y < 18446744073709551616) (ha : RdU H a xs) (ha' : RdU H a' ys) :
    CallV Try.prog 4 #[.int .u64 n0, .slice a xs.length c, .slice a' ys.length c', .int .u64 n7] H fun v H' => v = .bool true ∧ Grows H H' := by
  apply l7Cuts.calls
  unfold l7Cuts
  refine (alive_spec (sat_old H)).mono ?_
  rintro v H1 ⟨rfl, hS1⟩
  refine ⟨_, rfl, fun h => (by cases h), fun _ => ?_⟩
  have hg1 := grows_of (old_heap hS1 0 rfl)
  by_cases hl : (xs.length : Int) > 64
  · exact guard_off (by rw [decide_eq_true hl]; decide) (guard_off (by decide) ⟨fun _ => ⟨by trivial, hg1⟩, fun h => by cases h⟩)
  refine guard_on (decide_eq_false hl) ?_
  by_cases hl' : (ys.length : Int) > 60
  · exact guard_off (by rw [decide_eq_true hl']; decide) ⟨fun _ => ⟨by trivial, hg1⟩, fun h => by cases h⟩
  refine guard_on (decide_eq_false hl') ⟨fun _ => ⟨by trivial, hg1⟩, fun hn => ?_⟩
  have hn0 : n0 ≤ 4611686018427387904 := by have := of_decide_eq_false hn; omega
  have hxs := getD_lt hx
  have hys := getD_lt hy
  have hF : ∀ k, IntKind.wrap .u64 ((n0 : Int) + iand .u64 ((xs.getD k 0 : Nat) : Int) 4611686018427387903) = ((cutF n0 xs k).at_ : Nat) := fun k => (mask_add n0 _ 62 hn0 (hxs k) (by omega)).1
  have hY : ∀ k, IntKind.wrap .u64 ((n0 : Int) + iand .u64 ((ys.getD k 0 : Nat) : Int) 4611686018427387903) = ((n0 + ys.getD k 0 % 4611686018427387904 : Nat) : Int) := fun k => (mask_add n0 _ 62 hn0 (hys k) (by omega)).1
  have hF' : ∀ k, (cutF n0 xs k).at_ < 18446744073709551616 := fun k => by unfold cutF; simp only; omega
  have hE : IntKind.wrap .u64 ((n0 : Int) + iand .u64 (n7 : Int) 4611686018427387903) = ((n0 + n7 % 4611686018427387904 : Nat) : Int) := (mask_add n0 n7 62 hn0 h7 (by omega)).1
  rw [hE]
  have hend : n0 ≤ n0 + n7 % 4611686018427387904 ∧ n0 + n7 % 4611686018427387904 < 18446744073709551616 := by omega
  generalize n0 + n7 % 4611686018427387904 = e at hend ⊢
  refine (NewA xs.length n0 (by omega) (by omega) hS1).mono ?_
  rintro v H2 ⟨p, rfl, hS2⟩
  refine ⟨_, rfl, (NewA xs.length n0 (by omega) (by omega) hS2).mono ?_⟩
  rintro v H3 ⟨r, rfl, hS3⟩
  rw [← cut_zero (cutF n0 xs) 0] at hS3
  refine ⟨_, rfl, fun vs H' => match vs with
    | [.int _ i] => ∃ j : Nat, i = j ∧ j ≤ xs.length ∧ Sat H' (sep [wheelA p xs.length n0 (cutA (cutF n0 xs) j 0), wheelA r xs.length n0 (cutA (cutF n0 xs) j 0), old (hp H)])
    | _ => False, fun vs _ => match vs with
    | [.int _ i] => xs.length - i.toNat
    | _ => 0, ⟨0, rfl, Nat.zero_le _, hS3.perm (.swap _ _ _)⟩, ?_⟩
  rintro i H4 ⟨j, rfl, hj, hS4⟩
  refine ⟨fun h => ?_, fun h => ?_⟩
  · have hjl : j < xs.length := by have := of_decide_eq_true h; omega
    obtain ⟨b, rfl, hc⟩ := rdU_at (ha.old (old_heap hS4 2 rfl)) hjl
    simp only [optK_some, Int.toNat_natCast, Nat.mul_one]
    refine ⟨by omega, by omega, _, hc, ?_⟩
    have hj3 : IntKind.wrap .u64 (iand .i64 (j : Int) 3) = ((j % 4 : Nat) : Int) := by
      have hk : ∀ k : Fin 64, IntKind.wrap .u64 (iand .i64 ((k.val : Nat) : Int) 3) = ((k.val % 4 : Nat) : Int) := by decide
      exact hk ⟨j, by omega⟩
    rw [hF j, hj3]
    refine set_ok j (cutF n0 xs j).at_ (j % 4) (hF' j) (by omega) hjl (cut_none (Nat.le_refl _)) hS4 fun H5 hS5 => ⟨_, rfl, ?_⟩
    have e5 : upd (cutA (cutF n0 xs) j 0) j (some ⟨(cutF n0 xs j).at_, j % 4⟩) = cutA (cutF n0 xs) (j + 1) 0 := cut_upd (cutF n0 xs) j
    rw [e5] at hS5
    refine set_ok j (cutF n0 xs j).at_ (j % 4) (hF' j) (by omega) hjl (cut_none (Nat.le_refl _)) (hS5.perm (.swap _ _ _)) fun H6 hS6 => ⟨_, rfl, ?_⟩
    rw [e5] at hS6
    rw [step64 hjl (by omega)]
    exact ⟨⟨j + 1, rfl, by omega, hS6.perm (.swap _ _ _)⟩, by omega⟩
  · have : j = xs.length := by have := of_decide_eq_false h; omega
    subst this
    refine (ToA n0 (by omega) hS4).mono ?_
    rintro v H5 ⟨q0, a5, c5, rfl, hq0, hS5⟩
    rw [cut_past, Nat.max_self] at hS5
    rw [Nat.max_self] at hq0
    refine ⟨_, _, _, rfl, fun vs H' => match vs with
      | [.int _ i, .slice a l c] => ∃ (j T : Nat) (q : List Nat), i = j ∧ j ≤ ys.length ∧ T ≤ e ∧ l = q.length ∧ DueA (cutA (cutF n0 xs) xs.length 0) T q ∧
          Sat H' (sep [own a q.length c 1 (ints q), wheelA p xs.length T (cutA (cutF n0 xs) xs.length (max 0 (T + 1))), wheelA r xs.length n0 (cutA (cutF n0 xs) xs.length 0), old (hp H)])
      | _ => False, fun vs _ => match vs with
      | [.int _ i, _] => ys.length - i.toNat
      | _ => 0, ⟨0, n0, q0, rfl, Nat.zero_le _, hend.1, rfl, hq0, hS5⟩, ?_⟩
    rintro i a6 l6 c6 H6 ⟨j, T, q, rfl, hj, hT, rfl, hq, hS6⟩
    have hS6p : Sat H6 (sep (wheelA p xs.length T (cutA (cutF n0 xs) xs.length (max 0 (T + 1))) :: [own a6 q.length c6 1 (ints q), wheelA r xs.length n0 (cutA (cutF n0 xs) xs.length 0), old (hp H)])) := hS6.perm (.swap _ _ _)
    have hql := due_len hq
    refine ⟨fun h => ?_, fun h => ?_⟩
    · have hjl : j < ys.length := by have := of_decide_eq_true h; omega
      obtain ⟨b, rfl, hc⟩ := rdU_at (ha'.old (old_heap hS6 3 rfl)) hjl
      simp only [optK_some, Int.toNat_natCast, Nat.mul_one]
      refine ⟨by omega, by omega, _, hc, ?_⟩
      rw [hY j, imin_nat]
      have ht : min (n0 + ys.getD j 0 % 4611686018427387904) e ≤ e := Nat.min_le_right _ _
      generalize min (n0 + ys.getD j 0 % 4611686018427387904) e = t at ht ⊢
      refine (ToA t (by omega) hS6p).mono ?_
      rintro v H7 ⟨q7, a7, c7, rfl, hq7, hS7⟩
      have hq7l := due_len hq7
      have happ := due_append hq hq7
      rw [cut_past, show max (max 0 (T + 1)) (max T t + 1) = max 0 (max T t + 1) by omega] at hS7
      rw [show max T (max T t) = max T t by omega] at happ
      refine ⟨_, _, _, rfl, append_ints (xs := q) (ys := q7) (c := c6) (d := c7) hS7 2 rfl (rd_own hS7 (i := 0) rfl) (by omega) fun a8 c8 H8 hS8 => ⟨_, _, _, rfl, ?_⟩⟩
      rw [step64 hjl (by omega)]
      exact ⟨⟨j + 1, max T t, q ++ q7, rfl, by omega, by omega, rfl, happ, hS8.drop.perm (.swap _ _ _)⟩, by omega⟩
    · refine (ToA e hend.2 hS6p).mono ?_
      rintro v H7 ⟨q7, a7, c7, rfl, hq7, hS7⟩
      have hq7l := due_len hq7
      have happ := due_append hq hq7
      rw [cut_past, show max (max 0 (T + 1)) (max T e + 1) = max 0 (e + 1) by omega, show max T e = e by omega] at hS7
      rw [show max T (max T e) = e by omega] at happ
      refine ⟨_, _, _, rfl, append_ints (xs := q) (ys := q7) (c := c6) (d := c7) hS7 2 rfl (rd_own hS7 (i := 0) rfl) (by omega) fun a8 c8 H8 hS8 => ⟨_, _, _, rfl, ?_⟩⟩
      have hS9 : Sat H8 (sep (wheelA r xs.length n0 (cutA (cutF n0 xs) xs.length 0) :: [wheelA p xs.length e (cutA (cutF n0 xs) xs.length (max 0 (e + 1))), own a8 (q ++ q7).length c8 1 (ints (q ++ q7)), old (hp H)])) := hS8.drop.perm (List.perm_middle (l₁ := [_, _]))
      refine (ToA e hend.2 hS9).mono ?_
      rintro v H10 ⟨q10, a10, c10, rfl, hq10, hS10⟩
      rw [cut_past, show max n0 e = e by omega] at hS10
      rw [show max n0 e = e by omega] at hq10
      have heq : q ++ q7 = q10 := due_eq happ hq10 fun _ _ => Iff.rfl
      have hapl : (q ++ q7).length ≤ xs.length := due_len happ
      refine ⟨_, _, _, rfl, (same_spec (rd_own hS10 (i := 3) rfl) (rd_own hS10 (i := 0) rfl) (by omega)).mono ?_⟩
      rintro v H11 ⟨rfl, rfl⟩
      rw [decide_eq_true heq]
      refine ⟨_, rfl, guard_on rfl ?_⟩
      have hSr := hS10.drop
      have hSp := hSr.perm (.swap _ _ _)
      refine (LenA hSp).mono ?_
      rintro v H12 ⟨rfl, rfl⟩
      refine ⟨_, rfl, (LenA hSr).mono ?_⟩
      rintro v H12 ⟨rfl, rfl⟩
      refine ⟨_, rfl, guard_on (by simp) ?_⟩
      refine (NowA hSp).mono ?_
      rintro v H12 ⟨rfl, rfl⟩
      refine ⟨_, rfl, (NowA hSr).mono ?_⟩
      rintro v H12 ⟨rfl, rfl⟩
      exact ⟨_, rfl, by simp, grows_of (old_heap hS10 4 rfl)⟩

end Go.Proofs.Ytlkocnmgpalmnaa
