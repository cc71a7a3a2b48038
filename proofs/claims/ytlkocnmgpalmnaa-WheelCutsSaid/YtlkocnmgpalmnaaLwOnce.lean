/- WheelOnce: whatever the hour, the gaps and the steps are, the law answers true and all that was there stands. -/
import Derived.Test.YtlkocnmgpalmnaaLwTurns
namespace Go.Proofs.Ytlkocnmgpalmnaa
open Go Go.EV

def enc1 (x : Int) : List Value := [.int .i64 x]
theorem enc1_len (x : Int) : (enc1 x).length = 1 := rfl

theorem make_ints {H : Hp} {l : List Asr} (h : Sat H (sep l)) (n : Nat) (hn : n ≤ 4096) {K : Value → Hp → Prop} (k : ∀ b H', Sat H' (sep (blk b (flat enc1 n fun _ => 0) :: l)) → K (.slice (some ⟨b, 0, none⟩) n n) H') :
    hw Try.prog (Instr.makeSlice 28 (.int .i64 n) (.int .i64 n)) K H := by
  obtain ⟨inf, hi, hz, hs, hbb⟩ := info_of iInt
  exact make_at (enc := enc1) 0 tInts hi hz (by rw [hs]; exact enc1_len) rfl h (by omega) (by omega) (by rw [hbb]; omega) k

theorem tU64s : Try.prog.underlying 23 = some (.slice 22) := by kernel_rfl
theorem iU64 : (Try.prog.info? 22).map (fun i => (i.zero, i.size, i.bytes)) = some (some (.int .u64 0), 1, 8) := by kernel_rfl

def nats (q : List Nat) : List Value := q.map fun k : Nat => .int .u64 (k : Int)

theorem own_of_blk {H : Hp} {b : Nat} {cs : List Value} {l : List Asr} (h : Sat H (sep (blk b cs :: l))) : Sat H (sep (own (some ⟨b, 0, none⟩) cs.length cs.length 1 cs :: l)) := by
  obtain ⟨y, ⟨h1, h2, ap, l1, l2, hb, hr⟩, hle⟩ := h
  exact ⟨y, ⟨h1, h2, ap, l1, l2, ⟨by rw [Nat.mul_one], b, [], rfl, by simp, by simpa using hb⟩, hr⟩, hle⟩

theorem rdU_own {H : Hp} {l : List Asr} {i : Nat} {a : Option Addr} {c : Nat} {q : List Nat} (hS : Sat H (sep l)) (hi : l[i]? = some (own a q.length c 1 (nats q))) : RdU H a q := fun j k hj => by
  have hsrc := own_cells hS hi
  have hjl := (List.getElem?_eq_some_iff.1 hj).1
  unfold Src at hsrc
  cases a with
  | none =>
    have := hsrc.2.2
    omega
  | some b => exact ⟨b, rfl, hsrc.2.2 j _ (by unfold nats; rw [List.getElem?_map, hj]; rfl)⟩

theorem src_rdU {H : Hp} {a : Option Addr} {c : Nat} {q : List Nat} (h : RdU H a q) : Src H 1 (.slice a q.length c) q.length (nats q) := by
  unfold Src
  refine ⟨by unfold nats; simp, ?_⟩
  cases a with
  | none =>
    refine ⟨rfl, ?_⟩
    cases q with
    | nil => rfl
    | cons x q =>
      obtain ⟨b, hb, _⟩ := h 0 x rfl
      cases hb
  | some ad =>
    refine ⟨rfl, fun j v hj => ?_⟩
    unfold nats at hj
    rw [List.getElem?_map] at hj
    obtain ⟨k, hk, rfl⟩ := Option.map_eq_some_iff.1 hj
    obtain ⟨b, hb, hc⟩ := h j k hk
    cases hb
    exact hc

/-- append to a slice of such numbers that is one's own. -/
theorem append_u64 {H : Hp} {l : List Asr} (h : Sat H (sep l)) (i : Nat) {a b : Option Addr} {c d : Nat} {xs ys : List Nat} (hio : l[i]? = some (own a xs.length c 1 (nats xs))) (hr : RdU H b ys) (hb : xs.length + ys.length ≤ 1000000) {K : Value → Hp → Prop}
    (k : ∀ a' c' H', Sat H' (sep (l.set i (own a' (xs ++ ys).length c' 1 (nats (xs ++ ys))))) → K (.slice a' (xs ++ ys).length c') H') :
    hw Try.prog (Builtin.append_ #[23, 23] 23 #[.slice a xs.length c, .slice b ys.length d]) K H := by
  obtain ⟨inf, hi, hz, hs, hbb⟩ := info_of iU64
  refine append_at tU64s hi hz (by rw [hs]; rfl) h i (by rw [hs]; exact hio) (m := ys.length) (vs := nats ys) (by rw [hs]; exact src_rdU hr) ?_ (by rw [hbb]; omega) (by rw [hbb]; omega) fun a' c' H' hS' => ?_
  · unfold nats
    rw [List.all_eq_true]
    intro v hv
    obtain ⟨k, _, rfl⟩ := List.mem_map.1 hv
    rfl
  · have := k a' c' H'
    rw [List.length_append] at this
    refine this ?_
    rw [hs] at hS'
    have e : nats (xs ++ ys) = nats xs ++ nats ys := List.map_append
    rw [e]
    exact hS'

/-- Each is told once: those ahead of the hour B. -/
def toldF (f : Nat → Mk) (n B : Nat) : Nat → Int := fun k => if k < n ∧ (f k).at_ < B then 1 else 0

def gapF (n0 : Nat) (xs : List Nat) : Nat → Mk := fun k => ⟨n0 + xs.getD k 0 % 4611686018427387904, k⟩

/-- Where the law stands ahead of the j-th step. -/
structure OnceAt (n0 : Nat) (S : List Nat) (j L B : Nat) : Prop where
  le : j ≤ S.length
  lo : n0 ≤ L
  hi : L ≤ 9223372036854775807 + j * 144115188075855872
  from_ : (B = 0 ∧ L = n0 ∧ j = 0) ∨ B = L + 1
  fin : j = S.length → 9223372036854775807 ≤ L

def toN (L s : Nat) : Nat := if s = 9223372036854775807 then 9223372036854775807 else L + s % 144115188075855872

theorem OnceAt.step {n0 j L B s : Nat} {S : List Nat} (h : OnceAt n0 S j L B) (hj : j < S.length) (hlast : j + 1 = S.length → s = 9223372036854775807) : OnceAt n0 S (j + 1) (max L (toN L s)) (max B (max L (toN L s) + 1)) := by
  have h1 := h.lo; have h2 := h.hi; have h3 := h.from_
  unfold toN
  refine ⟨hj, by omega, ?_, .inr ?_, fun he => ?_⟩
  · split <;> omega
  · omega
  · rw [if_pos (hlast he)]; omega

theorem told_zero (f : Nat → Mk) (n : Nat) : toldF f n 0 = fun _ => 0 := by
  funext k; unfold toldF; rw [if_neg (by omega)]

/-- Told, those of a row too. -/
def toldQ (f : Nat → Mk) (n B : Nat) (q : List Nat) : Nat → Int := fun k => if k ∈ q then 1 else toldF f n B k

theorem toldQ_nil (f : Nat → Mk) (n B : Nat) : toldQ f n B [] = toldF f n B := by
  funext k; simp [toldQ]

theorem toldQ_upd {f : Nat → Mk} {n B j k : Nat} {q : List Nat} (hk : q[j]? = some k) : upd (toldQ f n B (q.take j)) k 1 = toldQ f n B (q.take (j + 1)) := by
  funext i
  have ht : q.take (j + 1) = q.take j ++ [k] := by rw [List.take_add_one, hk]; rfl
  by_cases hi : i = k
  · subst hi
    rw [upd_self]; unfold toldQ; rw [ht, if_pos (by simp)]
  · rw [upd_ne _ _ hi]; unfold toldQ; rw [ht]; simp [hi]

theorem toldQ_all {f : Nat → Mk} {n B T : Nat} {q : List Nat} (hq : DueA (cutA f n B) T q) : toldQ f n B q = toldF f n (max B (T + 1)) := by
  funext k
  unfold toldQ toldF
  by_cases hk : k ∈ q
  · obtain ⟨x, h1, h2⟩ := (hq.mem k).1 hk
    obtain ⟨⟨h3, h4⟩, rfl⟩ := cut_some.1 h1
    rw [if_pos hk, if_pos (by omega)]
  · rw [if_neg hk]
    have hn : ¬ (k < n ∧ B ≤ (f k).at_ ∧ (f k).at_ ≤ T) := fun ⟨h1, h2, h3⟩ => hk ((hq.mem k).2 ⟨_, cut_some.2 ⟨⟨h1, h2⟩, rfl⟩, h3⟩)
    by_cases h : k < n ∧ (f k).at_ < B
    · rw [if_pos h, if_pos (by omega)]
    · rw [if_neg h, if_neg (by omega)]

theorem not_take {q : List Nat} (hd : q.Nodup) {j k : Nat} (hk : q[j]? = some k) : k ∉ q.take j := by
  intro hm
  obtain ⟨i, hi⟩ := List.getElem?_of_mem hm
  rw [List.getElem?_take] at hi
  split at hi
  next hij =>
    have hjl := (List.getElem?_eq_some_iff.1 hk).1
    have := (List.getElem?_inj (by omega : i < q.length) hd).1 (hi.trans hk.symm)
    omega
  next => cases hi

theorem rd_flat1 {H : Hp} {l : List Asr} {i b n : Nat} {f : Nat → Int} (hS : Sat H (sep l)) (hi : l[i]? = some (blk b (flat enc1 n f))) {k : Nat} (hk : k < n) : cellH H ⟨b, k, none⟩ = some (.int .i64 (f k)) := by
  have h := flat_get enc1_len n f k 0 hk (by omega)
  rw [Nat.mul_one, Nat.add_zero] at h
  rw [hS.cell i hi k, h]
  rfl

theorem wr_flat1 {H : Hp} {K : Hp → Prop} {l : List Asr} {n : Nat} {f : Nat → Int} (h : Sat H (sep l)) (i : Nat) {b : Nat} (hi : l[i]? = some (blk b (flat enc1 n f))) (r : Nat) (x : Int) (hr : r < n)
    (k : ∀ H', Sat H' (sep (l.set i (blk b (flat enc1 n (upd f r x))))) → K H') : wrK ⟨b, r, none⟩ [.int .i64 x] 0 K H := by
  have := wrR0 enc1_len h i hi r x (vs := [.int .i64 x]) hr (by simp) rfl k
  rwa [Nat.mul_one] at this

theorem Once_spec {H : Hp} {a a' : Option Addr} {c c' : Nat} {xs ys : List Nat} (n0 : Nat) (hx : ∀ x, x ∈ xs → x < 18446744073709551616) (hy : ∀ y, y ∈ ys → y < 18446744073709551616) (ha : RdU H a xs) (ha' : RdU H a' ys) :
    CallV Try.prog 3 #[.int .u64 n0, .slice a xs.length c, .slice a' ys.length c'] H fun v H' => v = .bool true ∧ Grows H H' := by
  apply l7Once.calls
  unfold l7Once
  refine (alive_spec (sat_old H)).mono ?_
  rintro v H1 ⟨rfl, hS1⟩
  refine ⟨_, rfl, fun h => (by cases h), fun _ => ?_⟩
  have hg1 := grows_of (old_heap hS1 0 rfl)
  by_cases hl : (xs.length : Int) > 64
  · exact guard_off (by rw [decide_eq_true hl]; decide) (guard_off (by decide) ⟨fun _ => ⟨by trivial, hg1⟩, fun h => by cases h⟩)
  refine guard_on (decide_eq_false hl) ?_
  by_cases hl' : (ys.length : Int) > 60
  · exact guard_off (by rw [decide_eq_true hl']; decide) ⟨fun _ => ⟨by trivial, hg1⟩, fun h => by cases h⟩
  refine guard_on (decide_eq_false hl') ⟨fun _ => ⟨by trivial, hg1⟩, fun hn => ?_⟩
  have hn0 : n0 ≤ 4611686018427387904 := by have := of_decide_eq_false hn; omega
  have hxs := getD_lt hx
  have hF : ∀ k, IntKind.wrap .u64 ((n0 : Int) + iand .u64 ((xs.getD k 0 : Nat) : Int) 4611686018427387903) = ((gapF n0 xs k).at_ : Nat) := fun k => (mask_add n0 _ 62 hn0 (hxs k) (by omega)).1
  have hF' : ∀ k, n0 ≤ (gapF n0 xs k).at_ ∧ (gapF n0 xs k).at_ ≤ 9223372036854775807 := fun k => by unfold gapF; simp only; omega
  refine (NewA xs.length n0 (by omega) (by omega) hS1).mono ?_
  rintro v H2 ⟨p, rfl, hS2⟩
  rw [← cut_zero (gapF n0 xs) 0] at hS2
  refine ⟨_, rfl, fun vs H' => match vs with
    | [.int _ i] => ∃ j : Nat, i = j ∧ j ≤ xs.length ∧ Sat H' (sep [wheelA p xs.length n0 (cutA (gapF n0 xs) j 0), old (hp H)])
    | _ => False, fun vs _ => match vs with
    | [.int _ i] => xs.length - i.toNat
    | _ => 0, ⟨0, rfl, Nat.zero_le _, hS2⟩, ?_⟩
  rintro i H3 ⟨j, rfl, hj, hS3⟩
  refine ⟨fun h => ?_, fun h => ?_⟩
  · have hjl : j < xs.length := by have := of_decide_eq_true h; omega
    obtain ⟨b, rfl, hc⟩ := rdU_at (ha.old (old_heap hS3 1 rfl)) hjl
    simp only [optK_some, Int.toNat_natCast, Nat.mul_one]
    refine ⟨by omega, by omega, _, hc, ?_⟩
    rw [hF j, wrapU_nat (by omega : j < 18446744073709551616)]
    have := hF' j
    refine set_ok j (gapF n0 xs j).at_ j (by omega) (by omega) hjl (cut_none (Nat.le_refl _)) hS3 fun H4 hS4 => ⟨_, rfl, fun h => (by cases h), fun _ => ?_⟩
    have e : upd (cutA (gapF n0 xs) j 0) j (some ⟨(gapF n0 xs j).at_, j⟩) = cutA (gapF n0 xs) (j + 1) 0 := cut_upd (gapF n0 xs) j
    rw [e] at hS4
    rw [step64 hjl (by omega)]
    exact ⟨⟨j + 1, rfl, by omega, hS4⟩, by omega⟩
  · have : j = xs.length := by have := of_decide_eq_false h; omega
    subst this
    refine make_ints hS3 xs.length (by omega) fun tb H4 hS4 => ⟨_, _, _, rfl, ?_⟩
    refine nw_at (cs := nats [0]) hS4 fun sb H5 hS5 => ?_
    have hS5' := own_of_blk hS5
    refine append_u64 (xs := [0]) (ys := ys) hS5' 0 rfl (ha'.old (old_heap hS5' 3 rfl)) (by simp; omega) fun a6 c6 H6 hS6 => ⟨_, _, _, rfl, ?_⟩
    refine nw_at (cs := nats [9223372036854775807]) hS6 fun lb H7 hS7 => ?_
    have hlb : RdU H7 (some ⟨lb, 0, none⟩) [9223372036854775807] := rdU_own (own_of_blk hS7) (i := 0) rfl
    refine append_u64 (xs := [0] ++ ys) (ys := [9223372036854775807]) (c := c6) (d := 1) hS7 1 rfl hlb (by simp; omega) fun a8 c8 H8 hS8 => ⟨_, _, _, rfl, ?_⟩
    have hS9 : Sat H8 (sep [own a8 ([0] ++ ys ++ [9223372036854775807]).length c8 1 (nats ([0] ++ ys ++ [9223372036854775807])), blk tb (flat enc1 xs.length (toldF (gapF n0 xs) xs.length 0)), wheelA p xs.length n0 (cutA (gapF n0 xs) xs.length 0), old (hp H)]) := by
      rw [told_zero]
      exact hS8.drop
    generalize hS : [0] ++ ys ++ [9223372036854775807] = S at hS9 ⊢
    have hSlen : S.length = ys.length + 2 := by
      rw [← hS, List.length_append, List.length_append]
      simp only [List.length_cons, List.length_nil]
      omega
    have hSlt : ∀ s, s ∈ S → s < 18446744073709551616 := fun s hs => by
      rw [← hS] at hs
      simp only [List.mem_append, List.mem_cons, List.not_mem_nil, or_false] at hs
      rcases hs with (rfl | hs) | rfl
      · omega
      · exact hy s hs
      · omega
    have hSend : ∀ j s, S[j]? = some s → j + 1 = S.length → s = 9223372036854775807 := fun j s hs he => by
      rw [hSlen] at he
      have hj1 : j = ([0] ++ ys : List Nat).length := by
        rw [List.length_append]
        simp only [List.length_cons, List.length_nil]
        omega
      rw [← hS, List.getElem?_append_right (by omega), hj1, Nat.sub_self] at hs
      simpa using hs.symm
    refine ⟨fun vs H' => match vs with
      | [.int _ l, .int _ i] => ∃ j L B : Nat, i = j ∧ l = L ∧ OnceAt n0 S j L B ∧ Sat H' (sep [own a8 S.length c8 1 (nats S), blk tb (flat enc1 xs.length (toldF (gapF n0 xs) xs.length B)), wheelA p xs.length L (cutA (gapF n0 xs) xs.length B), old (hp H)])
      | _ => False, fun vs _ => match vs with
      | [_, .int _ i] => S.length - i.toNat
      | _ => 0, ⟨0, n0, 0, rfl, rfl, ⟨by omega, Nat.le_refl _, by omega, .inl ⟨rfl, rfl, rfl⟩, fun h => by omega⟩, hS9⟩, ?_⟩
    rintro l i H10 ⟨j, L, B, rfl, rfl, hO, hS10⟩
    have hjS := hO.le
    refine ⟨fun h => ?_, fun h => ?_⟩
    · have hjl : j < S.length := by have := of_decide_eq_true h; omega
      have hget := List.getElem?_eq_getElem hjl
      generalize S[j] = s at hget
      have hs := hSlt s (List.mem_of_getElem? hget)
      have hend := hSend j s hget
      obtain ⟨b8, rfl, hc8⟩ := rdU_own hS10 (i := 0) rfl j s hget
      simp only [optK_some, Int.toNat_natCast, Nat.mul_one]
      have hhi := hO.hi
      have hL : L < 18446744073709551616 - 144115188075855872 := by omega
      refine ⟨by omega, by omega, _, hc8, fun vs H' => vs = [.int .u64 (toN L s : Nat)] ∧ H' = H10, ⟨fun h => ⟨?_, rfl⟩, fun h => ⟨?_, rfl⟩⟩, ?_⟩
      · have : s = 9223372036854775807 := by have : (s : Int) = 9223372036854775807 := by simpa using h
                                             omega
        unfold toN; rw [if_pos this]; rfl
      · have : ¬ s = 9223372036854775807 := by intro e; rw [e] at h; simp at h
        unfold toN; rw [if_neg this]
        have hm : iand .u64 (s : Int) 144115188075855871 = ((s % 144115188075855872 : Nat) : Int) := iand_mask hs 57 (by omega)
        rw [hm, ← Int.natCast_add, wrapU_nat (by omega)]
      · rintro t H11 ⟨he, rfl⟩
        cases he
        have hto : toN L s < 18446744073709551616 := by unfold toN; split <;> omega
        have hstep := hO.step hjl hend
        have hto0 : n0 ≤ toN L s := by have := hO.lo; unfold toN; split <;> omega
        have hS11 : Sat H11 (sep (wheelA p xs.length L (cutA (gapF n0 xs) xs.length B) :: [own (some b8) S.length c8 1 (nats S), blk tb (flat enc1 xs.length (toldF (gapF n0 xs) xs.length B)), old (hp H)])) := hS10.perm (List.perm_middle (l₁ := [_, _]))
        refine (ToA (toN L s) hto hS11).mono ?_
        rintro v H12 ⟨q, a12, c12, rfl, hq, hS12⟩
        rw [cut_past] at hS12
        have hmax : imax (L : Int) (toN L s : Nat) = ((max L (toN L s) : Nat) : Int) := imax_nat _ _
        rw [hmax]
        have hqn : ∀ k, k ∈ q → k < xs.length ∧ B ≤ (gapF n0 xs k).at_ ∧ (gapF n0 xs k).at_ ≤ max L (toN L s) := fun k hk => by
          obtain ⟨x, h1, h2⟩ := (hq.mem k).1 hk
          obtain ⟨⟨h3, h4⟩, rfl⟩ := cut_some.1 h1
          exact ⟨h3, h4, h2⟩
        have hql : q.length ≤ xs.length := nodup_length hq.nodup fun k hk => (hqn k hk).1
        have hall := toldQ_all hq
        have hfr := hO.from_
        generalize hT : max L (toN L s) = T at *
        generalize toN L s = t at *
        refine ⟨_, _, _, rfl, fun vs H' => match vs with
          | [.int _ i] => ∃ m : Nat, i = m ∧ m ≤ q.length ∧ Sat H' (sep [own a12 q.length c12 1 (ints q), blk tb (flat enc1 xs.length (toldQ (gapF n0 xs) xs.length B (q.take m))), wheelA p xs.length T (cutA (gapF n0 xs) xs.length (max B (T + 1))), own (some b8) S.length c8 1 (nats S), old (hp H)])
          | _ => False, fun vs _ => match vs with
          | [.int _ i] => q.length - i.toNat
          | _ => 0, ⟨0, rfl, Nat.zero_le _, by rw [List.take_zero, toldQ_nil]; exact hS12.perm (.cons _ (List.perm_middle (l₁ := [_, _])))⟩, ?_⟩
        rintro i H13 ⟨m, rfl, hm, hS13⟩
        refine ⟨fun h => ?_, fun h => ?_⟩
        · have hml : m < q.length := by have := of_decide_eq_true h; omega
          have hgq := List.getElem?_eq_getElem hml
          generalize q[m] = k at hgq
          obtain ⟨hk1, hk2, hk3⟩ := hqn k (List.mem_of_getElem? hgq)
          obtain ⟨b12, rfl, hc12⟩ := rd_own hS13 (i := 0) rfl m k hgq
          have hk0 : toldQ (gapF n0 xs) xs.length B (q.take m) k = 0 := by
            unfold toldQ toldF
            rw [if_neg (not_take hq.nodup hgq), if_neg (by omega)]
          have hct := rd_flat1 hS13 (i := 1) rfl hk1
          rw [hk0] at hct
          simp only [optK_some, Int.toNat_natCast, add_mk, Nat.zero_add]
          refine ⟨by omega, by omega, _, hc12, guard_on (decide_eq_false (by omega)) ?_⟩
          rw [Int.toNat_natCast]
          refine guard_on (decide_eq_false (by omega)) ⟨by omega, by omega, _, hct, fun h => (by simp at h), fun _ => ?_⟩
          refine ⟨by omega, by omega, _, hct, by omega, by omega, ?_⟩
          rw [show IntKind.wrap .i64 ((0 : Int) + 1) = 1 by decide]
          refine wr_flat1 hS13 1 rfl k 1 hk1 fun H14 hS14 => ?_
          rw [toldQ_upd hgq] at hS14
          obtain ⟨b, rfl, hca⟩ := rdU_at (ha.old (old_heap hS14 4 rfl)) hk1
          simp only [optK_some]
          refine ⟨by omega, by omega, _, hca, ?_⟩
          rw [hF k, step64 hml (by omega)]
          refine guard_on (decide_eq_false (by omega)) ?_
          have hfin : ∀ {K : Bool → Hp → Prop}, K false H14 → guardM (decide (((gapF n0 xs k).at_ : Int) ≤ (L : Int))) true (fun kk H89 => kk ((L : Int) != n0) H89) K H14 := fun {K} hK => by
            by_cases hc : ((gapF n0 xs k).at_ : Int) ≤ L
            · refine guard_on (decide_eq_true hc) ?_
              have : ((L : Int) != n0) = false := by
                have : L = n0 := by omega
                rw [this]; simp
              rw [this]; exact hK
            · exact guard_off (by rw [decide_eq_false hc]; decide) hK
          refine hfin ⟨fun h => (by cases h), fun _ => ⟨⟨m + 1, rfl, by omega, hS14⟩, by omega⟩⟩
        · have : m = q.length := by have := of_decide_eq_false h; omega
          subst this
          rw [List.take_length, hall] at hS13
          rw [step64 hjl (by omega)]
          exact ⟨⟨j + 1, T, max B (T + 1), rfl, rfl, hstep, (hS13.drop.perm (List.perm_middle (l₁ := [_, _])))⟩, by omega⟩
    · have hjj : j = S.length := by have := of_decide_eq_false h; omega
      have hLL := hO.fin hjj
      have hB : 9223372036854775807 < B := by have := hO.from_; omega
      have hg := grows_of (old_heap hS10 3 rfl)
      have htold : ∀ k, k < xs.length → toldF (gapF n0 xs) xs.length B k = 1 := fun k hk => by
        have := hF' k
        unfold toldF; rw [if_pos (by omega)]
      refine ⟨fun vs H' => H' = H10 ∧ match vs with
        | [.int _ i] => ∃ m : Nat, i = m ∧ m ≤ xs.length
        | _ => False, fun vs _ => match vs with
        | [.int _ i] => xs.length - i.toNat
        | _ => 0, ⟨rfl, 0, rfl, Nat.zero_le _⟩, ?_⟩
      rintro i H11 ⟨rfl, m, rfl, hm⟩
      refine ⟨fun h => ?_, fun h => ?_⟩
      · have hml : m < xs.length := by have := of_decide_eq_true h; omega
        have hct := rd_flat1 hS10 (i := 1) rfl hml
        rw [htold m hml] at hct
        simp only [optK_some, Int.toNat_natCast, add_mk, Nat.zero_add, Nat.mul_one]
        refine ⟨by omega, by omega, _, hct, fun h => (by simp at h), fun _ => ?_⟩
        rw [step64 hml (by omega)]
        exact ⟨⟨by first | exact rfl | exact trivial, m + 1, rfl, by omega⟩, by omega⟩
      · refine (LenA (hS10.drop.drop)).mono ?_
        rintro v H12 ⟨rfl, rfl⟩
        rw [cntA_none (fun k _ => by have := hF' k; unfold cutA; rw [if_neg (by omega)])]
        exact ⟨_, rfl, rfl, hg⟩

end Go.Proofs.Ytlkocnmgpalmnaa
