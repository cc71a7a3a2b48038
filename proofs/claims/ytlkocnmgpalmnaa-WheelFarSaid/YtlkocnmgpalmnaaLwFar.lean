/- WheelFar: whatever the hour, the alarm and the steps are, the law answers true and all that was there stands. -/
import Derived.Test.YtlkocnmgpalmnaaWhM
namespace Go.Proofs.Ytlkocnmgpalmnaa
open Go Go.EV

def farA (b : Bool) (at_ : Nat) : Nat → Option Mk := fun k => if k = 0 ∧ b = false then some ⟨at_, 0⟩ else none

theorem far_some {b : Bool} {at_ k : Nat} {x : Mk} : farA b at_ k = some x ↔ k = 0 ∧ b = false ∧ x = ⟨at_, 0⟩ := by
  unfold farA
  split
  next h => exact ⟨fun e => ⟨h.1, h.2, by cases e; rfl⟩, fun e => by rw [e.2.2]⟩
  next h => exact ⟨fun e => (by cases e), fun e => absurd ⟨e.1, e.2.1⟩ h⟩

theorem far_due (b : Bool) (at_ to : Nat) : DueA (farA b at_) to (if at_ ≤ to ∧ b = false then [0] else []) := by
  refine ⟨fun k => ?_, ?_⟩
  · constructor
    · intro hk
      split at hk
      next h =>
        have : k = 0 := by simpa using hk
        exact ⟨_, far_some.2 ⟨this, h.2, rfl⟩, h.1⟩
      next => cases hk
    · rintro ⟨x, hx, hle⟩
      obtain ⟨rfl, hb, rfl⟩ := far_some.1 hx
      rw [if_pos ⟨hle, hb⟩]; simp
  · split <;> simp

theorem far_past (b : Bool) (at_ to : Nat) : pastA (farA b at_) to = farA (b || decide (at_ ≤ to)) at_ := by
  funext k
  unfold pastA
  cases hf : farA b at_ k with
  | none =>
    symm
    cases hg : farA (b || decide (at_ ≤ to)) at_ k with
    | none => rfl
    | some x =>
      obtain ⟨h1, h2, h3⟩ := far_some.1 hg
      have : b = false := by cases b <;> simp_all
      rw [far_some.2 ⟨h1, this, h3⟩] at hf; cases hf
  | some x =>
    obtain ⟨h1, h2, h3⟩ := far_some.1 hf
    subst h1; subst h2; subst h3
    simp only [Bool.false_or]
    by_cases h : at_ ≤ to
    · rw [if_pos h, decide_eq_true h]; rfl
    · rw [if_neg h, decide_eq_false h]; rfl

theorem far_cnt (b : Bool) (at_ : Nat) : cntA 1 (farA b at_) = if b then 0 else 1 := by
  cases b <;> rfl

theorem far_len {b : Bool} {at_ to : Nat} {q : List Nat} (h : DueA (farA b at_) to q) : ((q.length : Int) == 1) = (decide (at_ ≤ to) && !b) := by
  have := due_eq h (far_due b at_ to) fun _ _ => Iff.rfl
  rw [this]
  cases b <;> by_cases h : at_ ≤ to <;> simp [h]

theorem Far_spec {H : Hp} {a : Option Addr} {c : Nat} {xs : List Nat} (n0 n1 : Nat) (h0 : n0 < 18446744073709551616) (h1 : n1 < 18446744073709551616) (hx : ∀ x, x ∈ xs → x < 18446744073709551616) (ha : RdU H a xs) :
    CallV Try.prog 8 #[.int .u64 n0, .int .u64 n1, .slice a xs.length c] H fun v H' => v = .bool true ∧ Grows H H' := by
  apply l7Far.calls
  unfold l7Far
  refine (alive_spec (sat_old H)).mono ?_
  rintro v H1 ⟨rfl, hS1⟩
  refine ⟨_, rfl, fun h => (by cases h), fun _ => ⟨fun _ => ⟨by trivial, grows_of (old_heap hS1 0 rfl)⟩, fun hl => ?_⟩⟩
  have hlen : xs.length ≤ 40 := by have := of_decide_eq_false hl; omega
  refine (NewA 1 n0 (by omega) h0 hS1).mono ?_
  rintro v H2 ⟨p, rfl, hS2⟩
  refine ⟨_, rfl, set_ok 0 n1 0 h1 (by omega) (by omega) rfl hS2 fun H3 hS3 => ⟨_, rfl, fun h => (by cases h), fun _ => ?_⟩⟩
  have e0 : upd (fun _ => (none : Option Mk)) 0 (some ⟨n1, 0⟩) = farA false n1 := by
    funext k
    unfold upd farA
    by_cases h : k = 0 <;> simp [h]
  rw [e0] at hS3
  refine ⟨fun vs H' => match vs with
    | [.int _ i, .bool b, .int _ t] => ∃ j T : Nat, i = j ∧ j ≤ xs.length ∧ t = T ∧ T < 18446744073709551616 ∧ (b = true → n1 ≤ T) ∧ Sat H' (sep [wheelA p 1 T (farA b n1), old (hp H)])
    | _ => False, fun vs _ => match vs with
    | [.int _ i, _, _] => xs.length - i.toNat
    | _ => 0, ⟨0, n0, rfl, Nat.zero_le _, rfl, h0, fun h => (by cases h), hS3⟩, ?_⟩
  rintro i b t H4 ⟨j, T, rfl, hj, rfl, hT, hb, hS4⟩
  refine ⟨fun h => ?_, fun h => ?_⟩
  · have hjl : j < xs.length := by have := of_decide_eq_true h; omega
    have hget := List.getElem?_eq_getElem hjl
    generalize xs[j] = s at hget
    have hs := hx s (List.mem_of_getElem? hget)
    obtain ⟨ad, rfl, hc⟩ := (ha.old (old_heap hS4 1 rfl)) j s hget
    simp only [optK_some, Int.toNat_natCast, Nat.mul_one]
    refine ⟨by omega, by omega, _, hc, (ToA s hs hS4).mono ?_⟩
    rintro v H5 ⟨q, a5, c5, rfl, hq, hS5⟩
    rw [far_past] at hS5
    have hS5' := hS5.drop
    have hmax : imax (T : Int) s = ((max T s : Nat) : Int) := imax_nat T s
    rw [hmax]
    have hql := far_len hq
    have hm : max T s < 18446744073709551616 := by omega
    have hTT : T ≤ max T s := Nat.le_max_left ..
    generalize max T s = T' at *
    have hle : decide ((n1 : Int) ≤ (T' : Int)) = decide (n1 ≤ T') := by
      by_cases h : n1 ≤ T'
      · rw [decide_eq_true h, decide_eq_true (by omega)]
      · rw [decide_eq_false h, decide_eq_false (by omega)]
    rw [hle]
    refine ⟨_, _, _, by trivial, ?_⟩
    have g1 : ∀ {K : Bool → Hp → Prop}, K (decide (n1 ≤ T') && !b) H5 → guardM (decide (n1 ≤ T')) true (fun kk H28 => kk (!b) H28) K H5 := fun {K} hK => by
      by_cases h : n1 ≤ T'
      · refine guard_on (decide_eq_true h) ?_
        rw [decide_eq_true h] at hK; exact hK
      · refine guard_off (by rw [decide_eq_false h]; decide) ?_
        rw [decide_eq_false h] at hK; exact hK
    refine g1 ?_
    rw [hql]
    refine guard_on (by cases (decide (n1 ≤ T') && !b) <;> rfl) ((NowA hS5').mono ?_)
    rintro v H6 ⟨rfl, rfl⟩
    refine ⟨_, rfl, fun h => (by simp at h), fun _ => ?_⟩
    have g2 : ∀ {K : Bool → Hp → Prop}, K (b || decide (n1 ≤ T')) H6 → guardM b false (fun kk H39 => kk (decide (n1 ≤ T')) H39) K H6 := fun {K} hK => by
      cases b with
      | false => exact guard_on rfl hK
      | true => exact guard_off (by decide) hK
    refine g2 ((AtA 0 hS5').mono ?_)
    rintro v H7 ⟨rfl, rfl⟩
    have wj : IntKind.wrap .i64 ((j : Int) + 1) = ((j + 1 : Nat) : Int) := by rw [wrap64_id (by omega) (by omega)]; rfl
    rw [wj]
    have hor : (b || decide (n1 ≤ T')) = true → n1 ≤ T' := fun h => by
      cases b with
      | false => simpa using h
      | true =>
        have := hb rfl
        by_cases h2 : n1 ≤ T'
        · exact h2
        · exact absurd h2 (by omega)
    generalize (b || decide (n1 ≤ T')) = b' at *
    have last : ∀ H', Sat H' (sep [wheelA p 1 T' (farA b' n1), old (hp H)]) → _ := fun H' h => (⟨j + 1, T', rfl, by omega, rfl, hm, hor, h⟩ : ∃ (j' T : Nat), ((j + 1 : Nat) : Int) = j' ∧ j' ≤ xs.length ∧ ((T' : Nat) : Int) = T ∧ T < 18446744073709551616 ∧ (b' = true → n1 ≤ T) ∧ Sat H' (sep [wheelA p 1 T (farA b' n1), old (hp H)]))
    cases b' with
    | false => exact ⟨_, _, _, rfl, fun h => (by cases h), fun _ => ⟨last _ hS5', by omega⟩⟩
    | true => exact ⟨_, _, _, rfl, fun h => (by cases h), fun _ => ⟨last _ hS5', by omega⟩⟩
  · have : j = xs.length := by have := of_decide_eq_false h; omega
    refine (ToA 18446744073709551615 (by omega) hS4).mono ?_
    rintro v H5 ⟨q, a5, c5, rfl, hq, hS5⟩
    rw [far_past] at hS5
    have hS5' := hS5.drop
    have hql := far_len hq
    rw [decide_eq_true (by omega : n1 ≤ max T 18446744073709551615)] at hql hS5'
    refine ⟨_, _, _, by trivial, ?_⟩
    rw [hql]
    refine guard_on (by cases b <;> rfl) ((LenA hS5').mono ?_)
    rintro v H6 ⟨rfl, rfl⟩
    rw [far_cnt, Bool.or_true]
    exact ⟨_, rfl, rfl, grows_of (old_heap hS5' 1 rfl)⟩

end Go.Proofs.Ytlkocnmgpalmnaa
