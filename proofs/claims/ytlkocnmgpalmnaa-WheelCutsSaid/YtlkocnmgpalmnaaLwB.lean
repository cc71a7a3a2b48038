/- Wheels that are filled one by one, and what is left of them behind an hour. -/
import Derived.Test.YtlkocnmgpalmnaaWhM
namespace Go.Proofs.Ytlkocnmgpalmnaa
open Go Go.EV

/-- The first n are set; of them those from the hour B on. -/
def cutA (f : Nat → Mk) (n B : Nat) : Nat → Option Mk := fun k => if k < n ∧ B ≤ (f k).at_ then some (f k) else none

theorem cut_some {f : Nat → Mk} {n B k : Nat} {x : Mk} : cutA f n B k = some x ↔ (k < n ∧ B ≤ (f k).at_) ∧ x = f k := by
  unfold cutA
  split
  next h => exact ⟨fun e => ⟨h, by cases e; rfl⟩, fun e => by rw [e.2]⟩
  next h => exact ⟨fun e => (by cases e), fun e => absurd e.1 h⟩

theorem cut_zero (f : Nat → Mk) (B : Nat) : cutA f 0 B = fun _ => none := by
  funext k; unfold cutA; rw [if_neg (by omega)]

theorem cut_none {f : Nat → Mk} {n B k : Nat} (h : n ≤ k) : cutA f n B k = none := by
  unfold cutA; rw [if_neg (by omega)]

theorem cut_upd (f : Nat → Mk) (n : Nat) : upd (cutA f n 0) n (some (f n)) = cutA f (n + 1) 0 := by
  funext k
  by_cases h : k = n
  · subst h
    rw [upd_self]; unfold cutA; rw [if_pos ⟨by omega, Nat.zero_le _⟩]
  · rw [upd_ne _ _ h]; unfold cutA
    by_cases h2 : k < n
    · rw [if_pos ⟨h2, Nat.zero_le _⟩, if_pos ⟨by omega, Nat.zero_le _⟩]
    · rw [if_neg (by omega), if_neg (by omega)]

theorem cut_past (f : Nat → Mk) (n B T : Nat) : pastA (cutA f n B) T = cutA f n (max B (T + 1)) := by
  funext k
  unfold pastA cutA
  by_cases h : k < n ∧ B ≤ (f k).at_
  · rw [if_pos h]
    simp only
    by_cases h2 : (f k).at_ ≤ T
    · rw [if_pos h2, if_neg (by omega)]
    · rw [if_neg h2, if_pos (by omega)]
  · rw [if_neg h, if_neg (by omega)]

theorem cut_same {f : Nat → Mk} {n B B' : Nat} (h : ∀ k, k < n → (B ≤ (f k).at_ ↔ B' ≤ (f k).at_)) : cutA f n B = cutA f n B' := by
  funext k
  unfold cutA
  by_cases hk : k < n
  · have := h k hk
    by_cases h2 : B ≤ (f k).at_
    · rw [if_pos ⟨hk, h2⟩, if_pos ⟨hk, this.1 h2⟩]
    · rw [if_neg (fun e => h2 e.2), if_neg (fun e => h2 (this.2 e.2))]
  · rw [if_neg (fun e => hk e.1), if_neg (fun e => hk e.1)]

theorem cntA_none {n : Nat} {A : Nat → Option Mk} (h : ∀ k, k < n → A k = none) : cntA n A = 0 := by
  unfold cntA
  rw [List.filter_eq_nil_iff.2 (fun k hk => by rw [h k (List.mem_range.1 hk)]; simp)]
  rfl

theorem getA_nat {n : Nat} {A : Nat → Option Mk} {k : Nat} (h : k < n) : getA n A (k : Int) = A k := by
  unfold getA
  rw [if_pos ⟨by omega, by omega⟩, Int.toNat_natCast]

theorem rdU_at {H : Hp} {a : Option Addr} {xs : List Nat} (h : RdU H a xs) {j : Nat} (hj : j < xs.length) : ∃ b, a = some b ∧ cellH H (b.add j) = some (.int .u64 (xs.getD j 0 : Nat)) := by
  have hget := List.getElem?_eq_getElem hj
  obtain ⟨b, e, hc⟩ := h j _ hget
  exact ⟨b, e, by rw [List.getD_eq_getElem?_getD, hget]; exact hc⟩

theorem nodup_length {q : List Nat} {n : Nat} (hd : q.Nodup) (h : ∀ k, k ∈ q → k < n) : q.length ≤ n := by
  have hp : q.Perm ((List.range n).filter fun k => decide (k ∈ q)) := by
    rw [List.perm_ext_iff_of_nodup hd (List.nodup_range.filter _)]
    intro k
    rw [List.mem_filter, List.mem_range, decide_eq_true_iff]
    exact ⟨fun hk => ⟨h k hk, hk⟩, fun hk => hk.2⟩
  rw [hp.length_eq]
  have := List.length_filter_le (fun k => decide (k ∈ q)) (List.range n)
  simpa using this

theorem step64 {j n : Nat} (hj : j < n) (hn : n ≤ 4611686018427387904) : IntKind.wrap .i64 ((j : Int) + 1) = ((j + 1 : Nat) : Int) := by
  rw [wrap64_id (by omega) (by omega)]; rfl

theorem mask_add (n x k : Nat) (hn : n ≤ 4611686018427387904) (hx : x < 18446744073709551616) (hk : k < 63) : IntKind.wrap .u64 ((n : Int) + iand .u64 (x : Int) ((2 ^ k - 1 : Nat) : Int)) = ((n + x % 2 ^ k : Nat) : Int) ∧ n + x % 2 ^ k < 18446744073709551616 := by
  have h1 : x % 2 ^ k < 2 ^ k := Nat.mod_lt _ (Nat.two_pow_pos k)
  have h2 : 2 ^ k ≤ 2 ^ 62 := Nat.pow_le_pow_right (by omega) (by omega)
  have h3 : (2 : Nat) ^ 62 = 4611686018427387904 := by decide
  rw [iand_mask hx k (by omega), ← Int.natCast_add, wrapU_nat (by omega)]
  exact ⟨rfl, by omega⟩

end Go.Proofs.Ytlkocnmgpalmnaa
