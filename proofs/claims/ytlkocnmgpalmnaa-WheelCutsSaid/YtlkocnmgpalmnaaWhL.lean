/- What the laws of the wheel lean on: rows that are the same; the document's example. -/
import Derived.Test.YtlkocnmgpalmnaaWhV
namespace Go.Proofs.Ytlkocnmgpalmnaa
open Go Go.EV

/-- A slice reads as these numbers. -/
def RdI (H : Hp) (a : Option Addr) (xs : List Nat) : Prop := ∀ j k, xs[j]? = some k → ∃ b, a = some b ∧ cellH H (b.add j) = some (.int .i64 (k : Nat))

theorem rd_own {H : Hp} {l : List Asr} {i : Nat} {a : Option Addr} {c : Nat} {q : List Nat} (hS : Sat H (sep l)) (hi : l[i]? = some (own a q.length c 1 (ints q))) : RdI H a q := fun _ _ hj => cell_own hS hi hj

theorem rd_blk {H : Hp} {l : List Asr} {i b : Nat} {q : List Nat} (hS : Sat H (sep l)) (hi : l[i]? = some (blk b (ints q))) : RdI H (some ⟨b, 0, none⟩) q := fun j k hj =>
  ⟨_, rfl, by rw [add_mk, Nat.zero_add, hS.cell i hi j]; unfold ints; rw [List.getElem?_map, hj]; rfl⟩

theorem same_spec {H : Hp} {a b : Option Addr} {c d : Nat} {xs ys : List Nat} (ha : RdI H a xs) (hb : RdI H b ys) (hl : xs.length ≤ 4611686018427387904) :
    CallV Try.prog 14 #[.slice a xs.length c, .slice b ys.length d] H fun v H' => v = .bool (decide (xs = ys)) ∧ H' = H := by
  apply same3.calls
  unfold same3
  refine ⟨fun h => ?_, fun h => ?_⟩
  · have hne : (xs.length : Int) ≠ ys.length := by simpa using h
    have : xs ≠ ys := fun e => hne (by rw [e])
    rw [decide_eq_false this]
    exact ⟨rfl, rfl⟩
  · have he : xs.length = ys.length := by have : (xs.length : Int) = ys.length := by simpa using h
                                          omega
    refine ⟨fun vs H' => H' = H ∧ match vs with
      | [.int _ i] => ∃ j : Nat, i = j ∧ j ≤ xs.length ∧ xs.take j = ys.take j
      | _ => False, fun vs _ => match vs with
      | [.int _ i] => xs.length - i.toNat
      | _ => 0, ⟨rfl, 0, rfl, Nat.zero_le _, rfl⟩, ?_⟩
    rintro i H1 ⟨rfl, j, rfl, hj, htk⟩
    refine ⟨fun h => ?_, fun h => ?_⟩
    · have hjl : j < xs.length := by have := of_decide_eq_true h; omega
      have g1 := List.getElem?_eq_getElem hjl
      have g2 := List.getElem?_eq_getElem (he ▸ hjl)
      generalize xs[j] = x at g1
      generalize ys[j]'(he ▸ hjl) = y at g2
      obtain ⟨p, rfl, c1⟩ := ha j x g1
      obtain ⟨r, rfl, c2⟩ := hb j y g2
      simp only [optK_some, Int.toNat_natCast, Nat.mul_one]
      refine ⟨by omega, by omega, _, c1, by omega, by omega, _, c2, fun h2 => ?_, fun h2 => ?_⟩
      · have hxy : (x : Int) ≠ y := by simpa using h2
        have : xs ≠ ys := fun e => by
          rw [e] at g1
          exact hxy (by rw [Option.some.inj (g1.symm.trans g2)])
        rw [decide_eq_false this]
        exact ⟨by trivial, by trivial⟩
      · have hxy : x = y := by have : (x : Int) = y := by simpa using h2
                               omega
        have wj : IntKind.wrap .i64 ((j : Int) + 1) = ((j + 1 : Nat) : Int) := by rw [wrap64_id (by omega) (by omega)]; rfl
        rw [wj]
        exact ⟨⟨by trivial, j + 1, rfl, by omega, by rw [List.take_add_one, List.take_add_one, g1, g2, htk, hxy]⟩, by omega⟩
    · have : j = xs.length := by have := of_decide_eq_false h; omega
      subst this
      rw [List.take_length, he, List.take_length] at htk
      rw [decide_eq_true htk]
      exact ⟨rfl, rfl⟩

theorem DueA.nodup {A : Nat → Option Mk} {to : Nat} {q : List Nat} (h : DueA A to q) : q.Nodup := by
  refine h.sorted.imp ?_
  rintro i j ⟨x, y, hx, hy, hxy⟩ rfl
  rw [hx] at hy; cases hy
  omega

/-- Two rows of what is due are one. -/
theorem due_eq {A B : Nat → Option Mk} {to s : Nat} {q r : List Nat} (h : DueA A to q) (h' : DueA B s r) (hAB : ∀ k x, (A k = some x ∧ x.at_ ≤ to) ↔ (B k = some x ∧ x.at_ ≤ s)) : q = r := by
  have hm : ∀ k, k ∈ q ↔ k ∈ r := fun k => by
    rw [h.mem, h'.mem]
    exact ⟨fun ⟨x, hx⟩ => ⟨x, (hAB k x).1 hx⟩, fun ⟨x, hx⟩ => ⟨x, (hAB k x).2 hx⟩⟩
  have hp : q.Perm r := (List.perm_ext_iff_of_nodup h.nodup h'.nodup).2 hm
  refine List.Perm.eq_of_pairwise (le := fun i j => ∃ x y, A i = some x ∧ A j = some y ∧ (x.at_ < y.at_ ∨ (x.at_ = y.at_ ∧ (x.turn < y.turn ∨ (x.turn = y.turn ∧ i < j))))) ?_ h.sorted ?_ hp
  · rintro i j _ _ ⟨x, y, hx, hy, h1⟩ ⟨y', x', hy', hx', h2⟩
    rw [hx] at hx'; rw [hy] at hy'
    cases hx'; cases hy'
    omega
  · refine h'.sorted.imp_of_mem fun {i j} hi hj ⟨x, y, hx, hy, h1⟩ => ?_
    obtain ⟨x', hx', hle⟩ := (h'.mem i).1 hi
    obtain ⟨y', hy', hle'⟩ := (h'.mem j).1 hj
    rw [hx] at hx'; rw [hy] at hy'
    cases hx'; cases hy'
    exact ⟨x, y, ((hAB i x).2 ⟨hx, hle⟩).1, ((hAB j y).2 ⟨hy, hle'⟩).1, h1⟩

end Go.Proofs.Ytlkocnmgpalmnaa
