/- The wheel's order of what is due: by hour, by turn, by number. -/
import Derived.Test.YtlkocnmgpalmnaaWhE
import Derived.Test.YtlkocnmgpalmnaaEvO
namespace Go.Proofs.Ytlkocnmgpalmnaa
open Go Go.EV

def cmpN (a b : Int) : Int := if a < b then -1 else if b < a then 1 else 0
def or3 (a b c : Int) : Int := if a ≠ 0 then a else if b ≠ 0 then b else c

theorem nanU_spec (n : Int) {H : Hp} : CallV Try.prog 38 #[.int .u64 n] H fun v H' => v = .bool false ∧ H' = H := by
  apply nanU.calls
  unfold nanU
  simp

theorem nanI_spec (n : Int) {H : Hp} : CallV Try.prog 39 #[.int .i64 n] H fun v H' => v = .bool false ∧ H' = H := by
  apply nanI.calls
  unfold nanI
  simp

theorem cmpU_spec (a b : Int) {H : Hp} : CallV Try.prog 30 #[.int .u64 a, .int .u64 b] H fun v H' => v = .int .i64 (cmpN a b) ∧ H' = H := by
  apply cmpU.calls
  unfold cmpU
  refine (nanU_spec a).mono ?_
  rintro v H1 ⟨rfl, rfl⟩
  refine ⟨_, rfl, (nanU_spec b).mono ?_⟩
  rintro v H1 ⟨rfl, rfl⟩
  refine ⟨_, rfl, fun h => (by cases h), fun _ => ⟨fun h => (by cases h), fun _ => ⟨fun h => ?_, fun h => ⟨fun h2 => ?_, fun h2 => ?_⟩⟩⟩⟩
  · have := of_decide_eq_true h
    unfold cmpN; rw [if_pos this]; exact ⟨rfl, rfl⟩
  · have := of_decide_eq_false h; have := of_decide_eq_true h2
    unfold cmpN; rw [if_neg (by omega), if_pos (by omega)]; exact ⟨rfl, rfl⟩
  · have := of_decide_eq_false h; have := of_decide_eq_false h2
    unfold cmpN; rw [if_neg (by omega), if_neg (by omega)]; exact ⟨rfl, rfl⟩

theorem cmpI_spec (a b : Int) {H : Hp} : CallV Try.prog 31 #[.int .i64 a, .int .i64 b] H fun v H' => v = .int .i64 (cmpN a b) ∧ H' = H := by
  apply cmpI.calls
  unfold cmpI
  refine (nanI_spec a).mono ?_
  rintro v H1 ⟨rfl, rfl⟩
  refine ⟨_, rfl, (nanI_spec b).mono ?_⟩
  rintro v H1 ⟨rfl, rfl⟩
  refine ⟨_, rfl, fun h => (by cases h), fun _ => ⟨fun h => (by cases h), fun _ => ⟨fun h => ?_, fun h => ⟨fun h2 => ?_, fun h2 => ?_⟩⟩⟩⟩
  · have := of_decide_eq_true h
    unfold cmpN; rw [if_pos this]; exact ⟨rfl, rfl⟩
  · have := of_decide_eq_false h; have := of_decide_eq_true h2
    unfold cmpN; rw [if_neg (by omega), if_pos (by omega)]; exact ⟨rfl, rfl⟩
  · have := of_decide_eq_false h; have := of_decide_eq_false h2
    unfold cmpN; rw [if_neg (by omega), if_neg (by omega)]; exact ⟨rfl, rfl⟩

theorem cmpOr_spec {H : Hp} {r : Nat} {a b c : Int} {F : List Asr} (hS : Sat H (sep (blk r [.int .i64 a, .int .i64 b, .int .i64 c] :: F))) :
    CallV Try.prog 29 #[.slice (some ⟨r, 0, none⟩) 3 3] H fun v H' => v = .int .i64 (or3 a b c) ∧ H' = H := by
  have rd := hS.cell 0 rfl
  apply cmpOr.calls
  unfold cmpOr
  refine ⟨fun vs H' => H' = H ∧ match vs with
    | [.int _ i] => i = 0 ∨ (i = 1 ∧ a = 0) ∨ (i = 2 ∧ a = 0 ∧ b = 0) ∨ (i = 3 ∧ a = 0 ∧ b = 0 ∧ c = 0)
    | _ => False, fun vs _ => match vs with
    | [.int _ i] => (3 - i).toNat
    | _ => 0, ⟨rfl, .inl rfl⟩, ?_⟩
  rintro i H1 ⟨rfl, hi⟩
  simp only [optK_some, add_mk, Nat.zero_add]
  rcases hi with rfl | ⟨rfl, rfl⟩ | ⟨rfl, rfl, rfl⟩ | ⟨rfl, rfl, rfl, rfl⟩
  · refine ⟨fun _ => ⟨by omega, by omega, _, rd 0, fun h => ?_, fun h => ?_⟩, fun h => by simp at h⟩
    · have : a ≠ 0 := by simpa using h
      exact ⟨by unfold or3; rw [if_pos this], by trivial⟩
    · have : a = 0 := by simpa using h
      exact ⟨⟨by trivial, .inr (.inl ⟨by decide, this⟩)⟩, by decide⟩
  · refine ⟨fun _ => ⟨by omega, by omega, _, rd 1, fun h => ?_, fun h => ?_⟩, fun h => by simp at h⟩
    · have : b ≠ 0 := by simpa using h
      exact ⟨by unfold or3; rw [if_neg (by simp), if_pos this], by trivial⟩
    · have : b = 0 := by simpa using h
      exact ⟨⟨by trivial, .inr (.inr (.inl ⟨by decide, rfl, this⟩))⟩, by decide⟩
  · refine ⟨fun _ => ⟨by omega, by omega, _, rd 2, fun h => ?_, fun h => ?_⟩, fun h => by simp at h⟩
    · have : c ≠ 0 := by simpa using h
      exact ⟨by unfold or3; rw [if_neg (by simp), if_neg (by simp)], by trivial⟩
    · have : c = 0 := by simpa using h
      exact ⟨⟨by trivial, .inr (.inr (.inr ⟨by decide, rfl, rfl, this⟩))⟩, by decide⟩
  · refine ⟨fun h => by simp at h, fun _ => ⟨?_, by trivial⟩⟩
    unfold or3
    rw [if_neg (by simp), if_neg (by simp)]

/-- Which of two is due first. -/
def dueC (M : Nat → Mk) (x y : Nat) : Int := or3 (cmpN (M x).at_ (M y).at_) (cmpN (M x).turn (M y).turn) (cmpN x y)

theorem cmpRd {H H' : Hp} {p n now : Nat} {M : Nat → Mk} {c : Nat → Int} {X : WhX} (rd : WhRd H p n now M c X) (h : ∀ (b : Nat) (o : Obj), H[b]? = some o → H'[b]? = some o) : WhRd H' p n now M c X :=
  ⟨old_cell h rd.p0, old_cell h rd.p1, old_cell h rd.p2, old_cell h rd.c0, old_cell h rd.c1, old_cell h rd.c2, old_cell h rd.c3, fun k hk => old_cell h (rd.m0 k hk), fun k hk => old_cell h (rd.m1 k hk)⟩

/-- A world in which all of H stands. -/
def Has (H : Hp) (H' : Hp) : Prop := ∃ G, Sat H' (sep (old (hp H) :: G))

theorem Has.all {H H' : Hp} (h : Has H H') : ∀ (b : Nat) (o : Obj), H[b]? = some o → H'[b]? = some o := by
  obtain ⟨G, h⟩ := h
  exact old_heap h 0 rfl

theorem toCmp_spec {H : Hp} {p n now : Nat} {M : Nat → Mk} {w : Nat → Option Nat} {r : Nat} {F : List Asr} (x y : Nat) (hx : x < n) (hy : y < n)
    (hS : Sat H (sep (blk r [.pointer (some ⟨p, 0, none⟩)] :: wheelI p n now M w :: F))) :
    CallV Try.prog 28 #[.int .i64 x, .int .i64 y, .pointer (some ⟨r, 0, none⟩)] H fun v H' =>
      v = .int .i64 (dueC M x y) ∧ Grows H H' := by
  obtain ⟨X, hX, hS1⟩ := (hS.perm (List.Perm.swap _ _ _)).open
  have rd := whRd hS1
  have rp : cellH H ⟨r, 0, none⟩ = some (.pointer (some ⟨p, 0, none⟩)) := hS.cell 0 rfl 0
  have hS0 := sat_old H
  have c0 : Has H H := ⟨_, hS0⟩
  have C : ∀ {H' : Hp} {b : Nat} {cs : List Value}, Sat H' (sep [blk b cs, old (hp H)]) → Has H H' := fun h => ⟨_, h.perm (List.Perm.swap _ _ _)⟩
  have C2 : ∀ {H' : Hp} {b b' : Nat} {cs cs' : List Value}, Sat H' (sep [blk b cs, blk b' cs', old (hp H)]) → Has H H' := fun h => ⟨_, h.perm (List.perm_middle (l₁ := [_, _]))⟩
  have key : ∀ {H' : Hp}, Has H H' → WhRd H' p n now M (cnts n w) X ∧ cellH H' ⟨r, 0, none⟩ = some (.pointer (some ⟨p, 0, none⟩)) := fun h => ⟨cmpRd rd h.all, old_cell h.all rp⟩
  apply wToCmp.calls
  unfold wToCmp
  refine ⟨fun vs H' => match vs with
    | [.pointer (some q42), .pointer (some q41)] => ∃ b42 b41 : Nat, q42 = ⟨b42, 0, none⟩ ∧ q41 = ⟨b41, 0, none⟩ ∧ Sat H' (sep [blk b41 (encM (M x)), blk b42 (encM (M y)), old (hp H)])
    | _ => False, ?_, ?_⟩
  · refine ⟨Has H, c0, c0, _, fun H' h => (key h).2, ?_⟩
    simp only [optK_some, add_mk, Nat.zero_add, Int.toNat_natCast]
    refine ⟨c0, _, _, _, fun H' h => (key h).1.p1, ?_⟩
    simp only [optK_some, add_mk, Nat.zero_add]
    refine ⟨by omega, by omega, c0, _, fun H' h => (key h).1.m0 x hx, _, fun H' h => (key h).1.m1 x hx, c0, _, fun H' h => (key h).2, ?_⟩
    simp only [optK_some, add_mk, Nat.zero_add]
    refine ⟨c0, _, _, _, fun H' h => (key h).1.p1, ?_⟩
    simp only [optK_some, add_mk, Nat.zero_add]
    refine ⟨by omega, by omega, c0, _, fun H' h => (key h).1.m0 y hy, _, fun H' h => (key h).1.m1 y hy, ?_, ?_, trivial⟩
    · refine nw_at hS0 fun b1 H1 h1 => ⟨C h1, nw_at h1 fun b2 H2 h2 => ⟨C2 h2, ?_, trivial⟩, trivial⟩
      refine wr h2 1 rfl (by simp) fun H3 h3 => ⟨C2 h3, ?_, trivial⟩
      refine wr h3 0 rfl (by simp) fun H4 h4 => ⟨b2, b1, rfl, rfl, h4.perm (List.Perm.swap _ _ _)⟩
    · refine nw_at hS0 fun b1 H1 h1 => ⟨C h1, nw_at h1 fun b2 H2 h2 => ⟨C2 h2, ?_, trivial⟩, trivial⟩
      refine wr h2 0 rfl (by simp) fun H3 h3 => ⟨C2 h3, ?_, trivial⟩
      refine wr h3 1 rfl (by simp) fun H4 h4 => ⟨b1, b2, rfl, rfl, h4⟩
  · rintro q42 q41 H1 ⟨b42, b41, rfl, rfl, h1⟩
    have r1 := h1.cell 0 rfl
    have r2 := h1.cell 1 rfl
    simp only [add_mk, Nat.zero_add]
    refine ⟨fun H' => H' = H1, rfl, _, r1 0, _, r2 0, (cmpU_spec _ _).mono ?_⟩
    rintro v H2 ⟨rfl, rfl⟩
    refine ⟨_, rfl, rfl, rfl, _, fun H' h => by rw [h]; exact r1 1, rfl, _, fun H' h => by rw [h]; exact r2 1, (cmpU_spec _ _).mono ?_⟩
    rintro v H2 ⟨rfl, rfl⟩
    refine ⟨_, rfl, (cmpI_spec _ _).mono ?_⟩
    rintro v H2 ⟨rfl, rfl⟩
    refine ⟨_, rfl, nw_at h1 fun b H3 h3 => (cmpOr_spec h3).mono ?_⟩
    rintro v H4 ⟨rfl, rfl⟩
    exact ⟨_, rfl, rfl, grows_of (old_heap h3 3 rfl)⟩

end Go.Proofs.Ytlkocnmgpalmnaa
