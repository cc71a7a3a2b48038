/- Where an alarm is to be in wheels of wheels; that a step loses none. Plain numbers. -/
import Derived.Test.YtlkocnmgpalmnaaEvS
namespace Go.EV
open Go

def placeN (now t : Nat) : Nat :=
  if t ≤ now then 256
  else if t - now < 64 then t % 64
  else if t - now < 4096 then 64 + t / 64 % 64
  else if t - now < 262144 then 128 + t / 4096 % 64
  else if t - now < 16777216 then 192 + t / 262144 % 64
  else 257

/-- An alarm for t is where it will be found. -/
def Good (now t l : Nat) : Prop :=
  (l = 256 ∧ t ≤ now) ∨ (l = t % 64 ∧ now < t ∧ t ≤ now + 64) ∨ (l = 64 + t / 64 % 64 ∧ now / 64 < t / 64 ∧ t / 64 ≤ now / 64 + 64) ∨
  (l = 128 + t / 4096 % 64 ∧ now / 4096 < t / 4096 ∧ t / 4096 ≤ now / 4096 + 64) ∨ (l = 192 + t / 262144 % 64 ∧ now / 262144 < t / 262144 ∧ t / 262144 ≤ now / 262144 + 64) ∨
  (l = 257 ∧ now / 16777216 < t / 16777216)

theorem place_good (now t : Nat) : Good now t (placeN now t) := by
  unfold placeN Good
  (repeat' split) <;> omega

theorem place_lt (now t : Nat) : placeN now t < 258 := by
  unfold placeN
  (repeat' split) <;> omega

theorem Good.lt {now t l : Nat} (h : Good now t l) : l < 258 := by unfold Good at h; omega

theorem Good.due {now t l : Nat} (h : Good now t l) : l = 256 ↔ t ≤ now := by unfold Good at h; omega

/-- The time at which an alarm's list is turned next. -/
def Turn (to t l : Nat) : Prop :=
  (l < 64 → to ≤ t) ∧ (64 ≤ l → l < 128 → to ≤ t / 64 * 64) ∧ (128 ≤ l → l < 192 → to ≤ t / 4096 * 4096) ∧ (192 ≤ l → l < 256 → to ≤ t / 262144 * 262144) ∧ (l = 257 → to ≤ t / 16777216 * 16777216)

/-- As 'Good', but that rows below R, and those too far off, may still want to be turned. -/
def Pend (R : Nat) (far : Prop) (to t l : Nat) : Prop :=
  Good to t l ∨ (0 < R ∧ l = t % 64 ∧ t = to) ∨ (1 < R ∧ l = 64 + t / 64 % 64 ∧ to % 64 = 0 ∧ t / 64 = to / 64) ∨ (2 < R ∧ l = 128 + t / 4096 % 64 ∧ to % 4096 = 0 ∧ t / 4096 = to / 4096) ∨
  (3 < R ∧ l = 192 + t / 262144 % 64 ∧ to % 262144 = 0 ∧ t / 262144 = to / 262144) ∨ (far ∧ l = 257 ∧ to % 16777216 = 0 ∧ t / 16777216 = to / 16777216)

theorem pend_start {now to t l : Nat} (hg : Good now t l) (hlt : now < to) (ht : Turn to t l) : Pend 4 True to t l := by
  obtain ⟨t0, t1, t2, t3, t4⟩ := ht
  rcases hg with ⟨h1, h2⟩ | ⟨h1, h2, h3⟩ | ⟨h1, h2, h3⟩ | ⟨h1, h2, h3⟩ | ⟨h1, h2, h3⟩ | ⟨h1, h2⟩
  · exact .inl (.inl ⟨h1, by omega⟩)
  · have := t0 (by omega)
    by_cases he : t = to
    · exact .inr (.inl ⟨by omega, h1, he⟩)
    · exact .inl (.inr (.inl ⟨h1, by omega, by omega⟩))
  · have := t1 (by omega) (by omega)
    by_cases he : t / 64 = to / 64
    · exact .inr (.inr (.inl ⟨by omega, h1, by omega, he⟩))
    · exact .inl (.inr (.inr (.inl ⟨h1, by omega, by omega⟩)))
  · have := t2 (by omega) (by omega)
    by_cases he : t / 4096 = to / 4096
    · exact .inr (.inr (.inr (.inl ⟨by omega, h1, by omega, he⟩)))
    · exact .inl (.inr (.inr (.inr (.inl ⟨h1, by omega, by omega⟩))))
  · have := t3 (by omega) (by omega)
    by_cases he : t / 262144 = to / 262144
    · exact .inr (.inr (.inr (.inr (.inl ⟨by omega, h1, by omega, he⟩))))
    · exact .inl (.inr (.inr (.inr (.inr (.inl ⟨h1, by omega, by omega⟩)))))
  · have := t4 h1
    by_cases he : t / 16777216 = to / 16777216
    · exact .inr (.inr (.inr (.inr (.inr ⟨trivial, h1, by omega, he⟩))))
    · exact .inl (.inr (.inr (.inr (.inr (.inr ⟨h1, by omega⟩)))))

theorem pend_far {to t l : Nat} (h : Pend 4 True to t l) (hl : l ≠ 257 ∨ to % 16777216 ≠ 0) : Pend 4 False to t l := by
  rcases h with h | h | h | h | h | ⟨_, h1, h2, _⟩
  · exact .inl h
  · exact .inr (.inl h)
  · exact .inr (.inr (.inl h))
  · exact .inr (.inr (.inr (.inl h)))
  · exact .inr (.inr (.inr (.inr (.inl h))))
  · rcases hl with hl | hl
    · exact absurd h1 hl
    · exact absurd h2 hl

theorem pend_good {R : Nat} {far : Prop} {to t l : Nat} (h : Good to t l) : Pend R far to t l := .inl h

theorem pend3 {to t l : Nat} (h : Pend 4 False to t l) (hl : l ≠ 192 + to / 262144 % 64 ∨ to % 262144 ≠ 0) : Pend 3 False to t l := by
  rcases h with h | h | h | h | ⟨_, h1, h2, h3⟩ | h
  · exact .inl h
  · exact .inr (.inl ⟨by omega, h.2⟩)
  · exact .inr (.inr (.inl ⟨by omega, h.2⟩))
  · exact .inr (.inr (.inr (.inl ⟨by omega, h.2⟩)))
  · rw [h3] at h1
    rcases hl with hl | hl
    · exact absurd h1 hl
    · exact absurd h2 hl
  · exact h.1.elim
theorem pend2 {to t l : Nat} (h : Pend 3 False to t l) (hl : l ≠ 128 + to / 4096 % 64 ∨ to % 4096 ≠ 0) : Pend 2 False to t l := by
  rcases h with h | h | h | ⟨_, h1, h2, h3⟩ | h | h
  · exact .inl h
  · exact .inr (.inl ⟨by omega, h.2⟩)
  · exact .inr (.inr (.inl ⟨by omega, h.2⟩))
  · rw [h3] at h1
    rcases hl with hl | hl
    · exact absurd h1 hl
    · exact absurd h2 hl
  · have := h.1; omega
  · exact h.1.elim
theorem pend1 {to t l : Nat} (h : Pend 2 False to t l) (hl : l ≠ 64 + to / 64 % 64 ∨ to % 64 ≠ 0) : Pend 1 False to t l := by
  rcases h with h | h | ⟨_, h1, h2, h3⟩ | h | h | h
  · exact .inl h
  · exact .inr (.inl ⟨by omega, h.2⟩)
  · rw [h3] at h1
    rcases hl with hl | hl
    · exact absurd h1 hl
    · exact absurd h2 hl
  · have := h.1; omega
  · have := h.1; omega
  · exact h.1.elim
theorem pend0 {to t l : Nat} (h : Pend 1 False to t l) (hl : l ≠ to % 64) : Pend 0 False to t l := by
  rcases h with h | ⟨_, h1, h2⟩ | h | h | h | h
  · exact .inl h
  · rw [h2] at h1; exact absurd h1 hl
  · have := h.1; omega
  · have := h.1; omega
  · have := h.1; omega
  · exact h.1.elim
theorem pend_end {to t l : Nat} (h : Pend 0 False to t l) : Good to t l := by
  rcases h with h | h | h | h | h | h
  · exact h
  · have := h.1; omega
  · have := h.1; omega
  · have := h.1; omega
  · have := h.1; omega
  · exact h.1.elim

/-- The next time at which something may turn: s is the least step of a row in which something is. -/
theorem next_turn {now t l s : Nat} (hg : Good now t l) (hs : s = 1 ∨ s = 64 ∨ s = 4096 ∨ s = 262144 ∨ s = 16777216)
    (hrow : (l < 64 → s ≤ 1) ∧ (l < 128 → s ≤ 64) ∧ (l < 192 → s ≤ 4096) ∧ (l < 256 → s ≤ 262144)) : Turn (now - now % s + s) t l := by
  obtain ⟨r0, r1, r2, r3⟩ := hrow
  rcases hg with ⟨h1, h2⟩ | ⟨h1, h2, h3⟩ | ⟨h1, h2, h3⟩ | ⟨h1, h2, h3⟩ | ⟨h1, h2, h3⟩ | ⟨h1, h2⟩
  · exact ⟨fun _ => by omega, fun _ _ => by omega, fun _ _ => by omega, fun _ _ => by omega, fun _ => by omega⟩
  · refine ⟨fun _ => ?_, fun _ _ => by omega, fun _ _ => by omega, fun _ _ => by omega, fun _ => by omega⟩
    have := r0 (by omega)
    have : s = 1 := by omega
    subst this; omega
  · refine ⟨fun _ => by omega, fun _ _ => ?_, fun _ _ => by omega, fun _ _ => by omega, fun _ => by omega⟩
    have := r1 (by omega)
    rcases hs with rfl | rfl | rfl | rfl | rfl <;> omega
  · refine ⟨fun _ => by omega, fun _ _ => by omega, fun _ _ => ?_, fun _ _ => by omega, fun _ => by omega⟩
    have := r2 (by omega)
    rcases hs with rfl | rfl | rfl | rfl | rfl <;> omega
  · refine ⟨fun _ => by omega, fun _ _ => by omega, fun _ _ => by omega, fun _ _ => ?_, fun _ => by omega⟩
    have := r3 (by omega)
    rcases hs with rfl | rfl | rfl | rfl | rfl <;> omega
  · refine ⟨fun _ => by omega, fun _ _ => by omega, fun _ _ => by omega, fun _ _ => by omega, fun _ => ?_⟩
    rcases hs with rfl | rfl | rfl | rfl | rfl <;> omega

theorem far_turn {t l least : Nat} (hl : l = 256 ∨ l = 257) (hle : l = 257 → least ≤ t) : Turn (least - least % 16777216) t l := by
  refine ⟨fun _ => by omega, fun _ _ => by omega, fun _ _ => by omega, fun _ _ => by omega, fun h => ?_⟩
  have := hle h
  omega

theorem Turn.le {a b t l : Nat} (h : Turn b t l) (hab : a ≤ b) : Turn a t l :=
  ⟨fun x => Nat.le_trans hab (h.1 x), fun x y => Nat.le_trans hab (h.2.1 x y), fun x y => Nat.le_trans hab (h.2.2.1 x y), fun x y => Nat.le_trans hab (h.2.2.2.1 x y), fun x => Nat.le_trans hab (h.2.2.2.2 x)⟩

end Go.EV
