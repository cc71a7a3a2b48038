/- Memory that only grows: all that was there stands. -/
import Derived.Test.YtlkocnmgpalmnaaEvM
namespace Go.EV
open Go

def hp (H : Hp) : Ph := fun b => H[b]?

def Grows (H H' : Hp) : Prop := ∃ os : Array Obj, H' = H ++ os

theorem sat_old (H : Hp) : Sat H (sep [old (hp H)]) :=
  ⟨hp H, ⟨hp H, fun _ => none, fun _ => .inr rfl, Ph.le_refl _, fun _ _ e => (by cases e), Ph.le_refl _, trivial⟩, fun _ _ e => e⟩

theorem old_heap {H H' : Hp} {l : List Asr} (h : Sat H' (sep l)) (i : Nat) (hi : l[i]? = some (old (hp H))) : ∀ (b : Nat) (o : Obj), H[b]? = some o → H'[b]? = some o := by
  obtain ⟨x, hx, hl⟩ := h.pull i
  obtain ⟨h1, h2, _, l1, _, a, _⟩ := hx
  rw [getD_of_get? hi] at a
  exact fun b o e => hl b o (l1 b o (a b o e))

theorem old_cell {H H' : Hp} (hh : ∀ (b : Nat) (o : Obj), H[b]? = some o → H'[b]? = some o) {a : Addr} {v : Value} (hc : cellH H a = some v) : cellH H' a = some v := by
  unfold cellH World.cell? wof at hc ⊢
  simp only at hc ⊢
  cases hb : H[a.block]? with
  | none => rw [hb] at hc; cases hc
  | some o => rw [hb] at hc; rw [hh _ _ hb]; exact hc

/-- A slice reads as these numbers of 64 bits without a sign. -/
def RdU (H : Hp) (a : Option Addr) (xs : List Nat) : Prop := ∀ j k, xs[j]? = some k → ∃ b, a = some b ∧ cellH H (b.add j) = some (.int .u64 (k : Nat))

theorem RdU.old {H H' : Hp} {a : Option Addr} {xs : List Nat} (h : RdU H a xs) (hh : ∀ (b : Nat) (o : Obj), H[b]? = some o → H'[b]? = some o) : RdU H' a xs := fun j k hj =>
  let ⟨b, e, hc⟩ := h j k hj
  ⟨b, e, old_cell hh hc⟩

theorem grows_of {H H' : Hp} (hh : ∀ (b : Nat) (o : Obj), H[b]? = some o → H'[b]? = some o) : Grows H H' := by
  have hsz : H.size ≤ H'.size := by
    rcases Nat.eq_zero_or_pos H.size with h0 | h0
    · omega
    · have := hh (H.size - 1) _ (Array.getElem?_eq_getElem (by omega))
      have := (Array.getElem?_eq_some_iff.1 this).1
      omega
  refine ⟨H'.extract H.size H'.size, ?_⟩
  apply Array.ext_getElem?
  intro i
  rw [Array.getElem?_append]
  split
  next hi =>
    have := hh i _ (Array.getElem?_eq_getElem hi)
    rw [this, Array.getElem?_eq_getElem hi]
  next hi =>
    rw [Array.getElem?_extract]
    split
    · congr 1; omega
    · exact Array.getElem?_eq_none (by omega)

theorem Grows.heap {H H' : Hp} (h : Grows H H') : ∀ (b : Nat) (o : Obj), H[b]? = some o → H'[b]? = some o := by
  obtain ⟨os, rfl⟩ := h
  intro b o hb
  rw [Array.getElem?_append, if_pos (Array.getElem?_eq_some_iff.1 hb).1]
  exact hb

theorem sat_grows {H H' : Hp} {A : Asr} (h : Sat H A) (hg : Grows H H') : Sat H' A := by
  obtain ⟨x, a, hl⟩ := h
  exact ⟨x, a, fun b o e => Grows.heap hg b o (hl b o e)⟩

end Go.EV
