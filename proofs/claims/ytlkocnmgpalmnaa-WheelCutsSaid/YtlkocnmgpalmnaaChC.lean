/- The links of numbers, with the order of each list kept to itself: where each number is. -/
import Derived.Test.YtlkocnmgpalmnaaChB
namespace Go.Proofs.Ytlkocnmgpalmnaa
open Go Go.EV

/-- How many numbers are where P says. -/
def cntP (n : Nat) (w : Nat → Option Nat) (P : Option Nat → Bool) : Nat := ((List.range n).filter fun k => P (w k)).length

theorem cntP_succ (n : Nat) (w : Nat → Option Nat) (P : Option Nat → Bool) : cntP (n + 1) w P = cntP n w P + if P (w n) = true then 1 else 0 := by
  unfold cntP
  rw [List.range_succ, List.filter_append, List.length_append]
  congr 1
  by_cases h : P (w n) = true <;> simp [h]

theorem cntP_le (n : Nat) (w : Nat → Option Nat) (P : Option Nat → Bool) : cntP n w P ≤ n := by
  unfold cntP
  have := List.length_filter_le (fun k => P (w k)) (List.range n)
  simpa using this

theorem cntP_congr {n : Nat} {w w' : Nat → Option Nat} {P P' : Option Nat → Bool} (h : ∀ k, k < n → P (w k) = P' (w' k)) : cntP n w P = cntP n w' P' := by
  unfold cntP
  congr 1
  exact List.filter_congr fun k hk => h k (by simpa using hk)

theorem cntP_upd (P : Option Nat → Bool) (k : Nat) (x : Option Nat) : ∀ (n : Nat) (w : Nat → Option Nat), k < n → cntP n (upd w k x) P + (if P (w k) = true then 1 else 0) = cntP n w P + (if P x = true then 1 else 0)
  | 0, _, h => by omega
  | n + 1, w, h => by
    rw [cntP_succ, cntP_succ]
    by_cases hk : k = n
    · subst hk
      rw [upd_self, cntP_congr (w := upd w k x) (w' := w) (P' := P) fun j hj => by rw [upd_ne _ _ (by omega)]]
      omega
    · have := cntP_upd P k x n w (by omega)
      rw [upd_ne _ _ (Ne.symm hk)]
      omega

def isAt (l : Nat) : Option Nat → Bool
  | some l' => Nat.beq l' l
  | none => false

theorem isAt_iff {l : Nat} {x : Option Nat} : isAt l x = true ↔ x = some l := by
  cases x with
  | none => simp [isAt]
  | some l' => simp [isAt]

def chainW (p n m : Nat) (w : Nat → Option Nat) : Asr := fun h => ∃ Q, chain p n m Q w h

/-- The numbers on a list, in some order. -/
structure Lists (n m : Nat) (w : Nat → Option Nat) (l : Nat) (q : List Nat) : Prop where
  nodup : q.Nodup
  mem : ∀ k, k ∈ q ↔ w k = some l
  small : ∀ k, k ∈ q → k < n

theorem Lists.length {n m : Nat} {w : Nat → Option Nat} {l : Nat} {q : List Nat} (h : Lists n m w l q) : q.length = cntP n w (isAt l) := by
  unfold cntP
  have hp : q.Perm ((List.range n).filter fun k => isAt l (w k)) := by
    rw [List.perm_ext_iff_of_nodup h.nodup (List.nodup_range.filter _)]
    intro k
    rw [List.mem_filter, List.mem_range, isAt_iff, h.mem]
    exact ⟨fun hw => ⟨h.small k ((h.mem k).2 hw), hw⟩, fun hw => hw.2⟩
  exact hp.length_eq

/-- What is known of where numbers are. -/
structure Wh (n m : Nat) (w : Nat → Option Nat) : Prop where
  small : n ≤ 4096 ∧ m ≤ 4096
  on : ∀ k l, w k = some l → k < n ∧ l < m

theorem Sat.unpack {H : Hp} {α : Type} {A : α → Asr} {F : List Asr} (h : Sat H (sep ((fun x => ∃ q, A q x) :: F))) : ∃ q, Sat H (sep (A q :: F)) := by
  obtain ⟨y, ⟨h1, h2, ap, l1, l2, ⟨q, hq⟩, hF⟩, hle⟩ := h
  exact ⟨q, y, ⟨h1, h2, ap, l1, l2, hq, hF⟩, hle⟩

theorem Sat.pack {H : Hp} {α : Type} {A : α → Asr} {F : List Asr} (q : α) (h : Sat H (sep (A q :: F))) : Sat H (sep ((fun x => ∃ q, A q x) :: F)) := by
  obtain ⟨y, ⟨h1, h2, ap, l1, l2, hq, hF⟩, hle⟩ := h
  exact ⟨y, ⟨h1, h2, ap, l1, l2, ⟨q, hq⟩, hF⟩, hle⟩

theorem chain_inv {H : Hp} {p n m : Nat} {Q : Nat → List Nat} {w : Nat → Option Nat} {F : List Asr} (h : Sat H (sep (chain p n m Q w :: F))) : ∃ L E, ChInv n m Q w L E := by
  obtain ⟨x, hx, _⟩ := h.open
  exact ⟨_, _, hx⟩

theorem lists_of {n m : Nat} {Q : Nat → List Nat} {w : Nat → Option Nat} {L : Nat → Lnk} {E : Nat → LEnd} (h : ChInv n m Q w L E) {l : Nat} (hl : l < m) : Lists n m w l (Q l) :=
  ⟨h.nodup l hl, fun k => ⟨fun hk => (h.mem l k hl hk).2, fun hw => (h.on k l hw).2.2⟩, fun k hk => (h.mem l k hl hk).1⟩

theorem chainW_wh {H : Hp} {p n m : Nat} {w : Nat → Option Nat} {F : List Asr} (h : Sat H (sep (chainW p n m w :: F))) : Wh n m w := by
  obtain ⟨Q, h⟩ := Sat.unpack (A := fun Q => chain p n m Q w) h
  obtain ⟨L, E, hx⟩ := chain_inv h
  exact ⟨hx.small, fun k l hw => ⟨(hx.on k l hw).1, (hx.on k l hw).2.1⟩⟩

theorem OnW {H : Hp} {p n m : Nat} {w : Nat → Option Nat} {F : List Asr} (k : Int) (hS : Sat H (sep (chainW p n m w :: F))) :
    CallV Try.prog 20 #[(.pointer (some ⟨p, 0, none⟩)), (.int .i64 k)] H fun v H' =>
      v = .tuple #[.int .i64 (match whereV n w k with | some l => (l : Int) | none => 0), .bool (whereV n w k).isSome] ∧ H' = H := by
  obtain ⟨Q, h⟩ := Sat.unpack (A := fun Q => chain p n m Q w) hS
  exact On_spec k h

theorem LenW {H : Hp} {p n m : Nat} {w : Nat → Option Nat} {F : List Asr} (l : Nat) (hl : l < m) (hS : Sat H (sep (chainW p n m w :: F))) :
    CallV Try.prog 22 #[(.pointer (some ⟨p, 0, none⟩)), (.int .i64 l)] H fun v H' => v = .int .i64 (cntP n w (isAt l) : Nat) ∧ H' = H := by
  obtain ⟨Q, h⟩ := Sat.unpack (A := fun Q => chain p n m Q w) hS
  obtain ⟨L, E, hx⟩ := chain_inv h
  refine (Len_spec (l : Int) h).mono fun v H' hv => ⟨?_, hv.2⟩
  rw [hv.1, if_pos ⟨by omega, by omega⟩, Int.toNat_natCast, (lists_of hx hl).length]

theorem PushW {H : Hp} {p n m : Nat} {w : Nat → Option Nat} {F : List Asr} (l k : Nat) (hl : l < m) (hk : k < n) (hw : w k = none) (hS : Sat H (sep (chainW p n m w :: F))) :
    CallV Try.prog 33 #[(.pointer (some ⟨p, 0, none⟩)), (.int .i64 l), (.int .i64 k)] H fun v H' =>
      v = .bool true ∧ Sat H' (sep (chainW p n m (upd w k (some l)) :: F)) := by
  obtain ⟨Q, h⟩ := Sat.unpack (A := fun Q => chain p n m Q w) hS
  exact (Push_spec l k hl hk hw h).mono fun v H' hv => ⟨hv.1, Sat.pack _ hv.2⟩

theorem PullW {H : Hp} {p n m : Nat} {w : Nat → Option Nat} {F : List Asr} (l k : Nat) (hw : w k = some l) (hS : Sat H (sep (chainW p n m w :: F))) :
    CallV Try.prog 26 #[(.pointer (some ⟨p, 0, none⟩)), (.int .i64 k)] H fun v H' =>
      v = .bool true ∧ Sat H' (sep (chainW p n m (upd w k none) :: F)) := by
  obtain ⟨Q, h⟩ := Sat.unpack (A := fun Q => chain p n m Q w) hS
  exact (Pull_spec l k hw h).mono fun v H' hv => ⟨hv.1, Sat.pack _ hv.2⟩

theorem AllW {H : Hp} {p n m : Nat} {w : Nat → Option Nat} {F : List Asr} (l : Nat) (hl : l < m) (hS : Sat H (sep (chainW p n m w :: F))) :
    CallV Try.prog 25 #[(.pointer (some ⟨p, 0, none⟩)), (.int .i64 l)] H fun v H' =>
      ∃ q a c, Lists n m w l q ∧ v = .slice a q.length c ∧ Sat H' (sep (own a q.length c 1 (ints q) :: chainW p n m w :: F)) := by
  obtain ⟨Q, h⟩ := Sat.unpack (A := fun Q => chain p n m Q w) hS
  obtain ⟨L, E, hx⟩ := chain_inv h
  refine (All_spec l hl h).mono fun v H' ⟨a, c, hv, hs⟩ => ⟨Q l, a, c, lists_of hx hl, hv, ?_⟩
  exact ((Sat.pack (A := fun Q => chain p n m Q w) Q (hs.perm (List.Perm.swap _ _ _))).perm (List.Perm.swap _ _ _))

theorem NewW {H : Hp} {F : List Asr} (n m : Nat) (hn : n ≤ 4096) (hm : m ≤ 4096) (hS : Sat H (sep F)) :
    CallV Try.prog 19 #[(.int .i64 n), (.int .i64 m)] H fun v H' =>
      ∃ p, v = .pointer (some ⟨p, 0, none⟩) ∧ Sat H' (sep (chainW p n m (fun _ => none) :: F)) :=
  (New_spec n m hn hm hS).mono fun _ _ ⟨p, hv, hs⟩ => ⟨p, hv, Sat.pack _ hs⟩

end Go.Proofs.Ytlkocnmgpalmnaa
