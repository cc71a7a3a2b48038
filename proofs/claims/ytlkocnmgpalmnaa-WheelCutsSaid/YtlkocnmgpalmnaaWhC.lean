/- The wheel: what lays an alarm, what looks one up, what lays a list anew. -/
import Derived.Test.YtlkocnmgpalmnaaWhB
namespace Go.Proofs.Ytlkocnmgpalmnaa
open Go Go.EV

theorem guard_on {b w : Bool} {m : (Bool → Hp → Prop) → Hp → Prop} {K : Bool → Hp → Prop} {H : Hp} (h : b = w) (k : m K H) : guardM b w m K H := by
  unfold guardM; rw [if_pos h]; exact k
theorem guard_off {b w : Bool} {m : (Bool → Hp → Prop) → Hp → Prop} {K : Bool → Hp → Prop} {H : Hp} (h : b ≠ w) (k : K (!w) H) : guardM b w m K H := by
  unfold guardM; rw [if_neg h]; exact k

theorem whereV_nat {n : Nat} {w : Nat → Option Nat} {k : Nat} (hk : k < n) : whereV n w (k : Int) = w k := by
  unfold whereV; rw [if_pos ⟨by omega, by omega⟩, Int.toNat_natCast]

theorem whereV_some {n : Nat} {w : Nat → Option Nat} {k : Int} (h : (whereV n w k).isSome = true) : ∃ j : Nat, k = j ∧ j < n := by
  unfold whereV at h
  split at h
  next hk => exact ⟨k.toNat, by omega, by omega⟩
  next => cases h

theorem Small.upd {now : Nat} {M : Nat → Mk} (h : Small now M) (k t u : Nat) (ht : t < 18446744073709551616) (hu : u < 18446744073709551616) : Small now (upd M k ⟨t, u⟩) := by
  refine ⟨h.now, fun j => ?_, fun j => ?_⟩ <;> unfold EV.upd <;> split
  · exact ht
  · exact h.at_ j
  · exact hu
  · exact h.turn j

theorem Set_spec {H : Hp} {p n now : Nat} {M : Nat → Mk} {w : Nat → Option Nat} {F : List Asr} (k : Int) (t u : Nat) (ht : t < 18446744073709551616) (hu : u < 18446744073709551616) (hS : Sat H (sep (wheelI p n now M w :: F))) :
    CallV Try.prog 11 #[(.pointer (some ⟨p, 0, none⟩)), (.int .i64 k), (.int .u64 t), (.int .u64 u)] H fun v H' =>
      (v = .bool false ∧ H' = H ∧ ¬ (0 ≤ k ∧ k < n ∧ w k.toNat = none)) ∨
      (v = .bool true ∧ 0 ≤ k ∧ k < n ∧ w k.toNat = none ∧ Sat H' (sep (wheelI p n now (upd M k.toNat ⟨t, u⟩) (upd w k.toNat (some (placeN now t))) :: F))) := by
  have hS0 := hS
  obtain ⟨x, hx, hS⟩ := hS.open
  have rd := whRd hS
  apply wSet.calls
  unfold wSet
  simp only [optK_some, add_mk, Nat.zero_add]
  by_cases hneg : k < 0
  · exact guard_off (by simpa using hneg) ⟨fun _ => .inl ⟨by trivial, by trivial, by omega⟩, fun h => (by simp at h)⟩
  refine guard_on (by simpa using hneg) ⟨_, _, _, rd.p1, ?_⟩
  by_cases hbig : k ≥ n
  · refine ⟨fun _ => .inl ⟨by trivial, by trivial, by omega⟩, fun h => ?_⟩
    have : ¬ k ≥ n := by simpa using h
    omega
  refine ⟨fun h => ?_, fun _ => ?_⟩
  · have : k ≥ n := by simpa using h
    omega
  obtain ⟨j, rfl⟩ := Int.eq_ofNat_of_zero_le (by omega : 0 ≤ k)
  have hj : j < n := by omega
  refine ⟨_, rd.p0, (OnW (j : Int) (whLinks hS)).mono ?_⟩
  rintro v H1 ⟨rfl, rfl⟩
  refine ⟨_, _, rfl, fun h => ?_, fun h => ?_⟩
  · rw [whereV_nat hj] at h
    exact .inl ⟨by trivial, by trivial, fun hc => by rw [Int.toNat_natCast] at hc; rw [hc.2.2] at h; cases h⟩
  · rw [whereV_nat hj] at h
    have hw : w j = none := by
      cases hwj : w j with
      | none => rfl
      | some l => rw [hwj] at h; cases h
    refine ⟨_, _, _, rd.p1, ?_⟩
    simp only [optK_some, add_mk, Nat.zero_add, Int.toNat_natCast]
    refine ⟨by omega, by omega, ?_⟩
    refine wrR0 encM_len hS 1 rfl j ⟨t, u⟩ hj (by simp) rfl fun H2 hS2 => ?_
    have hS3 : Sat H2 (sep (wheelI p n now (upd M j ⟨t, u⟩) w :: F)) := Sat.close (l := whParts p n now (upd M j ⟨t, u⟩) w (cnts n w)) x (hx.upd j t u ht hu) hS2
    refine (put_spec j hj hw hS3).mono ?_
    rintro v H4 ⟨rfl, hS4⟩
    rw [upd_self] at hS4
    exact ⟨rfl, .inr ⟨by trivial, by omega, by omega, hw, hS4⟩⟩

def atV (n : Nat) (M : Nat → Mk) (w : Nat → Option Nat) (k : Int) : Value :=
  if (whereV n w k).isSome then .tuple #[.int .u64 (M k.toNat).at_, .int .u64 (M k.toNat).turn, .bool true] else .tuple #[.int .u64 0, .int .u64 0, .bool false]

theorem At_spec {H : Hp} {p n now : Nat} {M : Nat → Mk} {w : Nat → Option Nat} {F : List Asr} (k : Int) (hS : Sat H (sep (wheelI p n now M w :: F))) :
    CallV Try.prog 16 #[(.pointer (some ⟨p, 0, none⟩)), (.int .i64 k)] H fun v H' => v = atV n M w k ∧ H' = H := by
  obtain ⟨x, hx, hS⟩ := hS.open
  have rd := whRd hS
  apply wAt.calls
  unfold wAt atV
  simp only [optK_some, add_mk, Nat.zero_add]
  refine ⟨_, rd.p0, (OnW k (whLinks hS)).mono ?_⟩
  rintro v H1 ⟨rfl, rfl⟩
  refine ⟨_, _, rfl, fun h => ?_, fun h => ?_⟩
  · have hn : (whereV n w k).isSome = false := by simpa using h
    rw [hn]
    exact ⟨by trivial, by trivial⟩
  · have hs : (whereV n w k).isSome = true := by simpa using h
    rw [hs]
    obtain ⟨j, rfl, hj⟩ := whereV_some hs
    refine ⟨_, _, _, rd.p1, ?_⟩
    simp only [optK_some, add_mk, Nat.zero_add, Int.toNat_natCast]
    refine ⟨by omega, by omega, _, rd.m0 j hj, _, _, _, rd.p1, ?_⟩
    simp only [optK_some, add_mk, Nat.zero_add]
    exact ⟨by omega, by omega, _, rd.m1 j hj, by trivial, by trivial⟩

/-- What is on a list is laid where it is to be. -/
def turned (now : Nat) (M : Nat → Mk) (w : Nat → Option Nat) (q : List Nat) : Nat → Option Nat :=
  fun k => if k ∈ q then some (placeN now (M k).at_) else w k

theorem turned_step {now : Nat} {M : Nat → Mk} {w : Nat → Option Nat} {q : List Nat} {i k : Nat} (hk : q[i]? = some k) :
    upd (upd (turned now M w (q.take i)) k none) k (some (placeN now (M k).at_)) = turned now M w (q.take (i + 1)) := by
  funext j
  have ht : q.take (i + 1) = q.take i ++ [k] := by rw [List.take_add_one, hk]; rfl
  unfold turned
  rw [ht]
  by_cases hj : j = k
  · subst hj
    rw [upd_self, if_pos (by simp)]
  · rw [upd_ne _ _ hj, upd_ne _ _ hj]
    simp [hj]

/-- All on a list is laid anew. -/
theorem again_spec {H : Hp} {p n now : Nat} {M : Nat → Mk} {w : Nat → Option Nat} {F : List Asr} (l : Nat) (hl : l < 258) (hS : Sat H (sep (wheelI p n now M w :: F))) :
    CallV Try.prog 34 #[(.pointer (some ⟨p, 0, none⟩)), (.int .i64 l)] H fun v H' =>
      v = .tuple #[] ∧ Sat H' (sep (wheelI p n now M (fun k => if w k = some l then some (placeN now (M k).at_) else w k) :: F)) := by
  obtain ⟨x, hx, hS⟩ := hS.open
  have rd := whRd hS
  have hwh := chainW_wh (whLinks hS)
  apply wAgain.calls
  unfold wAgain
  simp only [optK_some]
  refine ⟨_, rd.p0, (AllW l hl (whLinks hS)).mono ?_⟩
  rintro v H1 ⟨q, a, c, hq, rfl, hS1⟩
  have hS2 : Sat H1 (sep (wheelI p n now M w :: own a q.length c 1 (ints q) :: F)) := by
    have h1 := hS1.perm (List.perm_middle (l₁ := chainW x.pc n 258 w :: (whParts p n now M w (cnts n w) x).take 2) (a := own a q.length c 1 (ints q)) (l₂ := F)).symm
    exact Sat.close x hx (whBack h1)
  have hend : (fun k => if w k = some l then some (placeN now (M k).at_) else w k) = turned now M w q := by
    funext k
    unfold turned
    by_cases hk : w k = some l
    · rw [if_pos hk, if_pos ((hq.mem k).2 hk)]
    · rw [if_neg hk, if_neg fun h => hk ((hq.mem k).1 h)]
  have hstart : turned now M w (q.take 0) = w := by
    funext k; simp [turned]
  rw [hend]
  refine ⟨_, _, _, rfl, fun vs H' => match vs with
    | [.int _ i] => ∃ j : Nat, i = j ∧ j ≤ q.length ∧ Sat H' (sep (wheelI p n now M (turned now M w (q.take j)) :: own a q.length c 1 (ints q) :: F))
    | _ => False, fun vs _ => match vs with
    | [.int _ i] => q.length - i.toNat
    | _ => 0, ⟨0, rfl, Nat.zero_le _, by rw [hstart]; exact hS2⟩, ?_⟩
  rintro i H3 ⟨j, rfl, hj, hS3⟩
  have hlen : q.length ≤ 4096 := by
    rw [hq.length]; exact Nat.le_trans (cntP_le _ _ _) hwh.small.1
  refine ⟨fun h => ?_, fun h => ?_⟩
  · have hlt : j < q.length := by have := of_decide_eq_true h; omega
    have hget := List.getElem?_eq_getElem hlt
    generalize q[j] = k at hget
    have hkq := List.mem_of_getElem? hget
    have hsrc := own_cells hS3 (i := 1) rfl
    have hlen1 := own_len hS3 (i := 1) rfl
    unfold Src at hsrc
    cases a with
    | none => have := hsrc.2; simp at this; omega
    | some ad =>
      obtain ⟨_, _, hc⟩ := hsrc
      have hcell := hc j (.int .i64 k) (by unfold ints; rw [List.getElem?_map, hget]; rfl)
      simp only [optK_some, Int.toNat_natCast, Nat.mul_one]
      refine ⟨by omega, by omega, _, hcell, (Unset_spec (k : Int) hS3).mono ?_⟩
      have hkn := hq.small k hkq
      have hnot : k ∉ q.take j := by
        intro hm
        obtain ⟨i, hi⟩ := List.getElem?_of_mem hm
        rw [List.getElem?_take] at hi
        split at hi
        next hij =>
          have hnd := hq.nodup
          have := (List.getElem?_inj (by omega : i < q.length) hnd).1 (hi.trans hget.symm)
          omega
        next => cases hi
      have hwk : turned now M w (q.take j) k = some l := by
        unfold turned
        rw [if_neg hnot]
        exact (hq.mem k).1 hkq
      rintro v H4 ⟨rfl, hS4⟩
      rw [whereV_nat hkn, hwk] at hS4 ⊢
      simp only [Option.isSome_some, if_true, Int.toNat_natCast] at hS4
      refine ⟨_, rfl, (put_spec k hkn (upd_self _ _ _) hS4).mono ?_⟩
      rintro v H5 ⟨rfl, hS5⟩
      rw [turned_step hget] at hS5
      refine ⟨rfl, ⟨j + 1, by rw [wrap64_id (by omega) (by omega)]; rfl, by omega, hS5⟩, ?_⟩
      rw [wrap64_id (by omega) (by omega)]
      omega
  · have : j = q.length := by have := of_decide_eq_false h; omega
    subst this
    rw [List.take_length] at hS3
    exact ⟨by trivial, hS3.perm (List.Perm.swap _ _ _) |>.drop⟩

end Go.Proofs.Ytlkocnmgpalmnaa
