/- The wheel: how far it may go at once. -/
import Derived.Test.YtlkocnmgpalmnaaWhD
namespace Go.Proofs.Ytlkocnmgpalmnaa
open Go Go.EV

theorem cntP_zero {n : Nat} {w : Nat → Option Nat} {P : Option Nat → Bool} (h : cntP n w P = 0) {k : Nat} (hk : k < n) : ¬ P (w k) = true := by
  intro hp
  unfold cntP at h
  have := List.length_eq_zero_iff.1 h
  have hm : k ∈ (List.range n).filter fun k => P (w k) := List.mem_filter.2 ⟨List.mem_range.2 hk, hp⟩
  rw [this] at hm
  cases hm

theorem wheel_wh {H : Hp} {p n now : Nat} {M : Nat → Mk} {w : Nat → Option Nat} {F : List Asr} (hS : Sat H (sep (wheelI p n now M w :: F))) : Wh n 258 w ∧ Small now M := by
  obtain ⟨x, hx, hS⟩ := hS.open
  exact ⟨chainW_wh (whLinks hS), hx⟩

/-- The rows from R on. -/
def RowS (w : Nat → Option Nat) (R s : Nat) : Prop :=
  (s = 1 ∨ s = 64 ∨ s = 4096 ∨ s = 262144 ∨ s = 16777216) ∧ ∀ k l, w k = some l → 64 * R ≤ l → (l < 64 → s ≤ 1) ∧ (l < 128 → s ≤ 64) ∧ (l < 192 → s ≤ 4096) ∧ (l < 256 → s ≤ 262144)

theorem cell_own {H : Hp} {l : List Asr} {i : Nat} {a : Option Addr} {c : Nat} {q : List Nat} (hS : Sat H (sep l)) (hi : l[i]? = some (own a q.length c 1 (ints q))) {j k : Nat} (hj : q[j]? = some k) : ∃ b, a = some b ∧ cellH H (b.add j) = some (.int .i64 k) := by
  have hsrc := own_cells hS hi
  have hl := own_len hS hi
  have hjl := (List.getElem?_eq_some_iff.1 hj).1
  unfold Src at hsrc
  cases a with
  | none =>
    have := hsrc.2.2
    omega
  | some b => exact ⟨b, rfl, hsrc.2.2 j _ (by unfold ints; rw [List.getElem?_map, hj]; rfl)⟩

theorem imin_nat (a b : Nat) : imin (a : Int) b = ((min a b : Nat) : Int) := by unfold imin; split <;> omega
theorem imax_nat (a b : Nat) : imax (a : Int) b = ((max a b : Nat) : Int) := by unfold imax; split <;> omega

theorem next_spec {H : Hp} {p n now to : Nat} {M : Nat → Mk} {w : Nat → Option Nat} {F : List Asr} (hto : to < 18446744073709551616) (hlt : now < to) (hg : AllP w M (Good now)) (hS : Sat H (sep (wheelI p n now M w :: F))) :
    CallV Try.prog 24 #[(.pointer (some ⟨p, 0, none⟩)), (.int .u64 to)] H fun v H' =>
      ∃ s : Nat, v = .int .u64 s ∧ now < s ∧ s ≤ to ∧ AllP w M (Turn s) ∧ Sat H' (sep (wheelI p n now M w :: F)) := by
  have hS0 := hS
  obtain ⟨x, hx, hS⟩ := hS.open
  have rd := whRd hS
  have hwh := chainW_wh (whLinks hS)
  have hsmall := hwh.small.1
  have hnow := hx.now
  apply wNext.calls
  unfold wNext
  simp only [optK_some, add_mk, Nat.zero_add]
  refine ⟨fun vs H' => H' = H ∧ match vs with
    | [.int _ r, .int _ s] => ∃ R S : Nat, r = (R : Int) - 1 ∧ R ≤ 4 ∧ s = S ∧ RowS w R S
    | _ => False, fun vs _ => match vs with
    | [.int _ r, _] => (r + 1).toNat
    | _ => 0, ⟨rfl, 4, 16777216, rfl, by omega, rfl, by omega, fun k l hk hl => by omega⟩, ?_⟩
  rintro r s H1 ⟨rfl, R, S, rfl, hR, rfl, hrow⟩
  refine ⟨fun h => ?_, fun h => ?_⟩
  · obtain ⟨R, rfl⟩ : ∃ R', R = R' + 1 := ⟨R - 1, by have := of_decide_eq_true h; omega⟩
    have e : ((R + 1 : Nat) : Int) - 1 = (R : Int) := by omega
    obtain ⟨e1, _, e3⟩ := shl6 (R := R) (by omega)
    have ed : IntKind.wrap .i64 ((R : Int) - 1) = (R : Int) - 1 := wrap64_id (by omega) (by omega)
    rw [e, e1, e3, ed, Int.toNat_natCast, Nat.mul_one]
    refine ⟨by omega, by omega, _, rd_count rd R (by omega), fun h0 => ⟨by omega, ⟨rfl, R, 2 ^ (6 * R), rfl, by omega, rfl, ?_⟩, by dsimp only; omega⟩, fun h0 => ⟨⟨rfl, R, S, rfl, by omega, rfl, hrow.1, ?_⟩, by dsimp only; omega⟩⟩
    · rcases (by omega : R = 0 ∨ R = 1 ∨ R = 2 ∨ R = 3) with rfl | rfl | rfl | rfl <;> exact ⟨by omega, fun k l hk hl => by omega⟩
    · intro k l hk hl
      refine hrow.2 k l hk ?_
      have hz : cntP n w (isRow R) = 0 := by
        have := of_decide_eq_false h0
        unfold cnts at this
        omega
      have hk' := cntP_zero hz (hwh.on k l hk).1
      rw [hk, isRow_some] at hk'
      by_cases h2 : 64 * (R + 1) ≤ l
      · exact h2
      · exact absurd ⟨by omega, by omega⟩ hk'
  · have : R = 0 := by have := of_decide_eq_false h; omega
    subst this
    have hall : ∀ k l, w k = some l → _ := fun k l hk => hrow.2 k l hk (by omega)
    refine ⟨fun h1 => ?_, fun h1 => ?_⟩
    · have : S = 16777216 := by have : (S : Int) = 16777216 := by simpa using h1
                                omega
      subst this
      have hfar : ∀ k l, w k = some l → l = 256 ∨ l = 257 := fun k l hk => by
        have h2 := hall k l hk
        have h3 := (hwh.on k l hk).2
        omega
      refine ⟨_, rd.p0, (AllW 257 (by omega) (whLinks hS)).mono ?_⟩
      rintro v H2 ⟨q, a, c, hq, rfl, hS2⟩
      have hS3 : Sat H2 (sep (whParts p n now M w (cnts n w) x ++ (own a q.length c 1 (ints q) :: F))) :=
        whBack (hS2.perm (List.perm_middle (l₁ := chainW x.pc n 258 w :: (whParts p n now M w (cnts n w) x).take 2) (a := own a q.length c 1 (ints q)) (l₂ := F)).symm)
      have rd3 := whRd hS3
      have hlen : q.length ≤ 4096 := by
        rw [hq.length]; exact Nat.le_trans (cntP_le _ _ _) hsmall
      refine ⟨_, _, _, by trivial, fun vs H' => H' = H2 ∧ match vs with
        | [.int _ i, .int _ m] => ∃ j m' : Nat, i = j ∧ j ≤ q.length ∧ m = m' ∧ m' < 18446744073709551616 ∧ ∀ k, k ∈ q.take j → m' ≤ (M k).at_
        | _ => False, fun vs _ => match vs with
        | [.int _ i, _] => q.length - i.toNat
        | _ => 0, ⟨rfl, 0, 18446744073709551615, rfl, Nat.zero_le _, rfl, by omega, fun k hk => (by simp at hk)⟩, ?_⟩
      rintro i m H4 ⟨rfl, j, m', rfl, hj, rfl, hm', hle⟩
      refine ⟨fun h2 => ?_, fun h2 => ?_⟩
      · have hjl : j < q.length := by have := of_decide_eq_true h2; omega
        have hget := List.getElem?_eq_getElem hjl
        generalize q[j] = k at hget
        have hkn := hq.small k (List.mem_of_getElem? hget)
        obtain ⟨b, rfl, hc⟩ := cell_own hS2 (i := 0) rfl hget
        simp only [optK_some, Int.toNat_natCast, Nat.mul_one]
        refine ⟨by omega, by omega, _, hc, _, _, _, rd3.p1, ?_⟩
        simp only [optK_some, add_mk, Nat.zero_add, Int.toNat_natCast]
        have wj : IntKind.wrap .i64 ((j : Int) + 1) = ((j + 1 : Nat) : Int) := by rw [wrap64_id (by omega) (by omega)]; rfl
        refine ⟨by omega, by omega, _, rd3.m0 k hkn, ⟨by trivial, j + 1, min m' (M k).at_, wj, by omega, imin_nat _ _, by omega, fun k' hk' => ?_⟩, by rw [wj]; omega⟩
        rw [List.take_add_one, hget] at hk'
        rcases List.mem_append.1 hk' with h3 | h3
        · exact Nat.le_trans (Nat.min_le_left _ _) (hle k' h3)
        · have : k' = k := by simpa using h3
          rw [this]; exact Nat.min_le_right _ _
      · have : j = q.length := by have := of_decide_eq_false h2; omega
        subst this
        rw [List.take_length] at hle
        refine ⟨_, rd3.p2, ?_⟩
        have e1 : iandn .u64 (m' : Int) 16777215 = ((m' - m' % 16777216 : Nat) : Int) := iandn_mask hm' 24 (by omega)
        have e2 : IntKind.wrap .u64 ((now : Int) + 1) = ((now + 1 : Nat) : Int) := wrapU_nat (x := now + 1) (by omega)
        rw [e1, e2, imax_nat, imin_nat]
        refine ⟨_, rfl, by omega, Nat.min_le_right _ _, fun k l hk => Turn.le ?_ (Nat.min_le_left _ _), (Sat.close (l := whParts p n now M w (cnts n w)) x hx hS3).perm (List.Perm.swap _ _ _) |>.drop⟩
        have f1 : Turn (m' - m' % 16777216) (M k).at_ l := far_turn (hfar k l hk) fun h3 => hle k ((hq.mem k).2 (h3 ▸ hk))
        have f2 : Turn (now - now % 1 + 1) (M k).at_ l := next_turn (hg k l hk) (.inl rfl) (by have := hfar k l hk; omega)
        rw [Nat.mod_one, Nat.sub_zero] at f2
        rcases Nat.le_total (m' - m' % 16777216) (now + 1) with h3 | h3
        · rw [Nat.max_eq_right h3]; exact f2
        · rw [Nat.max_eq_left h3]; exact f1
    · have hne : S ≠ 16777216 := by intro h2; rw [h2] at h1; simp at h1
      have hturn : AllP w M (Turn (now - now % S + S)) := fun k l hk => next_turn (hg k l hk) hrow.1 (hall k l hk)
      have hS1 : 0 < S ∧ S ≤ 262144 := by have := hrow.1; omega
      have hmod := Nat.mod_lt now hS1.1
      have e1 : iandn .u64 (now : Int) (IntKind.wrap .u64 ((S : Int) - 1)) = ((now - now % S : Nat) : Int) := by
        have hf : ∀ j, j < 64 → S = 2 ^ j → iandn .u64 (now : Int) (IntKind.wrap .u64 ((S : Int) - 1)) = ((now - now % S : Nat) : Int) := fun j hj hS => by
          have h0 : 1 ≤ S := hS1.1
          rw [show (S : Int) - 1 = ((S - 1 : Nat) : Int) by omega, wrapU_nat (by omega), hS]
          exact iandn_mask hnow j hj
        rcases hrow.1 with h | h | h | h | h
        · exact hf 0 (by omega) h
        · exact hf 6 (by omega) h
        · exact hf 12 (by omega) h
        · exact hf 18 (by omega) h
        · exact absurd h hne
      refine ⟨_, rd.p2, _, rd.p2, ?_⟩
      rw [e1]
      have hle := Nat.mod_le now S
      by_cases hbig : now - now % S + S < 18446744073709551616
      · have e2 : IntKind.wrap .u64 (((now - now % S : Nat) : Int) + S) = ((now - now % S + S : Nat) : Int) := by rw [← Int.natCast_add]; exact wrapU_nat hbig
        rw [e2]
        refine guard_on (by simp; omega) ⟨fun h2 => ?_, fun h2 => ?_⟩
        · have : now - now % S + S > to := by have := of_decide_eq_true h2; omega
          exact ⟨to, rfl, hlt, Nat.le_refl _, fun k l hk => (hturn k l hk).le (by omega), hS0⟩
        · have : now - now % S + S ≤ to := by have := of_decide_eq_false h2; omega
          exact ⟨_, rfl, by omega, this, hturn, hS0⟩
      · have e2 : IntKind.wrap .u64 (((now - now % S : Nat) : Int) + S) = ((now - now % S + S - 18446744073709551616 : Nat) : Int) := by
          simp [IntKind.wrap, IntKind.bits, IntKind.signed]
          omega
        rw [e2]
        refine guard_off (by simp; omega) ⟨fun h2 => ?_, fun h2 => by simp at h2⟩
        exact ⟨to, rfl, hlt, Nat.le_refl _, fun k l hk => (hturn k l hk).le (by omega), hS0⟩

end Go.Proofs.Ytlkocnmgpalmnaa
