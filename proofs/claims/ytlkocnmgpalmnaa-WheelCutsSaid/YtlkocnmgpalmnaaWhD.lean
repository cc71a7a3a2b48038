/- The wheel: its count, its first, its step and how far a step goes. -/
import Derived.Test.YtlkocnmgpalmnaaWhC
namespace Go.Proofs.Ytlkocnmgpalmnaa
open Go Go.EV

theorem cntP_split {w : Nat → Option Nat} (hw : ∀ k l, w k = some l → l < 258) : ∀ n, cntP n w (fun x => x.isSome) =
    cntP n w (isAt 256) + cntP n w (isAt 257) + cntP n w (isRow 0) + cntP n w (isRow 1) + cntP n w (isRow 2) + cntP n w (isRow 3)
  | 0 => rfl
  | n + 1 => by
    rw [cntP_succ, cntP_succ, cntP_succ, cntP_succ, cntP_succ, cntP_succ, cntP_succ, cntP_split hw n]
    cases h : w n with
    | none => simp [isAt, isRow]
    | some l =>
      have hl := hw n l h
      simp only [isAt_iff, isRow_some, Option.some.injEq, Option.isSome_some, if_true]
      (repeat' split) <;> omega

theorem Len_specW {H : Hp} {p n now : Nat} {M : Nat → Mk} {w : Nat → Option Nat} {F : List Asr} (hS : Sat H (sep (wheelI p n now M w :: F))) :
    CallV Try.prog 13 #[(.pointer (some ⟨p, 0, none⟩))] H fun v H' => v = .int .i64 (cntP n w (fun x => x.isSome) : Nat) ∧ H' = H := by
  obtain ⟨x, hx, hS⟩ := hS.open
  have rd := whRd hS
  have hwh := chainW_wh (whLinks hS)
  have hsplit := cntP_split (fun k l h => (hwh.on k l h).2) n
  have hsmall := hwh.small.1
  have g := cntP_le n w
  have g0 := g (isRow 0); have g1 := g (isRow 1); have g2 := g (isRow 2); have g3 := g (isRow 3); have g4 := g (isAt 256); have g5 := g (isAt 257)
  apply wLen.calls
  unfold wLen
  simp only [optK_some, add_mk, Nat.zero_add, Nat.reduceAdd]
  refine ⟨fun H' => H' = H, rfl, _, rd.p0, (LenW 256 (by omega) (whLinks hS)).mono ?_⟩
  rintro v H1 ⟨rfl, rfl⟩
  refine ⟨_, rfl, rfl, rfl, _, fun H' h => by rw [h]; exact rd.p0, (LenW 257 (by omega) (whLinks hS)).mono ?_⟩
  rintro v H1 ⟨rfl, rfl⟩
  refine ⟨_, rfl, _, rd.c0, _, rd.c1, _, rd.c2, _, rd.c3, ?_⟩
  unfold cnts
  generalize cntP n w (isRow 0) = a0 at *
  generalize cntP n w (isRow 1) = a1 at *
  generalize cntP n w (isRow 2) = a2 at *
  generalize cntP n w (isRow 3) = a3 at *
  generalize cntP n w (isAt 256) = a4 at *
  generalize cntP n w (isAt 257) = a5 at *
  rw [hsplit]
  clear hsplit g
  refine ⟨fun vs H' => H' = H1 ∧ match vs with
    | [.int _ i, .int _ s] => (i = 0 ∧ s = a4 + a5) ∨ (i = 1 ∧ s = a4 + a5 + a0) ∨ (i = 2 ∧ s = a4 + a5 + a0 + a1) ∨ (i = 3 ∧ s = a4 + a5 + a0 + a1 + a2) ∨ (i = 4 ∧ s = a4 + a5 + a0 + a1 + a2 + a3)
    | _ => False, fun vs _ => match vs with
    | [.int _ i, _] => (4 - i).toNat
    | _ => 0, ⟨rfl, .inl ⟨rfl, by rw [wrap64_id (by omega) (by omega)]⟩⟩, ?_⟩
  rintro i s H2 ⟨rfl, hi⟩
  rcases hi with ⟨rfl, rfl⟩ | ⟨rfl, rfl⟩ | ⟨rfl, rfl⟩ | ⟨rfl, rfl⟩ | ⟨rfl, rfl⟩
  · refine ⟨fun _ => ⟨by omega, by omega, _, rfl, ⟨rfl, .inr (.inl ⟨rfl, by rw [wrap64_id (by omega) (by omega)]⟩)⟩, by dsimp only; decide⟩, fun h => by simp at h⟩
  · refine ⟨fun _ => ⟨by omega, by omega, _, rfl, ⟨rfl, .inr (.inr (.inl ⟨rfl, by rw [wrap64_id (by omega) (by omega)]⟩))⟩, by dsimp only; decide⟩, fun h => by simp at h⟩
  · refine ⟨fun _ => ⟨by omega, by omega, _, rfl, ⟨rfl, .inr (.inr (.inr (.inl ⟨rfl, by rw [wrap64_id (by omega) (by omega)]⟩)))⟩, by dsimp only; decide⟩, fun h => by simp at h⟩
  · refine ⟨fun _ => ⟨by omega, by omega, _, rfl, ⟨rfl, .inr (.inr (.inr (.inr ⟨rfl, by rw [wrap64_id (by omega) (by omega)]⟩)))⟩, by dsimp only; decide⟩, fun h => by simp at h⟩
  · refine ⟨fun h => by simp at h, fun _ => ⟨?_, rfl⟩⟩
    congr 1

/-- The least hour among those laid, up to j. -/
def FirstIs (j : Nat) (M : Nat → Mk) (w : Nat → Option Nat) (m : Nat) (b : Bool) : Prop :=
  (b = false ∧ m = 0 ∧ ∀ k, k < j → w k = none) ∨ (b = true ∧ (∃ k, k < j ∧ (w k).isSome = true ∧ (M k).at_ = m) ∧ ∀ k, k < j → (w k).isSome = true → m ≤ (M k).at_)

theorem First_specW {H : Hp} {p n now : Nat} {M : Nat → Mk} {w : Nat → Option Nat} {F : List Asr} (hS : Sat H (sep (wheelI p n now M w :: F))) :
    CallV Try.prog 18 #[(.pointer (some ⟨p, 0, none⟩))] H fun v H' => (∃ (m : Nat) (b : Bool), v = .tuple #[.int .u64 m, .bool b] ∧ FirstIs n M w m b) ∧ H' = H := by
  have hS0 := hS
  obtain ⟨x, hx, hS⟩ := hS.open
  have rd := whRd hS
  have hwh := chainW_wh (whLinks hS)
  have hsmall := hwh.small.1
  apply wFirst.calls
  unfold wFirst
  simp only [optK_some, add_mk, Nat.zero_add]
  refine ⟨_, _, _, rd.p1, fun vs H' => H' = H ∧ match vs with
    | [.int _ i, .int _ m, .bool b] => ∃ (j m' : Nat), i = j ∧ j ≤ n ∧ m = m' ∧ FirstIs j M w m' b
    | _ => False, fun vs _ => match vs with
    | [.int _ i, _, _] => n - i.toNat
    | _ => 0, ⟨rfl, 0, 0, rfl, Nat.zero_le _, rfl, .inl ⟨rfl, rfl, fun k hk => by omega⟩⟩, ?_⟩
  rintro i m b H1 ⟨rfl, j, m', rfl, hj, rfl, hf⟩
  refine ⟨fun h => ?_, fun h => ?_⟩
  · have hlt : j < n := by have := of_decide_eq_true h; omega
    refine (At_spec (j : Int) hS0).mono ?_
    rintro v H2 ⟨rfl, rfl⟩
    unfold atV
    rw [whereV_nat hlt]
    have wj : IntKind.wrap .i64 ((j : Int) + 1) = ((j + 1 : Nat) : Int) := by rw [wrap64_id (by omega) (by omega)]; rfl
    cases hwj : w j with
    | none =>
      refine ⟨_, _, _, rfl, guard_off (by decide) ⟨fun h => (by simp at h), fun _ => ⟨⟨rfl, j + 1, m', wj, by omega, rfl, ?_⟩, by dsimp only; rw [wj]; omega⟩⟩⟩
      rcases hf with ⟨rfl, rfl, hn⟩ | ⟨rfl, ⟨k, hk, hs, he⟩, hle⟩
      · refine .inl ⟨rfl, rfl, fun k hk => ?_⟩
        by_cases h : k = j
        · rw [h]; exact hwj
        · exact hn k (by omega)
      · refine .inr ⟨rfl, ⟨k, by omega, hs, he⟩, fun k' hk' hs' => ?_⟩
        by_cases h : k' = j
        · rw [h, hwj] at hs'; cases hs'
        · exact hle k' (by omega) hs'
    | some l =>
      simp only [Option.isSome_some, if_true, Int.toNat_natCast]
      have new : ∀ b', (b' = true → (∀ k, k < j → (w k).isSome = true → (M j).at_ ≤ (M k).at_)) → b' = true → FirstIs (j + 1) M w (M j).at_ true := fun b' hb h => by
        refine .inr ⟨rfl, ⟨j, by omega, by rw [hwj]; rfl, rfl⟩, fun k' hk' hs' => ?_⟩
        by_cases h' : k' = j
        · rw [h']; exact Nat.le_refl _
        · exact hb h k' (by omega) hs'
      refine ⟨_, _, _, rfl, guard_on rfl ?_⟩
      rcases hf with ⟨rfl, rfl, hn⟩ | ⟨rfl, ⟨k, hk, hs, he⟩, hle⟩
      · refine guard_off (by decide) ⟨fun _ => ⟨⟨rfl, j + 1, _, wj, by omega, rfl, new true (fun _ k hk hs => by rw [hn k hk] at hs; cases hs) rfl⟩, by rw [wj]; omega⟩, fun h => (by simp at h)⟩
      · refine guard_on (by decide) ⟨fun h => ?_, fun h => ?_⟩
        · have hlt' : (M j).at_ < m' := by have := of_decide_eq_true h; omega
          exact ⟨⟨rfl, j + 1, _, wj, by omega, rfl, new true (fun _ k hk hs => Nat.le_trans (Nat.le_of_lt hlt') (hle k hk hs)) rfl⟩, by rw [wj]; omega⟩
        · have hge : m' ≤ (M j).at_ := by have := of_decide_eq_false h; omega
          refine ⟨⟨rfl, j + 1, m', wj, by omega, rfl, .inr ⟨rfl, ⟨k, by omega, hs, he⟩, fun k' hk' hs' => ?_⟩⟩, by rw [wj]; omega⟩
          by_cases h' : k' = j
          · rw [h']; exact hge
          · exact hle k' (by omega) hs'
  · have : j = n := by have := of_decide_eq_false h; omega
    subst this
    exact ⟨⟨m', b, rfl, hf⟩, rfl⟩

/-- Each that is laid is laid well. -/
def AllP (w : Nat → Option Nat) (M : Nat → Mk) (P : Nat → Nat → Prop) : Prop := ∀ k l, w k = some l → P (M k).at_ l

def againW (now : Nat) (M : Nat → Mk) (w : Nat → Option Nat) (l : Nat) : Nat → Option Nat := fun k => if w k = some l then some (placeN now (M k).at_) else w k

theorem again_some {now : Nat} {M : Nat → Mk} {w : Nat → Option Nat} {l : Nat} (k : Nat) : (againW now M w l k).isSome = (w k).isSome := by
  unfold againW
  split
  next h => rw [h]; rfl
  next => rfl

theorem again_pend {now R : Nat} {far : Prop} {M : Nat → Mk} {w : Nat → Option Nat} {l0 : Nat} (h : AllP w M (Pend R far now)) : AllP (againW now M w l0) M fun t l => Pend R far now t l ∧ (l ≠ l0 ∨ Good now t l) := by
  intro k l hk
  unfold againW at hk
  split at hk
  · cases hk
    exact ⟨pend_good (place_good _ _), .inr (place_good _ _)⟩
  next hne => exact ⟨h k l hk, .inl fun h => hne (by rw [← h]; exact hk)⟩

theorem AllP.mono {w : Nat → Option Nat} {M : Nat → Mk} {P Q : Nat → Nat → Prop} (h : AllP w M P) (f : ∀ t l, P t l → Q t l) : AllP w M Q := fun k l hk => f _ _ (h k l hk)

theorem pendR {R s t l : Nat} (hR : R < 4) (h : Pend (R + 1) False s t l) (hl : (l ≠ R * 64 + s / 2 ^ (6 * R) % 64 ∨ Good s t l) ∨ s % 2 ^ (6 * R) ≠ 0) : Pend R False s t l := by
  rcases (by omega : R = 0 ∨ R = 1 ∨ R = 2 ∨ R = 3) with rfl | rfl | rfl | rfl
  · rcases hl with (hl | hl) | hl
    · exact pend0 h (by simpa using hl)
    · exact .inl hl
    · simp at hl; omega
  · rcases hl with (hl | hl) | hl
    · exact pend1 h (.inl (by simpa using hl))
    · exact .inl hl
    · exact pend1 h (.inr (by simpa using hl))
  · rcases hl with (hl | hl) | hl
    · exact pend2 h (.inl (by simpa using hl))
    · exact .inl hl
    · exact pend2 h (.inr (by simpa using hl))
  · rcases hl with (hl | hl) | hl
    · exact pend3 h (.inl (by simpa using hl))
    · exact .inl hl
    · exact pend3 h (.inr (by simpa using hl))

theorem wr_now {H : Hp} {K : Hp → Prop} {p n now s : Nat} {M : Nat → Mk} {w : Nat → Option Nat} {F : List Asr} (hs : s < 18446744073709551616) (h : Sat H (sep (wheelI p n now M w :: F)))
    (k : ∀ H', Sat H' (sep (wheelI p n s M w :: F)) → K H') : wrK ⟨p, 2, none⟩ [.int .u64 s] 0 K H := by
  obtain ⟨x, hx, h⟩ := h.open
  refine wr1 h 0 rfl (by simp) fun H' h' => k H' (Sat.close (l := whParts p n s M w (cnts n w)) x ⟨hs, hx.at_, hx.turn⟩ h')

theorem shl6 {R : Nat} (hR : R < 4) : IntKind.wrap .i64 (6 * (R : Int)) = ((6 * R : Nat) : Int) ∧ IntKind.wrap .u64 (ishl .u64 1 ((6 * R : Nat) : Int) - 1) = ((2 ^ (6 * R) - 1 : Nat) : Int) ∧ ishl .u64 1 ((6 * R : Nat) : Int) = ((2 ^ (6 * R) : Nat) : Int) := by
  rcases (by omega : R = 0 ∨ R = 1 ∨ R = 2 ∨ R = 3) with rfl | rfl | rfl | rfl <;> decide

theorem step_spec {H : Hp} {p n now s : Nat} {M : Nat → Mk} {w : Nat → Option Nat} {F : List Asr} (hs : s < 18446744073709551616) (hlt : now < s) (hg : AllP w M (Good now)) (ht : AllP w M (Turn s)) (hS : Sat H (sep (wheelI p n now M w :: F))) :
    CallV Try.prog 23 #[(.pointer (some ⟨p, 0, none⟩)), (.int .u64 s)] H fun v H' =>
      v = .tuple #[] ∧ ∃ w', (∀ k, (w' k).isSome = (w k).isSome) ∧ AllP w' M (Good s) ∧ Sat H' (sep (wheelI p n s M w' :: F)) := by
  have hp : AllP w M (Pend 4 True s) := fun k l hk => pend_start (hg k l hk) hlt (ht k l hk)
  apply wStep.calls
  unfold wStep
  simp only [optK_some, add_mk, Nat.zero_add]
  refine wr_now hs hS fun H1 hS1 => ?_
  have m24 : iand .u64 (s : Int) 16777215 = ((s % 16777216 : Nat) : Int) := iand_mask hs 24 (by omega)
  rw [m24]
  refine ⟨fun _ H' => ∃ w', (∀ k, (w' k).isSome = (w k).isSome) ∧ AllP w' M (Pend 4 False s) ∧ Sat H' (sep (wheelI p n s M w' :: F)), ⟨fun h => ?_, fun h => ?_⟩, ?_⟩
  · refine (again_spec 257 (by omega) hS1).mono ?_
    rintro v H2 ⟨rfl, hS2⟩
    refine ⟨rfl, againW s M w 257, again_some, (again_pend hp).mono fun t l h => ?_, hS2⟩
    rcases h.2 with h2 | h2
    · exact pend_far h.1 (.inl h2)
    · exact .inl h2
  · have : s % 16777216 ≠ 0 := by intro h0; rw [h0] at h; simp at h
    exact ⟨w, fun _ => rfl, hp.mono fun t l h => pend_far h (.inr this), hS1⟩
  rintro H2 ⟨w2, hw2, hp2, hS2⟩
  refine ⟨fun vs H' => match vs with
    | [.int _ r] => ∃ (R : Nat) (w' : Nat → Option Nat), r = (R : Int) - 1 ∧ R ≤ 4 ∧ (∀ k, (w' k).isSome = (w k).isSome) ∧ AllP w' M (Pend R False s) ∧ Sat H' (sep (wheelI p n s M w' :: F))
    | _ => False, fun vs _ => match vs with
    | [.int _ r] => (r + 1).toNat
    | _ => 0, ⟨4, w2, rfl, by omega, hw2, hp2, hS2⟩, ?_⟩
  rintro r H3 ⟨R, w3, rfl, hR, hw3, hp3, hS3⟩
  refine ⟨fun h => ?_, fun h => ?_⟩
  · obtain ⟨R, rfl⟩ : ∃ R', R = R' + 1 := ⟨R - 1, by have := of_decide_eq_true h; omega⟩
    have e : ((R + 1 : Nat) : Int) - 1 = (R : Int) := by omega
    obtain ⟨e1, e2, e3⟩ := shl6 (R := R) (by omega)
    have ed : IntKind.wrap .i64 ((R : Int) - 1) = (R : Int) - 1 := wrap64_id (by omega) (by omega)
    rw [e, e1, e2, iand_mask hs (6 * R) (by omega), ishr_nat s (6 * R) (by omega), ed]
    refine ⟨by omega, fun h0 => ⟨by omega, ?_⟩, fun h0 => ?_⟩
    · have hpow : s / 2 ^ (6 * R) < 18446744073709551616 := Nat.lt_of_le_of_lt (Nat.div_le_self _ _) hs
      have m63 : iand .u64 ((s / 2 ^ (6 * R) : Nat) : Int) 63 = ((s / 2 ^ (6 * R) % 64 : Nat) : Int) := iand_mask hpow 6 (by omega)
      have ea : IntKind.wrap .i64 (IntKind.wrap .i64 ((R : Int) * 64) + IntKind.wrap .i64 (iand .u64 ((s / 2 ^ (6 * R) : Nat) : Int) 63)) = ((R * 64 + s / 2 ^ (6 * R) % 64 : Nat) : Int) := by
        rw [m63, wrap64_id (n := (R : Int) * 64) (by omega) (by omega), wrap64_id (n := ((s / 2 ^ (6 * R) % 64 : Nat) : Int)) (by omega) (by omega), wrap64_id (by omega) (by omega)]
        omega
      rw [ea]
      refine (again_spec _ (by omega) hS3).mono ?_
      rintro v H4 ⟨rfl, hS4⟩
      refine ⟨rfl, ⟨R, _, rfl, by omega, fun k => (again_some k).trans (hw3 k), (again_pend hp3).mono fun t l h => pendR (by omega) h.1 (.inl h.2), hS4⟩, ?_⟩
      dsimp only
      omega
    · have h1 : s % 2 ^ (6 * R) ≠ 0 := by intro hh; rw [hh] at h0; simp at h0
      refine ⟨⟨R, w3, rfl, by omega, hw3, hp3.mono fun t l h => pendR (by omega) h (.inr h1), hS3⟩, ?_⟩
      dsimp only
      omega
  · have : R = 0 := by have := of_decide_eq_false h; omega
    subst this
    exact ⟨by trivial, w3, hw3, hp3.mono fun t l h => pend_end h, hS3⟩

end Go.Proofs.Ytlkocnmgpalmnaa
