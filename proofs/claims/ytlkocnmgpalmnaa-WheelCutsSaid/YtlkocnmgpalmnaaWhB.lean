/- The wheel: what its small functions do. -/
import Derived.Test.YtlkocnmgpalmnaaChC
import Derived.Test.YtlkocnmgpalmnaaWhA
import Derived.Test.YtlkocnmgpalmnaaEvN
namespace Go.Proofs.Ytlkocnmgpalmnaa
open Go Go.EV

structure Mk where
  at_ : Nat
  turn : Nat

def encM (x : Mk) : List Value := [.int .u64 x.at_, .int .u64 x.turn]
theorem encM_len (x : Mk) : (encM x).length = 2 := rfl

def isRow (r : Nat) : Option Nat → Bool
  | some l => decide (l < 256) && Nat.beq (l / 64) r
  | none => false

structure WhX where
  pc : Nat
  bm : Nat

def whParts (p n now : Nat) (M : Nat → Mk) (w : Nat → Option Nat) (c : Nat → Int) (x : WhX) : List Asr :=
  [blk p [.pointer (some ⟨x.pc, 0, none⟩), .slice (some ⟨x.bm, 0, none⟩) n n, .int .u64 now, .int .i64 (c 0), .int .i64 (c 1), .int .i64 (c 2), .int .i64 (c 3)], blk x.bm (flat encM n M), chainW x.pc n 258 w]

def cnts (n : Nat) (w : Nat → Option Nat) : Nat → Int := fun r => (cntP n w (isRow r) : Nat)

structure Small (now : Nat) (M : Nat → Mk) : Prop where
  now : now < 18446744073709551616
  at_ : ∀ k, (M k).at_ < 18446744073709551616
  turn : ∀ k, (M k).turn < 18446744073709551616

def wheelI (p n now : Nat) (M : Nat → Mk) (w : Nat → Option Nat) : Asr := exS (fun _ : WhX => Small now M) (whParts p n now M w (cnts n w))

structure WhRd (H : Hp) (p n now : Nat) (M : Nat → Mk) (c : Nat → Int) (x : WhX) : Prop where
  p0 : cellH H ⟨p, 0, none⟩ = some (.pointer (some ⟨x.pc, 0, none⟩))
  p1 : cellH H ⟨p, 1, none⟩ = some (.slice (some ⟨x.bm, 0, none⟩) n n)
  p2 : cellH H ⟨p, 2, none⟩ = some (.int .u64 now)
  c0 : cellH H ⟨p, 3, none⟩ = some (.int .i64 (c 0))
  c1 : cellH H ⟨p, 4, none⟩ = some (.int .i64 (c 1))
  c2 : cellH H ⟨p, 5, none⟩ = some (.int .i64 (c 2))
  c3 : cellH H ⟨p, 6, none⟩ = some (.int .i64 (c 3))
  m0 : ∀ k, k < n → cellH H ⟨x.bm, k * 2, none⟩ = some (.int .u64 (M k).at_)
  m1 : ∀ k, k < n → cellH H ⟨x.bm, k * 2 + 1, none⟩ = some (.int .u64 (M k).turn)

theorem whRd {H : Hp} {p n now : Nat} {M : Nat → Mk} {w : Nat → Option Nat} {c : Nat → Int} {x : WhX} {F : List Asr} (h : Sat H (sep (whParts p n now M w c x ++ F))) : WhRd H p n now M c x := by
  have c0 := h.cell 0 rfl
  have c1 := h.cell 1 rfl
  refine ⟨c0 0, c0 1, c0 2, c0 3, c0 4, c0 5, c0 6, fun k hk => ?_, fun k hk => ?_⟩
  · rw [c1]; exact flat_get encM_len n M k 0 hk (by omega)
  · rw [c1]; exact flat_get encM_len n M k 1 hk (by omega)

/-- The links come first. -/
theorem whLinks {H : Hp} {p n now : Nat} {M : Nat → Mk} {w : Nat → Option Nat} {c : Nat → Int} {x : WhX} {F : List Asr} (h : Sat H (sep (whParts p n now M w c x ++ F))) :
    Sat H (sep (chainW x.pc n 258 w :: (whParts p n now M w c x).take 2 ++ F)) := h.pull 2

theorem whBack {H : Hp} {p n now : Nat} {M : Nat → Mk} {w w' : Nat → Option Nat} {c : Nat → Int} {x : WhX} {F : List Asr} (h : Sat H (sep (chainW x.pc n 258 w' :: (whParts p n now M w c x).take 2 ++ F))) :
    Sat H (sep (whParts p n now M w' c x ++ F)) := h.perm (by
  unfold whParts
  exact (List.perm_middle (l₁ := [_, _])).symm)

theorem Now_spec {H : Hp} {p n now : Nat} {M : Nat → Mk} {w : Nat → Option Nat} {F : List Asr} (hS : Sat H (sep (wheelI p n now M w :: F))) :
    CallV Try.prog 15 #[(.pointer (some ⟨p, 0, none⟩))] H fun v H' => v = .int .u64 now ∧ H' = H := by
  obtain ⟨x, hx, hS⟩ := hS.open
  have rd := whRd hS
  apply wNow.calls
  unfold wNow
  simp [optK_some, add_mk, rd.p2]

theorem place_spec {H : Hp} {p n now : Nat} {M : Nat → Mk} {w : Nat → Option Nat} {F : List Asr} (t : Nat) (ht : t < 18446744073709551616) (hS : Sat H (sep (wheelI p n now M w :: F))) :
    CallV Try.prog 32 #[(.pointer (some ⟨p, 0, none⟩)), (.int .u64 t)] H fun v H' => v = .int .i64 (placeN now t : Nat) ∧ H' = H := by
  obtain ⟨x, hx, hS⟩ := hS.open
  have rd := whRd hS
  have hnow := hx.now
  apply wPlace.calls
  unfold wPlace
  simp only [optK_some, add_mk, Nat.zero_add]
  refine ⟨_, rd.p2, fun h => ?_, fun h => ⟨_, rd.p2, ?_⟩⟩
  · have hle : t ≤ now := by simpa using h
    exact ⟨by unfold placeN; rw [if_pos hle]; rfl, trivial⟩
  · have hlt : now < t := by simpa using h
    have hgap : IntKind.wrap .u64 ((t : Int) - now) = ((t - now : Nat) : Int) := by
      rw [show (t : Int) - now = ((t - now : Nat) : Int) by omega]; exact wrapU_nat (by omega)
    rw [hgap]
    refine ⟨fun vs H' => H' = H ∧ match vs with
      | [.int _ r] => (r = 0 ∨ (r = 1 ∧ 64 ≤ t - now) ∨ (r = 2 ∧ 4096 ≤ t - now) ∨ (r = 3 ∧ 262144 ≤ t - now) ∨ (r = 4 ∧ 16777216 ≤ t - now))
      | _ => False, fun vs _ => match vs with
      | [.int _ r] => (4 - r).toNat
      | _ => 0, ⟨rfl, .inl rfl⟩, ?_⟩
    rintro r H1 ⟨rfl, hr⟩
    have s0 : ishl .u64 1 (IntKind.wrap .i64 (6 * IntKind.wrap .i64 (0 + 1))) = 64 := by decide
    have s1 : ishl .u64 1 (IntKind.wrap .i64 (6 * IntKind.wrap .i64 (1 + 1))) = 4096 := by decide
    have s2 : ishl .u64 1 (IntKind.wrap .i64 (6 * IntKind.wrap .i64 (2 + 1))) = 262144 := by decide
    have s3 : ishl .u64 1 (IntKind.wrap .i64 (6 * IntKind.wrap .i64 (3 + 1))) = 16777216 := by decide
    have m63 : ∀ y : Nat, y < 18446744073709551616 → iand .u64 (y : Int) 63 = ((y % 64 : Nat) : Int) := fun y hy => iand_mask hy 6 (by omega)
    have q0 : ishr .u64 (t : Int) 0 = ((t : Nat) : Int) := by have := ishr_nat t 0 (by omega); simpa using this
    have q1 : ishr .u64 (t : Int) 6 = ((t / 64 : Nat) : Int) := ishr_nat t 6 (by omega)
    have q2 : ishr .u64 (t : Int) 12 = ((t / 4096 : Nat) : Int) := ishr_nat t 12 (by omega)
    have q3 : ishr .u64 (t : Int) 18 = ((t / 262144 : Nat) : Int) := ishr_nat t 18 (by omega)
    have w6 : ∀ r : Int, 0 ≤ r → r ≤ 4 → IntKind.wrap .i64 (6 * r) = 6 * r := fun r h0 h1 => wrap64_id (by omega) (by omega)
    have fin : ∀ (r y : Nat), r < 4 → y < 18446744073709551616 → placeN now t = r * 64 + y % 64 →
        Value.int .i64 (IntKind.wrap .i64 (IntKind.wrap .i64 ((r : Int) * 64) + IntKind.wrap .i64 (iand .u64 (y : Int) 63))) = .int .i64 (placeN now t : Nat) := fun r y hr hy he => by
      rw [m63 y hy, he, wrap64_id (n := (r : Int) * 64) (by omega) (by omega), wrap64_id (n := ((y % 64 : Nat) : Int)) (by omega) (by omega), wrap64_id (by omega) (by omega)]
      congr 1
    rcases hr with rfl | ⟨rfl, h1⟩ | ⟨rfl, h1⟩ | ⟨rfl, h1⟩ | ⟨rfl, h1⟩
    · refine ⟨fun _ => ⟨by decide, ?_, ?_⟩, fun h => by simp at h⟩
      · intro hc
        rw [s0] at hc
        refine ⟨by decide, ?_, rfl⟩
        rw [show IntKind.wrap .i64 (6 * (0 : Int)) = 0 by decide, q0]
        refine fin 0 t (by omega) ht ?_
        have : (t - now : Nat) < 64 := by have := of_decide_eq_true hc; omega
        unfold placeN
        rw [if_neg (by omega), if_pos this]; omega
      · intro hc
        rw [s0] at hc
        have : 64 ≤ t - now := by have := of_decide_eq_false hc; omega
        exact ⟨⟨rfl, .inr (.inl ⟨by decide, this⟩)⟩, by dsimp only; decide⟩
    · refine ⟨fun _ => ⟨by decide, ?_, ?_⟩, fun h => by simp at h⟩
      · intro hc
        rw [s1] at hc
        refine ⟨by decide, ?_, rfl⟩
        rw [show IntKind.wrap .i64 (6 * (1 : Int)) = 6 by decide, q1]
        refine fin 1 (t / 64) (by omega) (by omega) ?_
        have : (t - now : Nat) < 4096 := by have := of_decide_eq_true hc; omega
        unfold placeN
        rw [if_neg (by omega), if_neg (by omega), if_pos this]
      · intro hc
        rw [s1] at hc
        have : 4096 ≤ t - now := by have := of_decide_eq_false hc; omega
        exact ⟨⟨rfl, .inr (.inr (.inl ⟨by decide, this⟩))⟩, by dsimp only; decide⟩
    · refine ⟨fun _ => ⟨by decide, ?_, ?_⟩, fun h => by simp at h⟩
      · intro hc
        rw [s2] at hc
        refine ⟨by decide, ?_, rfl⟩
        rw [show IntKind.wrap .i64 (6 * (2 : Int)) = 12 by decide, q2]
        refine fin 2 (t / 4096) (by omega) (by omega) ?_
        have : (t - now : Nat) < 262144 := by have := of_decide_eq_true hc; omega
        unfold placeN
        rw [if_neg (by omega), if_neg (by omega), if_neg (by omega), if_pos this]
      · intro hc
        rw [s2] at hc
        have : 262144 ≤ t - now := by have := of_decide_eq_false hc; omega
        exact ⟨⟨rfl, .inr (.inr (.inr (.inl ⟨by decide, this⟩)))⟩, by dsimp only; decide⟩
    · refine ⟨fun _ => ⟨by decide, ?_, ?_⟩, fun h => by simp at h⟩
      · intro hc
        rw [s3] at hc
        refine ⟨by decide, ?_, rfl⟩
        rw [show IntKind.wrap .i64 (6 * (3 : Int)) = 18 by decide, q3]
        refine fin 3 (t / 262144) (by omega) (by omega) ?_
        have : (t - now : Nat) < 16777216 := by have := of_decide_eq_true hc; omega
        unfold placeN
        rw [if_neg (by omega), if_neg (by omega), if_neg (by omega), if_neg (by omega), if_pos this]
      · intro hc
        rw [s3] at hc
        have : 16777216 ≤ t - now := by have := of_decide_eq_false hc; omega
        exact ⟨⟨rfl, .inr (.inr (.inr (.inr ⟨by decide, this⟩)))⟩, by dsimp only; decide⟩
    · refine ⟨fun h => by simp at h, fun _ => ⟨?_, rfl⟩⟩
      unfold placeN
      rw [if_neg (by omega), if_neg (by omega), if_neg (by omega), if_neg (by omega), if_neg (by omega)]; rfl


theorem isRow_some {r l : Nat} : isRow r (some l) = true ↔ l < 256 ∧ l / 64 = r := by
  unfold isRow
  simp

/-- A count behind a change of one's place. -/
theorem cnts_upd {n : Nat} {w : Nat → Option Nat} {k : Nat} (x : Option Nat) (hk : k < n) (r : Nat) :
    cnts n (upd w k x) r = cnts n w r + (if isRow r x = true then 1 else 0) - (if isRow r (w k) = true then 1 else 0) := by
  have := cntP_upd (isRow r) k x n w hk
  unfold cnts
  split <;> split <;> simp_all <;> omega

theorem wr1 {H : Hp} {K : Hp → Prop} {l : List Asr} (h : Sat H (sep l)) (i : Nat) {b j : Nat} {v : Value} {cs : List Value} (hi : l[i]? = some (blk b cs)) (hj : j < cs.length)
    (k : ∀ H', Sat H' (sep (l.set i (blk b (cs.set j v)))) → K H') : wrK ⟨b, j, none⟩ [v] 0 K H :=
  wr h i hi (by simp; omega) k

theorem iquo64 {l : Nat} (h : l < 256) : iquo .i64 (l : Int) 64 = ((l / 64 : Nat) : Int) := by
  unfold iquo
  rw [Int.tdiv_eq_ediv_of_nonneg (by omega), wrap64_id (by omega) (by omega)]
  rfl

/-- One counter is laid anew. -/
theorem wr_count {H : Hp} {K : Hp → Prop} {p n now : Nat} {M : Nat → Mk} {w : Nat → Option Nat} {c : Nat → Int} {x : WhX} {F : List Asr} (r : Nat) (hr : r < 4) (v : Int) (h : Sat H (sep (whParts p n now M w c x ++ F)))
    (k : ∀ H', Sat H' (sep (whParts p n now M w (upd c r v) x ++ F)) → K H') : wrK ⟨p, 3 + r, none⟩ [.int .i64 v] 0 K H := by
  refine wr1 h 0 rfl (by simp; omega) fun H' h' => k H' ?_
  rcases (by omega : r = 0 ∨ r = 1 ∨ r = 2 ∨ r = 3) with rfl | rfl | rfl | rfl <;> exact h'

theorem rd_count {H : Hp} {p n now : Nat} {M : Nat → Mk} {c : Nat → Int} {x : WhX} (rd : WhRd H p n now M c x) (r : Nat) (hr : r < 4) : cellH H ⟨p, 3 + r, none⟩ = some (.int .i64 (c r)) := by
  rcases (by omega : r = 0 ∨ r = 1 ∨ r = 2 ∨ r = 3) with rfl | rfl | rfl | rfl
  · exact rd.c0
  · exact rd.c1
  · exact rd.c2
  · exact rd.c3

theorem close_counts {H : Hp} {p n now : Nat} {M : Nat → Mk} {w : Nat → Option Nat} {c : Nat → Int} {x : WhX} {F : List Asr} (hx : Small now M) (hc : ∀ r, r < 4 → c r = cnts n w r) (h : Sat H (sep (whParts p n now M w c x ++ F))) : Sat H (sep (wheelI p n now M w :: F)) := by
  refine Sat.close (l := whParts p n now M w (cnts n w)) x hx ?_
  have : whParts p n now M w (cnts n w) x = whParts p n now M w c x := by
    unfold whParts
    rw [hc 0 (by omega), hc 1 (by omega), hc 2 (by omega), hc 3 (by omega)]
  rw [this]; exact h

theorem put_spec {H : Hp} {p n now : Nat} {M : Nat → Mk} {w : Nat → Option Nat} {F : List Asr} (k : Nat) (hk : k < n) (hw : w k = none) (hS : Sat H (sep (wheelI p n now M w :: F))) :
    CallV Try.prog 21 #[(.pointer (some ⟨p, 0, none⟩)), (.int .i64 k)] H fun v H' => v = .tuple #[] ∧ Sat H' (sep (wheelI p n now M (upd w k (some (placeN now (M k).at_))) :: F)) := by
  have hS0 := hS
  obtain ⟨x, hx, hS⟩ := hS.open
  have rd := whRd hS
  apply wPut.calls
  unfold wPut
  simp only [optK_some, add_mk, Nat.zero_add, Int.toNat_natCast]
  refine ⟨_, _, _, rd.p1, ?_⟩
  simp only [optK_some, add_mk, Nat.zero_add]
  refine ⟨by omega, by omega, _, rd.m0 k hk, (place_spec (M k).at_ (hx.at_ k) hS0).mono ?_⟩
  rintro v H1 ⟨rfl, rfl⟩
  refine ⟨_, rfl, _, rd.p0, ?_⟩
  have hpl := place_lt now (M k).at_
  generalize hl : placeN now (M k).at_ = l at *
  refine (PushW l k hpl hk hw (whLinks hS)).mono ?_
  rintro v H2 ⟨rfl, hS2⟩
  replace hS2 := whBack hS2
  have rd2 := whRd hS2
  have hsmall := (chainW_wh (whLinks hS2)).small
  refine ⟨_, rfl, fun h => ?_, fun h => ?_⟩
  · have hlt : l < 256 := by have := of_decide_eq_true h; omega
    rw [iquo64 hlt]
    simp only [Int.toNat_natCast, Nat.mul_one]
    refine ⟨by omega, by omega, _, rd_count rd2 (l / 64) (by omega), by omega, by omega, ?_⟩
    have hle := cntP_le n w (isRow (l / 64))
    refine wr_count (l / 64) (by omega) _ hS2 fun H3 hS3 => ⟨trivial, ?_⟩
    refine close_counts hx (fun r hr => ?_) hS3
    rw [cnts_upd _ hk, hw]
    unfold upd
    by_cases hrr : r = l / 64
    · subst hrr
      rw [if_pos rfl, if_pos (isRow_some.2 ⟨hlt, rfl⟩)]
      have : cnts n w (l / 64) = (cntP n w (isRow (l / 64)) : Nat) := rfl
      rw [wrap64_id (by omega) (by omega)]
      simp [isRow]
    · rw [if_neg hrr, if_neg (fun h => hrr (isRow_some.1 h).2.symm)]
      simp [isRow]
  · have hge : ¬ l < 256 := by have := of_decide_eq_false h; omega
    refine ⟨trivial, close_counts hx (fun r hr => ?_) hS2⟩
    rw [cnts_upd _ hk, hw, if_neg (fun h => hge (isRow_some.1 h).1)]
    simp [isRow]

theorem Unset_spec {H : Hp} {p n now : Nat} {M : Nat → Mk} {w : Nat → Option Nat} {F : List Asr} (k : Int) (hS : Sat H (sep (wheelI p n now M w :: F))) :
    CallV Try.prog 17 #[(.pointer (some ⟨p, 0, none⟩)), (.int .i64 k)] H fun v H' =>
      v = .bool (whereV n w k).isSome ∧ Sat H' (sep (wheelI p n now M (if (whereV n w k).isSome then upd w k.toNat none else w) :: F)) := by
  have hS0 := hS
  obtain ⟨x, hx, hS⟩ := hS.open
  have rd := whRd hS
  apply wUnset.calls
  unfold wUnset
  simp only [optK_some, add_mk, Nat.zero_add]
  refine ⟨_, rd.p0, (OnW k (whLinks hS)).mono ?_⟩
  rintro v H1 ⟨rfl, rfl⟩
  refine ⟨_, _, rfl, fun h => ?_, fun h => ?_⟩
  · have hn : (whereV n w k).isSome = false := by simpa using h
    rw [hn]
    exact ⟨rfl, hS0⟩
  · have hs : (whereV n w k).isSome = true := by simpa using h
    obtain ⟨l, hl⟩ := Option.isSome_iff_exists.1 hs
    have hk : 0 ≤ k ∧ k < n := by
      unfold whereV at hl
      split at hl
      · assumption
      · cases hl
    obtain ⟨k', rfl⟩ := Int.eq_ofNat_of_zero_le hk.1
    have hkn : k' < n := by omega
    have hwk : w k' = some l := by
      unfold whereV at hl
      rw [if_pos hk] at hl
      exact hl
    rw [hl]
    refine ⟨_, rd.p0, (PullW l k' hwk (whLinks hS)).mono ?_⟩
    rintro v H2 ⟨rfl, hS2⟩
    replace hS2 := whBack hS2
    have rd2 := whRd hS2
    have hsmall := (chainW_wh (whLinks hS2)).small
    simp only [Option.isSome_some, if_true, Int.toNat_natCast]
    refine ⟨_, rfl, fun h => ?_, fun h => ?_⟩
    · have hlt : l < 256 := by have := of_decide_eq_true h; omega
      rw [iquo64 hlt]
      simp only [Int.toNat_natCast, Nat.mul_one]
      refine ⟨by omega, by omega, _, rd_count rd2 (l / 64) (by omega), by omega, by omega, ?_⟩
      have hle := cntP_le n w (isRow (l / 64))
      have hup := cntP_upd (isRow (l / 64)) k' none n w hkn
      rw [hwk, if_pos (isRow_some.2 ⟨hlt, rfl⟩)] at hup
      refine wr_count (l / 64) (by omega) _ hS2 fun H3 hS3 => ⟨trivial, ?_⟩
      refine close_counts hx (fun r hr => ?_) hS3
      rw [cnts_upd _ hkn, hwk]
      unfold upd
      by_cases hrr : r = l / 64
      · subst hrr
        rw [if_pos rfl, if_pos (isRow_some.2 ⟨hlt, rfl⟩)]
        have : cnts n w (l / 64) = (cntP n w (isRow (l / 64)) : Nat) := rfl
        rw [wrap64_id (by omega) (by omega)]
        simp [isRow]
      · rw [if_neg hrr, if_neg (c := isRow r (some l) = true) (fun h => hrr (isRow_some.1 h).2.symm)]
        simp [isRow]
    · have hge : ¬ l < 256 := by have := of_decide_eq_false h; omega
      refine ⟨trivial, close_counts hx (fun r hr => ?_) hS2⟩
      rw [cnts_upd _ hkn, hwk, if_neg (c := isRow r (some l) = true) (fun h => hge (isRow_some.1 h).1)]
      simp [isRow]

end Go.Proofs.Ytlkocnmgpalmnaa
