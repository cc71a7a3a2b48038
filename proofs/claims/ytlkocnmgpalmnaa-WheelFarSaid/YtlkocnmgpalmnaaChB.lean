/- The links of numbers: what the functions of package chain do. -/
import Derived.Test.YtlkocnmgpalmnaaWhF
import Derived.Test.YtlkocnmgpalmnaaChA
import Derived.Test.YtlkocnmgpalmnaaEvM
namespace Go.Proofs.Ytlkocnmgpalmnaa
open Go Go.EV

structure ChX where
  L : Nat → Lnk
  E : Nat → LEnd
  bl : Nat
  be : Nat

def chParts (p n m : Nat) (x : ChX) : List Asr :=
  [blk p [.slice (some ⟨x.bl, 0, none⟩) n n, .slice (some ⟨x.be, 0, none⟩) m m], blk x.bl (flat encL n x.L), blk x.be (flat encE m x.E)]

def chain (p n m : Nat) (Q : Nat → List Nat) (w : Nat → Option Nat) : Asr := exS (fun x : ChX => ChInv n m Q w x.L x.E) (chParts p n m)

/-- What is read of the links' memory. -/
structure ChRd (H : Hp) (p n m : Nat) (x : ChX) : Prop where
  p0 : cellH H ⟨p, 0, none⟩ = some (.slice (some ⟨x.bl, 0, none⟩) n n)
  p1 : cellH H ⟨p, 1, none⟩ = some (.slice (some ⟨x.be, 0, none⟩) m m)
  l0 : ∀ k, k < n → cellH H ⟨x.bl, k * 3, none⟩ = some (.int .i64 (x.L k).list)
  l1 : ∀ k, k < n → cellH H ⟨x.bl, k * 3 + 1, none⟩ = some (.int .i64 (x.L k).prev)
  l2 : ∀ k, k < n → cellH H ⟨x.bl, k * 3 + 2, none⟩ = some (.int .i64 (x.L k).next)
  e0 : ∀ k, k < m → cellH H ⟨x.be, k * 3, none⟩ = some (.int .i64 (x.E k).first)
  e1 : ∀ k, k < m → cellH H ⟨x.be, k * 3 + 1, none⟩ = some (.int .i64 (x.E k).last)
  e2 : ∀ k, k < m → cellH H ⟨x.be, k * 3 + 2, none⟩ = some (.int .i64 (x.E k).count)

theorem chRd {H : Hp} {p n m : Nat} {x : ChX} {F : List Asr} (h : Sat H (sep (chParts p n m x ++ F))) : ChRd H p n m x := by
  have c0 := h.cell 0 rfl
  have c1 := h.cell 1 rfl
  have c2 := h.cell 2 rfl
  refine ⟨c0 0, c0 1, fun k hk => ?_, fun k hk => ?_, fun k hk => ?_, fun k hk => ?_, fun k hk => ?_, fun k hk => ?_⟩
  · rw [c1]; exact flat_get encL_len n x.L k 0 hk (by omega)
  · rw [c1]; exact flat_get encL_len n x.L k 1 hk (by omega)
  · rw [c1]; exact flat_get encL_len n x.L k 2 hk (by omega)
  · rw [c2]; exact flat_get encE_len m x.E k 0 hk (by omega)
  · rw [c2]; exact flat_get encE_len m x.E k 1 hk (by omega)
  · rw [c2]; exact flat_get encE_len m x.E k 2 hk (by omega)

def whereV (n : Nat) (w : Nat → Option Nat) (k : Int) : Option Nat := if 0 ≤ k ∧ k < n then w k.toNat else none

theorem list_of {n m : Nat} {Q : Nat → List Nat} {w : Nat → Option Nat} {L : Nat → Lnk} {E : Nat → LEnd} (h : ChInv n m Q w L E) {k : Nat} (hk : k < n) : (L k).list = toI (w k) := by
  cases hw : w k with
  | none => rw [h.free k hk hw]; rfl
  | some l =>
    obtain ⟨_, hl, hm⟩ := h.on k l hw
    obtain ⟨i, hi⟩ := List.getElem?_of_mem hm
    rw [h.node l i k hl hi]; rfl

theorem On_spec {H : Hp} {p n m : Nat} {Q : Nat → List Nat} {w : Nat → Option Nat} {F : List Asr} (k : Int) (hS : Sat H (sep (chain p n m Q w :: F))) :
    CallV Try.prog 20 #[(.pointer (some ⟨p, 0, none⟩)), (.int .i64 k)] H fun v H' =>
      v = .tuple #[.int .i64 (match whereV n w k with | some l => (l : Int) | none => 0), .bool (whereV n w k).isSome] ∧ H' = H := by
  obtain ⟨x, hx, hS⟩ := hS.open
  have rd := chRd hS
  apply cOn.calls
  unfold cOn whereV
  by_cases h0 : k < 0
  · have hn : ¬ (0 ≤ k) := by omega
    simp [guardM, h0, hn]
  · by_cases h1 : (n : Int) ≤ k
    · have hn : ¬ (k < n) := by omega
      simp [guardM, h0, h1, hn, optK_some, rd.p0, and_assoc]
    · obtain ⟨k', rfl⟩ := Int.eq_ofNat_of_zero_le (by omega : 0 ≤ k)
      have hk : k' < n := by omega
      have hl := list_of hx hk
      cases hw : w k' with
      | none =>
        rw [hw] at hl
        simp [guardM, hk, optK_some, rd.p0, add_mk, rd.l0 k' hk, hl, toI, hw, and_assoc]
      | some l =>
        rw [hw] at hl
        simp [guardM, hk, optK_some, rd.p0, add_mk, rd.l0 k' hk, hl, toI, hw, and_assoc]


theorem Len_spec {H : Hp} {p n m : Nat} {Q : Nat → List Nat} {w : Nat → Option Nat} {F : List Asr} (l : Int) (hS : Sat H (sep (chain p n m Q w :: F))) :
    CallV Try.prog 22 #[(.pointer (some ⟨p, 0, none⟩)), (.int .i64 l)] H fun v H' =>
      v = .int .i64 (if 0 ≤ l ∧ l < m then (((Q l.toNat).length : Nat) : Int) else 0) ∧ H' = H := by
  obtain ⟨x, hx, hS⟩ := hS.open
  have rd := chRd hS
  apply cLen.calls
  unfold cLen
  by_cases h0 : l < 0
  · have hn : ¬ (0 ≤ l) := by omega
    simp [guardM, h0, hn]
  · by_cases h1 : (m : Int) ≤ l
    · have hn : ¬ (l < m) := by omega
      simp [guardM, h0, h1, hn, optK_some, rd.p1, and_assoc, add_mk]
    · obtain ⟨l', rfl⟩ := Int.eq_ofNat_of_zero_le (by omega : 0 ≤ l)
      have hl : l' < m := by omega
      have he : (x.E l').count = ((Q l').length : Nat) := by rw [hx.ends l' hl]
      have hl' : ¬ m ≤ l' := by omega
      simp [guardM, hl, hl', optK_some, rd.p1, add_mk, rd.e2 l' hl, he, and_assoc]

theorem First_spec {H : Hp} {p n m : Nat} {Q : Nat → List Nat} {w : Nat → Option Nat} {F : List Asr} (l : Nat) (hl : l < m) (hS : Sat H (sep (chain p n m Q w :: F))) :
    CallV Try.prog 35 #[(.pointer (some ⟨p, 0, none⟩)), (.int .i64 l)] H fun v H' =>
      v = .tuple #[.int .i64 (match (Q l).head? with | some k => (k : Int) | none => 0), .bool (Q l).head?.isSome] ∧ H' = H := by
  apply cFirst.calls
  unfold cFirst
  refine (Len_spec l hS).mono ?_
  rintro v H' ⟨rfl, rfl⟩
  obtain ⟨x, hx, hS⟩ := hS.open
  have rd := chRd hS
  have he : (x.E l).first = toI (Q l).head? := by rw [hx.ends l hl]
  refine ⟨_, rfl, ?_⟩
  cases hq : Q l with
  | nil => simp [hq]
  | cons a r =>
    rw [hq] at he
    have hne : ¬ ((r.length : Int) + 1 = 0) := by omega
    simp [hq, hl, optK_some, rd.p1, add_mk, rd.e0 l hl, he, and_assoc, toI, hne]

theorem Push_spec {H : Hp} {p n m : Nat} {Q : Nat → List Nat} {w : Nat → Option Nat} {F : List Asr} (l k : Nat) (hl : l < m) (hk : k < n) (hw : w k = none) (hS : Sat H (sep (chain p n m Q w :: F))) :
    CallV Try.prog 33 #[(.pointer (some ⟨p, 0, none⟩)), (.int .i64 l), (.int .i64 k)] H fun v H' =>
      v = .bool true ∧ Sat H' (sep (chain p n m (upd Q l (Q l ++ [k])) (upd w k (some l)) :: F)) := by
  obtain ⟨x, hx, hS⟩ := hS.open
  have rd := chRd hS
  have hlist : (x.L k).list = -1 := by rw [list_of hx hk, hw]; rfl
  have he := hx.ends l hl
  have hlen := hx.len hl
  have hsm := hx.small
  apply cPush.calls
  unfold cPush
  simp [guardM, hl, hk, optK_some, rd.p0, rd.p1, add_mk, rd.l0 k hk, hlist, and_assoc, rd.e1 l hl]
  refine wrR0 encL_len hS 1 rfl k ⟨l, (x.E l).last, -1⟩ hk (by simp) rfl fun H1 hS1 => ?_
  replace hS1 : Sat H1 (sep (chParts p n m { x with L := upd x.L k ⟨l, (x.E l).last, -1⟩ } ++ F)) := hS1
  have rd1 := chRd hS1
  have hel : (x.E l).last = toI (Q l).getLast? := by rw [he]
  have hcount : (x.E l).count = ((Q l).length : Nat) := by rw [he]
  refine ⟨fun _ H' => Sat H' (sep (chParts p n m ⟨pushL x.L Q l k, upd x.E l ⟨if Q l = [] then k else (x.E l).first, (x.E l).last, (x.E l).count⟩, x.bl, x.be⟩ ++ F)), ⟨_, rd1.e1 l hl, ?_, ?_⟩, ?_⟩
  · intro h1
    have hq : (Q l).getLast? = none := toI_eq.1 (hel.symm.trans h1)
    refine wrR0 encE_len hS1 2 rfl l ⟨k, (x.E l).last, (x.E l).count⟩ hl (by simp) rfl fun H2 hS2 => ?_
    rw [pushL_none hq, if_pos (List.getLast?_eq_none_iff.1 hq)]
    have h1' : (x.E l).last = -1 := h1
    rw [h1'] at hS2 ⊢
    exact hS2
  · intro h1
    cases hq : (Q l).getLast? with
    | none => exact absurd (hel.trans (by rw [hq]; rfl)) h1
    | some j =>
      have hjm := List.mem_of_getLast? hq
      have hjn := (hx.mem l j hl hjm).1
      have hlj : (x.E l).last = j := by rw [hel, hq]; rfl
      have e1' : cellH H1 ⟨x.be, l * 3 + 1, none⟩ = some (.int .i64 (x.E l).last) := rd1.e1 l hl
      rw [hlj] at e1'
      refine ⟨_, _, ⟨_, rd1.p0⟩, _, e1', ?_⟩
      simp only [optK_some, add_mk, Int.toNat_natCast, Nat.zero_add]
      refine ⟨by omega, by omega, ?_⟩
      refine wrR encL_len hS1 1 rfl j 2 ⟨(upd x.L k ⟨l, (x.E l).last, -1⟩ j).list, (upd x.L k ⟨l, (x.E l).last, -1⟩ j).prev, k⟩ hjn (by simp) rfl fun H2 hS2 => ?_
      have hne : Q l ≠ [] := fun e => by rw [e] at hq; cases hq
      rw [pushL_some hq, if_neg hne]
      have hE : upd x.E l ⟨(x.E l).first, (x.E l).last, (x.E l).count⟩ = x.E := by
        funext i
        unfold upd
        split
        · rename_i h; subst h; rfl
        · rfl
      rw [hE]
      rw [hlj] at hS2
      exact hS2
  · intro H2 hS2
    refine wrR encE_len hS2 2 rfl l 1 ⟨if Q l = [] then k else (x.E l).first, k, (x.E l).count⟩ hl (by simp) (by dsimp only; rw [upd_self]; rfl) fun H3 hS3 => ?_
    replace hS3 : Sat H3 (sep (chParts p n m ⟨pushL x.L Q l k, upd (upd x.E l ⟨if Q l = [] then k else (x.E l).first, (x.E l).last, (x.E l).count⟩) l ⟨if Q l = [] then k else (x.E l).first, k, (x.E l).count⟩, x.bl, x.be⟩ ++ F)) := hS3
    refine ⟨_, (chRd hS3).e2 l hl, ?_⟩
    refine wrR encE_len hS3 2 rfl l 2 ⟨if Q l = [] then k else (x.E l).first, k, (x.E l).count + 1⟩ hl (by simp) ?_ fun H4 hS4 => ?_
    · simp only [upd_self]
      rw [wrap64_id (by omega) (by omega)]; rfl
    · refine Sat.close (l := chParts p n m) ⟨pushL x.L Q l k, pushE x.E Q l k, x.bl, x.be⟩ (hx.push hl hk hw) ?_
      have hE : upd (upd (upd x.E l ⟨if Q l = [] then k else (x.E l).first, (x.E l).last, (x.E l).count⟩) l ⟨if Q l = [] then k else (x.E l).first, k, (x.E l).count⟩) l ⟨if Q l = [] then k else (x.E l).first, k, (x.E l).count + 1⟩ = pushE x.E Q l k := by
        funext i
        unfold pushE upd
        split <;> rfl
      rw [← hE]
      exact hS4


theorem Pull_spec {H : Hp} {p n m : Nat} {Q : Nat → List Nat} {w : Nat → Option Nat} {F : List Asr} (l k : Nat) (hw : w k = some l) (hS : Sat H (sep (chain p n m Q w :: F))) :
    CallV Try.prog 26 #[(.pointer (some ⟨p, 0, none⟩)), (.int .i64 k)] H fun v H' =>
      v = .bool true ∧ Sat H' (sep (chain p n m (upd Q l ((Q l).erase k)) (upd w k none) :: F)) := by
  apply cPull.calls
  unfold cPull
  refine (On_spec (k : Int) hS).mono ?_
  rintro v H' ⟨rfl, rfl⟩
  obtain ⟨x, hx, hS⟩ := hS.open
  obtain ⟨hk, hl, hm⟩ := hx.on k l hw
  obtain ⟨i, hi⟩ := List.getElem?_of_mem hm
  have hn := hx.node l i k hl hi
  have he := hx.ends l hl
  have hlen := hx.len hl
  have hsm := hx.small
  have hilt : i < (Q l).length := (List.getElem?_eq_some_iff.1 hi).1
  have hwh : whereV n w k = some l := by simp [whereV, hk, hw]
  have rd : ∀ H'', Sat H'' (sep (chParts p n m x ++ F)) → ChRd H'' p n m x := fun H'' h => chRd h
  have hnl : (x.L k).list = l := by rw [hn]
  -- the neighbours
  have hpn : ∀ a, prevOf (Q l) i = some a → a < n := fun a ha => by
    unfold prevOf at ha
    split at ha
    · cases ha
    · exact (hx.mem l a hl (List.mem_of_getElem? ha)).1
  have hqn : ∀ a, (Q l)[i + 1]? = some a → a < n := fun a ha => (hx.mem l a hl (List.mem_of_getElem? ha)).1
  generalize hp0 : prevOf (Q l) i = p0 at *
  generalize hq0 : (Q l)[i + 1]? = q0 at *
  rw [hwh]
  refine ⟨_, _, rfl, fun h => (by cases h), fun _ => ⟨fun H'' => Sat H'' (sep (chParts p n m x ++ F)), hS, hS, some ⟨x.bl, 0, none⟩, n, n, fun H'' h => (rd H'' h).p0, ?_⟩⟩
  simp only [optK_some, add_mk, Int.toNat_natCast, Nat.zero_add]
  refine ⟨by omega, by omega, hS, l, fun H'' h => hnl ▸ (rd H'' h).l0 k hk, toI p0, fun H'' h => by have := (rd H'' h).l1 k hk; rwa [hn] at this, toI q0, fun H'' h => by have := (rd H'' h).l2 k hk; rwa [hn] at this, hS, some ⟨x.be, 0, none⟩, m, m, fun H'' h => (rd H'' h).p1, ?_⟩
  simp only [optK_some, add_mk, Nat.zero_add]
  refine ⟨by omega, by omega, nw_at (cs := [_, _, _]) hS fun r H1 hS1 => ⟨hS1.drop, wr hS1 0 rfl (by simp) fun H2 hS2 => ?_⟩⟩
  replace hS2 : Sat H2 (sep (blk r [.int .i64 l, .int .i64 (toI p0), .int .i64 (toI q0)] :: (chParts p n m x ++ F))) := hS2
  have c2 := hS2.cell 0 rfl
  have rd2 := chRd hS2.drop
  refine ⟨hS2.drop, fun _ H' => Sat H' (sep (blk r [.int .i64 l, .int .i64 (toI p0), .int .i64 (toI q0)] :: (chParts p n m ⟨pullL1 x.L p0 q0, upd x.E l ⟨if p0 = none then toI q0 else (x.E l).first, (x.E l).last, (x.E l).count⟩, x.bl, x.be⟩ ++ F))), ?_, ?_⟩
  · refine ⟨_, c2 1, fun h1 => ?_, fun h1 => ?_⟩
    · have hpz : p0 = none := toI_eq.1 (by simpa using h1)
      subst hpz
      refine ⟨_, c2 2, wrR0 encE_len hS2 3 rfl l ⟨toI q0, (x.E l).last, (x.E l).count⟩ hl (by simp) rfl fun H3 hS3 => hS3⟩
    · cases p0 with
      | none => simp [toI] at h1
      | some a =>
        have ha := hpn a rfl
        refine ⟨_, _, _, rd2.p0, _, c2 1, _, c2 2, ?_⟩
        simp only [toI_some, optK_some, add_mk, Int.toNat_natCast, Nat.zero_add]
        refine ⟨by omega, by omega, wrR encL_len hS2 2 rfl a 2 ⟨(x.L a).list, (x.L a).prev, toI q0⟩ ha (by simp) rfl fun H3 hS3 => ?_⟩
        have hE : upd x.E l ⟨(x.E l).first, (x.E l).last, (x.E l).count⟩ = x.E := by
          funext i
          unfold upd
          split
          · rename_i h; subst h; rfl
          · rfl
        rw [if_neg (by simp), hE]
        exact hS3
  · intro H3 hS3
    have c3 := hS3.cell 0 rfl
    have rd3 := chRd hS3.drop
    refine ⟨fun _ H' => Sat H' (sep (blk r [.int .i64 l, .int .i64 (toI p0), .int .i64 (toI q0)] :: (chParts p n m ⟨pullL2 (pullL1 x.L p0 q0) p0 q0, upd x.E l ⟨if p0 = none then toI q0 else (x.E l).first, if q0 = none then toI p0 else (x.E l).last, (x.E l).count⟩, x.bl, x.be⟩ ++ F))), ?_, ?_⟩
    · have hE2 : ∀ a b c d : Int, upd (upd x.E l ⟨a, b, c⟩) l ⟨a, d, c⟩ = upd x.E l ⟨a, d, c⟩ := fun a b c d => by
        funext i
        unfold upd
        split <;> rfl
      refine ⟨_, c3 2, fun h1 => ?_, fun h1 => ?_⟩
      · have hqz : q0 = none := toI_eq.1 (by simpa using h1)
        subst hqz
        refine ⟨_, c3 1, wrR encE_len hS3 3 rfl l 1 ⟨if p0 = none then toI none else (x.E l).first, toI p0, (x.E l).count⟩ hl (by simp) (by dsimp only; rw [upd_self]; rfl) fun H4 hS4 => ?_⟩
        rw [if_pos rfl, ← hE2 _ (x.E l).last]
        exact hS4
      · cases q0 with
        | none => simp [toI] at h1
        | some b =>
          have hb := hqn b rfl
          refine ⟨_, _, _, rd3.p0, _, c3 2, _, c3 1, ?_⟩
          simp only [toI_some, optK_some, add_mk, Int.toNat_natCast, Nat.zero_add]
          refine ⟨by omega, by omega, wrR encL_len hS3 2 rfl b 1 ⟨(pullL1 x.L p0 (some b) b).list, toI p0, (pullL1 x.L p0 (some b) b).next⟩ hb (by simp) rfl fun H4 hS4 => ?_⟩
          rw [if_neg (c := some b = none) (by simp)]
          exact hS4
    · intro H4 hS4
      have rd4 := chRd hS4.drop
      refine ⟨_, rd4.e2 l hl, ?_⟩
      refine wrR encE_len hS4 3 rfl l 2 ⟨if p0 = none then toI q0 else (x.E l).first, if q0 = none then toI p0 else (x.E l).last, (x.E l).count - 1⟩ hl (by simp) ?_ fun H5 hS5 => ?_
      · dsimp only
        rw [upd_self]
        have : (x.E l).count = ((Q l).length : Nat) := by rw [he]
        dsimp only
        rw [wrap64_id (by omega) (by omega)]; rfl
      · have hE : upd (upd x.E l ⟨if p0 = none then toI q0 else (x.E l).first, if q0 = none then toI p0 else (x.E l).last, (x.E l).count⟩) l ⟨if p0 = none then toI q0 else (x.E l).first, if q0 = none then toI p0 else (x.E l).last, (x.E l).count - 1⟩ = pullEnds x.E l p0 q0 := by
          funext i
          unfold pullEnds upd
          split <;> rfl
        replace hS5 : Sat H5 (sep (blk r [.int .i64 l, .int .i64 (toI p0), .int .i64 (toI q0)] :: (chParts p n m ⟨pullL2 (pullL1 x.L p0 q0) p0 q0, pullEnds x.E l p0 q0, x.bl, x.be⟩ ++ F))) := by
          rw [← hE]; exact hS5
        have rd5 := chRd hS5.drop
        refine ⟨_, _, _, rd5.p0, ?_⟩
        simp only [optK_some, add_mk, Nat.zero_add]
        refine ⟨by omega, by omega, wrR0 encL_len hS5 2 rfl k ⟨-1, -1, -1⟩ hk (by simp) rfl fun H6 hS6 => ⟨trivial, ?_⟩⟩
        have hpull := hx.pull hl hi
        rw [hp0, hq0] at hpull
        refine Sat.close (l := chParts p n m) ⟨pullL x.L k p0 q0, pullEnds x.E l p0 q0, x.bl, x.be⟩ hpull ?_
        exact hS6.drop


theorem tInts : Try.prog.underlying 28 = some (.slice 3) := by kernel_rfl
theorem iInt : (Try.prog.info? 3).map (fun i => (i.zero, i.size, i.bytes)) = some (some (.int .i64 0), 1, 8) := by kernel_rfl

theorem info_of {P : Program} {t : TypeId} {z : Value} {s b : Nat} (h : (P.info? t).map (fun i => (i.zero, i.size, i.bytes)) = some (some z, s, b)) : ∃ i, P.info? t = some i ∧ i.zero = some z ∧ i.size = s ∧ i.bytes = b := by
  cases hi : P.info? t with
  | none => rw [hi] at h; cases h
  | some i =>
    rw [hi] at h
    simp at h
    exact ⟨i, rfl, h.1, h.2.1, h.2.2⟩

/-- One more number behind a slice of numbers that owns its memory. -/
theorem append_int {H : Hp} {l : List Asr} (h : Sat H (sep l)) (i : Nat) {a : Option Addr} {n c : Nat} {cs : List Value} (hio : l[i]? = some (own a n c 1 cs)) {r : Nat} {k : Int} (hr : cellH H ⟨r, 0, none⟩ = some (.int .i64 k)) (hb : n ≤ 1000000) {K : Value → Hp → Prop}
    (hk : ∀ a' c' H', Sat H' (sep (l.set i (own a' (n + 1) c' 1 (cs ++ [.int .i64 k])))) → K (.slice a' (n + 1) c') H') :
    hw Try.prog (Builtin.append_ #[28, 28] 28 #[.slice a n c, .slice (some ⟨r, 0, none⟩) 1 1]) K H := by
  obtain ⟨inf, hi, hz, hs, hbb⟩ := info_of iInt
  have hsrc : Src H inf.size (.slice (some ⟨r, 0, none⟩) 1 1) 1 [.int .i64 k] := ⟨by rw [hs]; rfl, rfl, fun j v hv => ?_⟩
  exact append_at tInts hi hz (by rw [hs]; rfl) h i (by rw [hs]; exact hio) (m := 1) (vs := [.int .i64 k]) hsrc rfl (by rw [hbb]; omega) (by omega) (by rw [hs]; exact hk)
  cases j with
  | zero =>
    simp at hv
    subst hv
    rw [add_mk]
    exact hr
  | succ j => simp at hv

theorem All_spec {H : Hp} {p n m : Nat} {Q : Nat → List Nat} {w : Nat → Option Nat} {F : List Asr} (l : Nat) (hl : l < m) (hS : Sat H (sep (chain p n m Q w :: F))) :
    CallV Try.prog 25 #[(.pointer (some ⟨p, 0, none⟩)), (.int .i64 l)] H fun v H' =>
      ∃ a c, v = .slice a (Q l).length c ∧ Sat H' (sep (own a (Q l).length c 1 (ints (Q l)) :: chain p n m Q w :: F)) := by
  apply cAll.calls
  unfold cAll
  refine (First_spec l hl hS).mono ?_
  rintro v H0 ⟨rfl, rfl⟩
  obtain ⟨x, hx, hS⟩ := hS.open
  have hlen := hx.len hl
  have hsm := hx.small
  refine ⟨_, _, rfl, fun vs H' => match vs with
    | [.int _ k, .slice a ln c] => (Q l ≠ [] → k = toI (Q l)[ln]?) ∧ ln ≤ (Q l).length ∧ Sat H' (sep (own a ln c 1 (ints ((Q l).take ln)) :: (chParts p n m x ++ F)))
    | _ => False, fun vs _ => match vs with
    | [_, .slice _ ln _] => (Q l).length - ln
    | _ => 0, ?_, ?_⟩
  · refine ⟨fun hne => ?_, Nat.zero_le _, hS.add (own_none 1)⟩
    obtain ⟨a, r, hr⟩ := List.exists_cons_of_ne_nil hne
    rw [hr]; rfl
  · rintro k a ln c H1 ⟨hk, hln, hS1⟩
    dsimp only
    by_cases hq : Q l = []
    · rw [hq] at hln hS1 ⊢
      have : ln = 0 := by simpa using hln
      subst this
      simp only [List.head?_nil, Option.isSome_none, guardM, Bool.false_eq_true, if_false, Bool.not_true, Bool.false_eq_true, false_implies, true_and, forall_const]
      refine ⟨a, c, rfl, ?_⟩
      exact (Sat.close (l := chParts p n m) (F := own a 0 c 1 (ints []) :: F) x hx (hS1.perm (by simpa using List.perm_middle.symm))).perm (List.Perm.swap _ _ _)
    · have hk := hk hq
      have hsome : (Q l).head?.isSome = true := by
        obtain ⟨b, r, hr⟩ := List.exists_cons_of_ne_nil hq
        rw [hr]; rfl
      rw [hsome]
      unfold guardM
      rw [if_pos rfl]
      rcases Nat.lt_or_ge ln (Q l).length with hlt | hge
      · have hget := List.getElem?_eq_getElem hlt
        generalize (Q l)[ln] = kk at hget
        rw [hget, toI_some] at hk
        subst hk
        have hne : (((kk : Int) != -1) : Bool) = true := by simp
        rw [hne]
        refine ⟨fun _ => ?_, fun h => (by cases h)⟩
        have hkm := List.mem_of_getElem? hget
        have hkn := (hx.mem l kk hl hkm).1
        refine nw_at (cs := [_]) hS1 fun r H2 hS2 => ?_
        refine append_int hS2 1 rfl (hS2.cell 0 rfl 0) (by omega) fun a' c' H3 hS3 => ?_
        replace hS3 : Sat H3 (sep (blk r [.int .i64 kk] :: own a' (ln + 1) c' 1 (ints ((Q l).take ln) ++ [.int .i64 kk]) :: (chParts p n m x ++ F))) := hS3
        have rd := chRd hS3.drop.drop
        refine ⟨_, _, _, rfl, ?_⟩
        simp only [optK_some]
        refine ⟨_, _, _, rd.p0, ?_⟩
        simp only [optK_some, add_mk, Int.toNat_natCast, Nat.zero_add]
        have hnode := hx.node l ln kk hl hget
        refine ⟨by omega, by omega, _, rd.l2 kk hkn, ⟨fun _ => by rw [hnode], hlt, ?_⟩, by omega⟩
        have htake : ints ((Q l).take (ln + 1)) = ints ((Q l).take ln) ++ [.int .i64 kk] := by
          unfold ints
          rw [List.take_add_one, hget]
          simp
        rw [htake]
        exact hS3.drop
      · have : ln = (Q l).length := by omega
        subst this
        rw [List.getElem?_eq_none (Nat.le_refl _), toI_none] at hk
        subst hk
        refine ⟨fun h => (by cases h), fun _ => ⟨a, c, rfl, ?_⟩⟩
        rw [List.take_length] at hS1
        exact (Sat.close (l := chParts p n m) (F := own a (Q l).length c 1 (ints (Q l)) :: F) x hx (hS1.perm (by simpa using List.perm_middle.symm))).perm (List.Perm.swap _ _ _)


theorem tLinks : Try.prog.underlying 64 = some (.slice 69) := by kernel_rfl
theorem iLink : (Try.prog.info? 69).map (fun i => (i.zero, i.size, i.bytes)) = some (some (.agg #[.int .i64 0, .int .i64 0, .int .i64 0]), 3, 24) := by kernel_rfl
theorem tEnds : Try.prog.underlying 65 = some (.slice 71) := by kernel_rfl
theorem iEnds : (Try.prog.info? 71).map (fun i => (i.zero, i.size, i.bytes)) = some (some (.agg #[.int .i64 0, .int .i64 0, .int .i64 0]), 3, 24) := by kernel_rfl

theorem make_links {H : Hp} {l : List Asr} (h : Sat H (sep l)) (n : Nat) (hn : n ≤ 4096) {K : Value → Hp → Prop} (k : ∀ b H', Sat H' (sep (blk b (flat encL n fun _ => ⟨0, 0, 0⟩) :: l)) → K (.slice (some ⟨b, 0, none⟩) n n) H') :
    hw Try.prog (Instr.makeSlice 64 (.int .i64 n) (.int .i64 n)) K H := by
  obtain ⟨inf, hi, hz, hs, hbb⟩ := info_of iLink
  exact make_at (enc := encL) ⟨0, 0, 0⟩ tLinks hi hz (by rw [hs]; exact encL_len) rfl h (by omega) (by omega) (by rw [hbb]; omega) k

theorem make_ends {H : Hp} {l : List Asr} (h : Sat H (sep l)) (n : Nat) (hn : n ≤ 4096) {K : Value → Hp → Prop} (k : ∀ b H', Sat H' (sep (blk b (flat encE n fun _ => ⟨0, 0, 0⟩) :: l)) → K (.slice (some ⟨b, 0, none⟩) n n) H') :
    hw Try.prog (Instr.makeSlice 65 (.int .i64 n) (.int .i64 n)) K H := by
  obtain ⟨inf, hi, hz, hs, hbb⟩ := info_of iEnds
  exact make_at (enc := encE) ⟨0, 0, 0⟩ tEnds hi hz (by rw [hs]; exact encE_len) rfl h (by omega) (by omega) (by rw [hbb]; omega) k

theorem clamp_id {n : Nat} (hn : n ≤ 4096) : imax 0 (imin n 4096) = n := by
  unfold imax imin
  split <;> split <;> omega

theorem ChInv.new (n m : Nat) (hn : n ≤ 4096) (hm : m ≤ 4096) : ChInv n m (fun _ => []) (fun _ => none) (fun _ => ⟨-1, -1, -1⟩) (fun _ => ⟨-1, -1, 0⟩) :=
  ⟨⟨hn, hm⟩, fun _ _ _ h => (by cases h), fun _ _ h => (by cases h), fun _ _ => List.nodup_nil, fun _ _ _ => rfl, fun _ _ _ _ h => (by simp at h), fun _ _ => rfl⟩

theorem New_spec {H : Hp} {F : List Asr} (n m : Nat) (hn : n ≤ 4096) (hm : m ≤ 4096) (hS : Sat H (sep F)) :
    CallV Try.prog 19 #[(.int .i64 n), (.int .i64 m)] H fun v H' =>
      ∃ p, v = .pointer (some ⟨p, 0, none⟩) ∧ Sat H' (sep (chain p n m (fun _ => []) (fun _ => none) :: F)) := by
  apply cNew.calls
  unfold cNew
  rw [clamp_id hn, clamp_id hm]
  refine ⟨fun vs H' => ∃ p bl be, vs = [.pointer (some ⟨p, 0, none⟩)] ∧ Sat H' (sep (chParts p n m ⟨fun _ => ⟨0, 0, 0⟩, fun _ => ⟨0, 0, 0⟩, bl, be⟩ ++ F)), ⟨?_, ?_, trivial⟩, ?_⟩
  · refine make_links hS n hn fun bl H1 hS1 => ⟨_, _, _, rfl, ?_, trivial⟩
    refine make_ends hS1 m hm fun be H2 hS2 => ⟨_, _, _, rfl, ?_, trivial⟩
    refine nw_at (cs := [_, _]) hS2 fun p H3 hS3 => ⟨p, bl, be, rfl, ?_⟩
    exact hS3.perm (.cons _ (.swap _ _ _))
  · refine make_ends hS m hm fun be H1 hS1 => ⟨_, _, _, rfl, ?_, trivial⟩
    refine make_links hS1 n hn fun bl H2 hS2 => ⟨_, _, _, rfl, ?_, trivial⟩
    exact nw_at (cs := [_, _]) hS2 fun p H3 hS3 => ⟨p, bl, be, rfl, hS3⟩
  · rintro q H1 ⟨p, bl, be, he, hS1⟩
    cases he
    refine ⟨_, _, _, (chRd hS1).p0, fun vs H' => match vs with
      | [.int _ k] => ∃ i : Nat, k = i ∧ i ≤ n ∧ Sat H' (sep (chParts p n m ⟨fun j => if j < i then ⟨-1, -1, -1⟩ else ⟨0, 0, 0⟩, fun _ => ⟨0, 0, 0⟩, bl, be⟩ ++ F))
      | _ => False, fun vs _ => match vs with
      | [.int _ k] => n - k.toNat
      | _ => 0, ⟨0, rfl, Nat.zero_le _, by simpa using hS1⟩, ?_⟩
    rintro k H2 ⟨i, rfl, hin, hS2⟩
    dsimp only
    refine ⟨fun h => ?_, fun h => ?_⟩
    · have hlt : i < n := by simpa using h
      refine ⟨_, _, _, (chRd hS2).p0, ?_⟩
      simp only [optK_some, add_mk, Int.toNat_natCast, Nat.zero_add]
      refine ⟨by omega, by omega, wrR0 encL_len hS2 1 rfl i ⟨-1, -1, -1⟩ hlt (by simp) rfl fun H3 hS3 => ?_⟩
      rw [wrap64_id (by omega) (by omega)]
      refine ⟨⟨i + 1, by omega, hlt, ?_⟩, by omega⟩
      have hf : (upd (fun j => if j < i then (⟨-1, -1, -1⟩ : Lnk) else ⟨0, 0, 0⟩) i ⟨-1, -1, -1⟩) = fun j => if j < i + 1 then ⟨-1, -1, -1⟩ else ⟨0, 0, 0⟩ := upd_fill _ _ _
      rw [← hf]
      exact hS3
    · have hge : i = n := by have : ¬ (i < n) := by simpa using h
                             omega
      subst hge
      refine ⟨_, _, _, (by rw [add_mk]; exact (chRd hS2).p1), fun vs H' => match vs with
        | [.int _ k] => ∃ j : Nat, k = j ∧ j ≤ m ∧ Sat H' (sep (chParts p i m ⟨fun j => if j < i then ⟨-1, -1, -1⟩ else ⟨0, 0, 0⟩, fun r => if r < j then ⟨-1, -1, 0⟩ else ⟨0, 0, 0⟩, bl, be⟩ ++ F))
        | _ => False, fun vs _ => match vs with
        | [.int _ k] => m - k.toNat
        | _ => 0, ⟨0, rfl, Nat.zero_le _, by simpa using hS2⟩, ?_⟩
      rintro k H3 ⟨j, rfl, hjm, hS3⟩
      dsimp only
      refine ⟨fun h => ?_, fun h => ?_⟩
      · have hlt : j < m := by simpa using h
        refine ⟨_, _, _, (by rw [add_mk]; exact (chRd hS3).p1), ?_⟩
        simp only [optK_some, add_mk, Int.toNat_natCast, Nat.zero_add]
        refine ⟨by omega, by omega, wrR0 encE_len hS3 2 rfl j ⟨-1, -1, 0⟩ hlt (by simp) rfl fun H4 hS4 => ?_⟩
        rw [wrap64_id (by omega) (by omega)]
        refine ⟨⟨j + 1, by omega, hlt, ?_⟩, by omega⟩
        have hf : (upd (fun r => if r < j then (⟨-1, -1, 0⟩ : LEnd) else ⟨0, 0, 0⟩) j ⟨-1, -1, 0⟩) = fun r => if r < j + 1 then ⟨-1, -1, 0⟩ else ⟨0, 0, 0⟩ := upd_fill _ _ _
        rw [← hf]
        exact hS4
      · have hge : j = m := by have : ¬ (j < m) := by simpa using h
                               omega
        subst hge
        refine ⟨p, rfl, Sat.close (l := chParts p i j) ⟨_, _, bl, be⟩ ?_ hS3⟩
        have hnew := ChInv.new i j hn hm
        refine ⟨hnew.small, hnew.mem, hnew.on, hnew.nodup, fun k hk hw => ?_, fun _ _ _ _ h => (by simp at h), fun l hl => ?_⟩
        · simp [hk]
        · simp [hl, toI]

end Go.Proofs.Ytlkocnmgpalmnaa
