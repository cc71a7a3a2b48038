/- The wheel as who calls it knows it: the hour and, of each number, its alarm. -/
import Derived.Test.YtlkocnmgpalmnaaWhU
namespace Go.Proofs.Ytlkocnmgpalmnaa
open Go Go.EV

structure WhA where
  M : Nat → Mk
  w : Nat → Option Nat

structure AbsW (n now : Nat) (A : Nat → Option Mk) (X : WhA) : Prop where
  good : AllP X.w X.M (EV.Good now)
  is : ∀ k, A k = if (X.w k).isSome then some (X.M k) else none

/-- A wheel of n numbers at an hour, with what is set. -/
def wheelA (p n now : Nat) (A : Nat → Option Mk) : Asr := exS (AbsW n now A) fun X => [wheelI p n now X.M X.w]

structure AbsOk (n now : Nat) (A : Nat → Option Mk) : Prop where
  small : n ≤ 4096
  hour : now < 18446744073709551616
  on : ∀ k x, A k = some x → k < n ∧ x.at_ < 18446744073709551616 ∧ x.turn < 18446744073709551616

theorem closeA {H : Hp} {p n now : Nat} {A : Nat → Option Mk} {F : List Asr} (M : Nat → Mk) (w : Nat → Option Nat) (hg : AllP w M (EV.Good now)) (his : ∀ k, A k = if (w k).isSome then some (M k) else none)
    (h : Sat H (sep (wheelI p n now M w :: F))) : Sat H (sep (wheelA p n now A :: F)) :=
  Sat.close (φ := AbsW n now A) (l := fun X : WhA => [wheelI p n now X.M X.w]) ⟨M, w⟩ ⟨hg, his⟩ h

theorem AbsW.some_ {n now : Nat} {A : Nat → Option Mk} {X : WhA} (h : AbsW n now A X) (k : Nat) : (A k).isSome = (X.w k).isSome := by
  rw [h.is]
  cases hw : X.w k with
  | none => rfl
  | some l => rfl

theorem wheelA_ok {H : Hp} {p n now : Nat} {A : Nat → Option Mk} {F : List Asr} (hS : Sat H (sep (wheelA p n now A :: F))) : AbsOk n now A := by
  obtain ⟨X, hX, hS⟩ := hS.open
  obtain ⟨hw, hs⟩ := wheel_wh (F := F) hS
  refine ⟨hw.small.1, hs.now, fun k x hk => ?_⟩
  rw [hX.is] at hk
  split at hk
  next h =>
    obtain ⟨l, hl⟩ := Option.isSome_iff_exists.1 h
    cases hk
    exact ⟨(hw.on k l hl).1, hs.at_ k, hs.turn k⟩
  next => cases hk

/-- The alarm of a number. -/
def getA (n : Nat) (A : Nat → Option Mk) (k : Int) : Option Mk := if 0 ≤ k ∧ k < n then A k.toNat else none

theorem AbsW.where_ {n now : Nat} {A : Nat → Option Mk} {X : WhA} (h : AbsW n now A X) (k : Int) : (whereV n X.w k).isSome = (getA n A k).isSome := by
  unfold whereV getA
  split
  · rw [h.some_]
  · rfl

theorem NowA {H : Hp} {p n now : Nat} {A : Nat → Option Mk} {F : List Asr} (hS : Sat H (sep (wheelA p n now A :: F))) :
    CallV Try.prog 15 #[(.pointer (some ⟨p, 0, none⟩))] H fun v H' => v = .int .u64 now ∧ H' = H := by
  obtain ⟨X, hX, hS⟩ := hS.open
  exact Now_spec (F := F) hS

theorem SetA {H : Hp} {p n now : Nat} {A : Nat → Option Mk} {F : List Asr} (k : Int) (t u : Nat) (ht : t < 18446744073709551616) (hu : u < 18446744073709551616) (hS : Sat H (sep (wheelA p n now A :: F))) :
    CallV Try.prog 11 #[(.pointer (some ⟨p, 0, none⟩)), (.int .i64 k), (.int .u64 t), (.int .u64 u)] H fun v H' =>
      (v = .bool false ∧ H' = H ∧ ¬ (0 ≤ k ∧ k < n ∧ A k.toNat = none)) ∨
      (v = .bool true ∧ 0 ≤ k ∧ k < n ∧ A k.toNat = none ∧ Sat H' (sep (wheelA p n now (upd A k.toNat (some ⟨t, u⟩)) :: F))) := by
  obtain ⟨X, hX, hS⟩ := hS.open
  have hn : ∀ j, A j = none ↔ X.w j = none := fun j => by
    have := hX.some_ j
    cases h1 : A j <;> cases h2 : X.w j <;> simp_all
  refine (Set_spec (F := F) k t u ht hu hS).mono fun v H' h => ?_
  rcases h with ⟨h1, h2, h3⟩ | ⟨h1, h2, h3, h4, h5⟩
  · exact .inl ⟨h1, h2, by rw [hn]; exact h3⟩
  · refine .inr ⟨h1, h2, h3, (hn _).2 h4, closeA _ _ (fun j l hj => ?_) (fun j => ?_) h5⟩
    · by_cases hjk : j = k.toNat
      · subst hjk
        rw [upd_self] at hj ⊢
        cases hj
        exact place_good _ _
      · rw [upd_ne _ _ hjk] at hj ⊢
        exact hX.good j l hj
    · by_cases hjk : j = k.toNat
      · subst hjk
        rw [upd_self, upd_self, upd_self]; rfl
      · rw [upd_ne _ _ hjk, upd_ne _ _ hjk, upd_ne _ _ hjk]
        exact hX.is j

theorem UnsetA {H : Hp} {p n now : Nat} {A : Nat → Option Mk} {F : List Asr} (k : Int) (hS : Sat H (sep (wheelA p n now A :: F))) :
    CallV Try.prog 17 #[(.pointer (some ⟨p, 0, none⟩)), (.int .i64 k)] H fun v H' =>
      v = .bool (getA n A k).isSome ∧ Sat H' (sep (wheelA p n now (if (getA n A k).isSome then upd A k.toNat none else A) :: F)) := by
  obtain ⟨X, hX, hS⟩ := hS.open
  refine (Unset_spec (F := F) k hS).mono fun v H' h => ?_
  rw [hX.where_] at h
  refine ⟨h.1, closeA X.M _ (fun j l hj => ?_) (fun j => ?_) h.2⟩
  · split at hj
    · by_cases hjk : j = k.toNat
      · subst hjk
        rw [upd_self] at hj; cases hj
      · rw [upd_ne _ _ hjk] at hj
        exact hX.good j l hj
    · exact hX.good j l hj
  · split
    · by_cases hjk : j = k.toNat
      · subst hjk
        rw [upd_self, upd_self]; rfl
      · rw [upd_ne _ _ hjk, upd_ne _ _ hjk]
        exact hX.is j
    · exact hX.is j

def atA (o : Option Mk) : Value := match o with
  | some x => .tuple #[.int .u64 x.at_, .int .u64 x.turn, .bool true]
  | none => .tuple #[.int .u64 0, .int .u64 0, .bool false]

theorem AtA {H : Hp} {p n now : Nat} {A : Nat → Option Mk} {F : List Asr} (k : Int) (hS : Sat H (sep (wheelA p n now A :: F))) :
    CallV Try.prog 16 #[(.pointer (some ⟨p, 0, none⟩)), (.int .i64 k)] H fun v H' => v = atA (getA n A k) ∧ H' = H := by
  obtain ⟨X, hX, hS⟩ := hS.open
  refine (At_spec (F := F) k hS).mono fun v H' h => ⟨h.1.trans ?_, h.2⟩
  unfold atV
  rw [hX.where_]
  cases hg : getA n A k with
  | none => rfl
  | some x =>
    simp only [Option.isSome_some, if_true]
    unfold getA at hg
    split at hg
    · rw [hX.is] at hg
      split at hg
      · cases hg; rfl
      · cases hg
    · cases hg

/-- How many are set. -/
def cntA (n : Nat) (A : Nat → Option Mk) : Nat := ((List.range n).filter fun k => (A k).isSome).length

theorem LenA {H : Hp} {p n now : Nat} {A : Nat → Option Mk} {F : List Asr} (hS : Sat H (sep (wheelA p n now A :: F))) :
    CallV Try.prog 13 #[(.pointer (some ⟨p, 0, none⟩))] H fun v H' => v = .int .i64 (cntA n A : Nat) ∧ H' = H := by
  obtain ⟨X, hX, hS⟩ := hS.open
  refine (Len_specW (F := F) hS).mono fun v H' h => ⟨h.1.trans ?_, h.2⟩
  have : cntP n X.w (fun x => x.isSome) = cntA n A := by
    unfold cntP cntA
    congr 1
    exact List.filter_congr fun k _ => (hX.some_ k).symm
  rw [this]

def FirstA (A : Nat → Option Mk) (m : Nat) (b : Bool) : Prop :=
  (b = false ∧ m = 0 ∧ ∀ k, A k = none) ∨ (b = true ∧ (∃ k x, A k = some x ∧ x.at_ = m) ∧ ∀ k x, A k = some x → m ≤ x.at_)

theorem FirstA_spec {H : Hp} {p n now : Nat} {A : Nat → Option Mk} {F : List Asr} (hS : Sat H (sep (wheelA p n now A :: F))) :
    CallV Try.prog 18 #[(.pointer (some ⟨p, 0, none⟩))] H fun v H' => (∃ (m : Nat) (b : Bool), v = .tuple #[.int .u64 m, .bool b] ∧ FirstA A m b) ∧ H' = H := by
  have hok := wheelA_ok hS
  obtain ⟨X, hX, hS⟩ := hS.open
  refine (First_specW (F := F) hS).mono fun v H' ⟨⟨m, b, h1, h2⟩, h3⟩ => ⟨⟨m, b, h1, ?_⟩, h3⟩
  rcases h2 with ⟨rfl, rfl, h⟩ | ⟨rfl, ⟨k, hk, hs, he⟩, hle⟩
  · refine .inl ⟨rfl, rfl, fun k => ?_⟩
    cases hA : A k with
    | none => rfl
    | some x =>
      have hk := (hok.on k x hA).1
      have := hX.some_ k
      rw [hA, h k hk] at this
      cases this
  · refine .inr ⟨rfl, ⟨k, X.M k, by rw [hX.is, if_pos hs], he⟩, fun j x hj => ?_⟩
    have hjn := (hok.on j x hj).1
    rw [hX.is] at hj
    split at hj
    next hjs => cases hj; exact hle j hjn hjs
    next => cases hj

/-- What is due by an hour, in order. -/
structure DueA (A : Nat → Option Mk) (to : Nat) (q : List Nat) : Prop where
  mem : ∀ k, k ∈ q ↔ ∃ x, A k = some x ∧ x.at_ ≤ to
  sorted : q.Pairwise fun i j => ∃ x y, A i = some x ∧ A j = some y ∧ (x.at_ < y.at_ ∨ (x.at_ = y.at_ ∧ (x.turn < y.turn ∨ (x.turn = y.turn ∧ i < j))))

/-- Behind it those are set no more. -/
def pastA (A : Nat → Option Mk) (to : Nat) : Nat → Option Mk := fun k => match A k with
  | some x => if x.at_ ≤ to then none else some x
  | none => none

theorem ToA {H : Hp} {p n now : Nat} {A : Nat → Option Mk} {F : List Asr} (to : Nat) (hto : to < 18446744073709551616) (hS : Sat H (sep (wheelA p n now A :: F))) :
    CallV Try.prog 12 #[(.pointer (some ⟨p, 0, none⟩)), (.int .u64 to)] H fun v H' =>
      ∃ q a c, v = .slice a q.length c ∧ DueA A (max now to) q ∧ Sat H' (sep (own a q.length c 1 (ints q) :: wheelA p n (max now to) (pastA A (max now to)) :: F)) := by
  obtain ⟨X, hX, hS⟩ := hS.open
  refine (To_specI (F := F) to hto hX.good hS).mono ?_
  rintro v H1 ⟨q, a, c, w', rfl, hq, hw', hg, hS1⟩
  have hA : ∀ k x, A k = some x ↔ (X.w k).isSome = true ∧ x = X.M k := fun k x => by
    rw [hX.is]
    split
    next h => exact ⟨fun e => ⟨h, by cases e; rfl⟩, fun e => by rw [e.2]⟩
    next h => exact ⟨fun e => (by cases e), fun e => absurd e.1 h⟩
  refine ⟨q, a, c, rfl, ⟨fun k => ?_, ?_⟩, ?_⟩
  · rw [hq.mem]
    constructor
    · rintro ⟨h1, h2⟩
      exact ⟨X.M k, (hA k _).2 ⟨h1, rfl⟩, h2⟩
    · rintro ⟨x, h1, h2⟩
      obtain ⟨h3, rfl⟩ := (hA k x).1 h1
      exact ⟨h3, h2⟩
  · refine hq.sorted.imp_of_mem fun {i j} hi hj h => ?_
    have hi := (hq.mem i).1 hi
    have hj := (hq.mem j).1 hj
    exact ⟨X.M i, X.M j, (hA i _).2 ⟨hi.1, rfl⟩, (hA j _).2 ⟨hj.1, rfl⟩, h⟩
  · refine (closeA X.M w' hg (fun k => ?_) (hS1.perm (List.Perm.swap _ _ _))).perm (List.Perm.swap _ _ _)
    show pastA A (max now to) k = if (w' k).isSome then some (X.M k) else none
    unfold pastA
    rw [hw' k, hX.is]
    have hm := hq.mem k
    by_cases h1 : (X.w k).isSome = true
    · rw [if_pos h1]
      simp only
      by_cases h2 : (X.M k).at_ ≤ max now to
      · rw [if_pos h2, decide_eq_true (hm.2 ⟨h1, h2⟩)]; simp
      · rw [if_neg h2, decide_eq_false (fun h => h2 (hm.1 h).2), h1]; rfl
    · rw [if_neg h1]
      simp [h1]

theorem tMarks : Try.prog.underlying 47 = some (.slice 54) := by kernel_rfl
theorem iMark : (Try.prog.info? 54).map (fun i => (i.zero, i.size, i.bytes)) = some (some (.agg #[.int .u64 0, .int .u64 0]), 2, 16) := by kernel_rfl

theorem make_marks {H : Hp} {l : List Asr} (h : Sat H (sep l)) (n : Nat) (hn : n ≤ 4096) {K : Value → Hp → Prop} (k : ∀ b H', Sat H' (sep (blk b (flat encM n fun _ => ⟨0, 0⟩) :: l)) → K (.slice (some ⟨b, 0, none⟩) n n) H') :
    hw Try.prog (Instr.makeSlice 47 (.int .i64 n) (.int .i64 n)) K H := by
  obtain ⟨inf, hi, hz, hs, hbb⟩ := info_of iMark
  exact make_at (enc := encM) ⟨0, 0⟩ tMarks hi hz (by rw [hs]; exact encM_len) rfl h (by omega) (by omega) (by rw [hbb]; omega) k

theorem cnts_none (n r : Nat) : cnts n (fun _ => none) r = 0 := by
  unfold cnts cntP
  rw [List.filter_eq_nil_iff.2 (fun k _ => by simp [isRow])]
  rfl

theorem NewA {H : Hp} {F : List Asr} (n now : Nat) (hn : n ≤ 4096) (hnow : now < 18446744073709551616) (hS : Sat H (sep F)) :
    CallV Try.prog 10 #[(.int .i64 n), (.int .u64 now)] H fun v H' => ∃ p, v = .pointer (some ⟨p, 0, none⟩) ∧ Sat H' (sep (wheelA p n now (fun _ => none) :: F)) := by
  have fin : ∀ {H' : Hp} (p : Nat) (x : WhX), Sat H' (sep (whParts p n now (fun _ => ⟨0, 0⟩) (fun _ => none) (fun _ => 0) x ++ F)) → Sat H' (sep (wheelA p n now (fun _ => none) :: F)) := by
    intro H' p x h
    refine closeA (fun _ => ⟨0, 0⟩) (fun _ => none) (fun k l hk => (by cases hk)) (fun k => rfl) (close_counts ⟨hnow, fun _ => by simp, fun _ => by simp⟩ (fun r _ => (cnts_none n r).symm) h)
  apply wNew.calls
  unfold wNew
  rw [clamp_id hn]
  refine ⟨?_, ?_, trivial⟩
  · refine (NewW n 258 hn (by omega) hS).mono ?_
    rintro v H1 ⟨pc, rfl, hS1⟩
    refine ⟨_, rfl, ?_, trivial⟩
    refine make_marks hS1 n hn fun bm H2 hS2 => ⟨_, _, _, rfl, ?_, trivial⟩
    refine nw_at (cs := [_, _, _, _, _, _, _]) hS2 fun p H3 hS3 => ⟨p, rfl, fin p ⟨pc, bm⟩ hS3⟩
  · refine make_marks hS n hn fun bm H1 hS1 => ⟨_, _, _, rfl, ?_, trivial⟩
    refine (NewW n 258 hn (by omega) hS1).mono ?_
    rintro v H2 ⟨pc, rfl, hS2⟩
    refine ⟨_, rfl, ?_, trivial⟩
    refine nw_at (cs := [_, _, _, _, _, _, _]) hS2 fun p H3 hS3 => ⟨p, rfl, fin p ⟨pc, bm⟩ (hS3.perm (.cons _ (.swap _ _ _)))⟩

end Go.Proofs.Ytlkocnmgpalmnaa
