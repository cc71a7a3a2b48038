/- The wheel goes to an hour: the walk. -/
import Derived.Test.YtlkocnmgpalmnaaWhT
namespace Go.Proofs.Ytlkocnmgpalmnaa
open Go Go.EV

theorem all_due {n : Nat} {w : Nat → Option Nat} (hw : ∀ k l, w k = some l → k < n ∧ l < 258) (h : cntP n w (fun x => x.isSome) = cntP n w (isAt 256)) : ∀ k l, w k = some l → l = 256 := by
  have hs := cntP_split (fun k l hk => (hw k l hk).2) n
  intro k l hk
  obtain ⟨hkn, hl⟩ := hw k l hk
  have z1 := cntP_zero (n := n) (w := w) (P := isAt 257) (by omega) hkn
  have z2 := cntP_zero (n := n) (w := w) (P := isRow 0) (by omega) hkn
  have z3 := cntP_zero (n := n) (w := w) (P := isRow 1) (by omega) hkn
  have z4 := cntP_zero (n := n) (w := w) (P := isRow 2) (by omega) hkn
  have z5 := cntP_zero (n := n) (w := w) (P := isRow 3) (by omega) hkn
  rw [hk] at z1 z2 z3 z4 z5
  rw [isAt_iff] at z1
  rw [isRow_some] at z2 z3 z4 z5
  have : l ≠ 257 := fun h => z1 (by rw [h])
  omega

def nowOf (p : Nat) (H : Hp) : Nat := match cellH H ⟨p, 2, none⟩ with
  | some (.int _ k) => k.toNat
  | _ => 0

theorem nowOf_eq {H : Hp} {p n now : Nat} {M : Nat → Mk} {w : Nat → Option Nat} {F : List Asr} (hS : Sat H (sep (wheelI p n now M w :: F))) : nowOf p H = now ∧ cellH H ⟨p, 2, none⟩ = some (.int .u64 now) := by
  obtain ⟨x, hx, hS⟩ := hS.open
  have rd := whRd hS
  unfold nowOf
  rw [rd.p2]
  exact ⟨rfl, rfl⟩

theorem links_at {H : Hp} {p n now : Nat} {M : Nat → Mk} {w : Nat → Option Nat} {F : List Asr} (hS : Sat H (sep (wheelI p n now M w :: F))) :
    ∃ pc, cellH H ⟨p, 0, none⟩ = some (.pointer (some ⟨pc, 0, none⟩)) ∧
      (CallV Try.prog 22 #[(.pointer (some ⟨pc, 0, none⟩)), (.int .i64 256)] H fun v H' => v = .int .i64 (cntP n w (isAt 256) : Nat) ∧ H' = H) ∧
      (CallV Try.prog 25 #[(.pointer (some ⟨pc, 0, none⟩)), (.int .i64 256)] H fun v H' =>
        ∃ q a c, Lists n 258 w 256 q ∧ v = .slice a q.length c ∧ Sat H' (sep (own a q.length c 1 (ints q) :: wheelI p n now M w :: F))) := by
  obtain ⟨x, hx, hS⟩ := hS.open
  have rd := whRd hS
  refine ⟨_, rd.p0, LenW 256 (by omega) (whLinks hS), (AllW 256 (by omega) (whLinks hS)).mono ?_⟩
  rintro v H1 ⟨q, a, c, hq, rfl, hS1⟩
  refine ⟨q, a, c, hq, rfl, ?_⟩
  have h1 := hS1.perm (List.perm_middle (l₁ := chainW x.pc n 258 w :: (whParts p n now M w (cnts n w) x).take 2) (a := own a q.length c 1 (ints q)) (l₂ := F)).symm
  exact (Sat.close x hx (whBack h1)).perm (List.Perm.swap _ _ _)

theorem To_specI {H : Hp} {p n now : Nat} {M : Nat → Mk} {w : Nat → Option Nat} {F : List Asr} (to : Nat) (hto : to < 18446744073709551616) (hg : AllP w M (EV.Good now)) (hS : Sat H (sep (wheelI p n now M w :: F))) :
    CallV Try.prog 12 #[(.pointer (some ⟨p, 0, none⟩)), (.int .u64 to)] H fun v H' =>
      ∃ q a c w', v = .slice a q.length c ∧ Due M (fun k => (w k).isSome = true ∧ (M k).at_ ≤ max now to) q ∧ (∀ k, (w' k).isSome = ((w k).isSome && !decide (k ∈ q))) ∧ AllP w' M (EV.Good (max now to)) ∧
        Sat H' (sep (own a q.length c 1 (ints q) :: wheelI p n (max now to) M w' :: F)) := by
  have hn := (wheel_wh hS).1.small.1
  apply wTo.calls
  unfold wTo
  refine nw_at hS fun r H0 hS0 => ?_
  have base : ∀ {H : Hp} {G : List Asr}, Sat H (sep (blk r [.pointer (some ⟨p, 0, none⟩)] :: G)) → cellH H ⟨r, 0, none⟩ = some (.pointer (some ⟨p, 0, none⟩)) := fun h => h.cell 0 rfl 0
  refine ⟨fun _ H' => ∃ w', (∀ k, (w' k).isSome = (w k).isSome) ∧ AllP w' M (EV.Good (max now to)) ∧ Sat H' (sep (blk r [.pointer (some ⟨p, 0, none⟩)] :: wheelI p n (max now to) M w' :: F)),
    ⟨fun _ H' => ∃ now' w', now ≤ now' ∧ now' ≤ max now to ∧ (∀ k, (w' k).isSome = (w k).isSome) ∧ AllP w' M (EV.Good now') ∧ Sat H' (sep (blk r [.pointer (some ⟨p, 0, none⟩)] :: wheelI p n now' M w' :: F)),
      fun _ H' => to - nowOf p H', ⟨now, w, Nat.le_refl _, Nat.le_max_left .., fun _ => rfl, hg, hS0⟩, ?_⟩, ?_⟩
  · rintro H1 ⟨now', w1, hle, hle', hw1, hg1, hS1⟩
    have hS1' := hS1.perm (List.Perm.swap _ _ _)
    obtain ⟨hno, hnow⟩ := nowOf_eq hS1'
    refine ⟨_, base hS1, ?_⟩
    simp only [optK_some, add_mk, Nat.zero_add]
    refine ⟨_, hnow, fun h => ?_, fun h => ?_⟩
    · have hlt : now' < to := by have := of_decide_eq_true h; omega
      obtain ⟨pc, hpc, hlen, _⟩ := links_at hS1'
      refine ⟨fun H' => H' = H1, rfl, _, base hS1, (Len_specW hS1').mono ?_⟩
      rintro v H2 ⟨rfl, rfl⟩
      refine ⟨_, rfl, rfl, rfl, _, fun H' h => by rw [h]; exact base hS1, ?_⟩
      simp only [optK_some]
      refine ⟨by trivial, _, fun H' h => by rw [h]; exact hpc, hlen.mono ?_⟩
      rintro v H2 ⟨rfl, rfl⟩
      refine ⟨_, rfl, fun h2 => ?_, fun h2 => ?_⟩
      · refine ⟨_, base hS1, ?_⟩
        simp only [optK_some, add_mk, Nat.zero_add]
        refine wr_now hto hS1' fun H3 hS3 => ?_
        have hmax : max now to = to := by omega
        rw [hmax]
        refine ⟨w1, hw1, fun k l hk => ?_, hS3.perm (List.Perm.swap _ _ _)⟩
        have hwh := (wheel_wh hS1').1
        have h2' : (cntP n w1 (fun x => x.isSome) : Int) = cntP n w1 (isAt 256) := by simpa using h2
        have hl := all_due hwh.on (by omega) k l hk
        have := (hg1 k l hk).due.1 hl
        exact .inl ⟨hl, by omega⟩
      · have hC : ∀ {H' : Hp} {G : List Asr}, Sat H' (sep (wheelI p n now' M w1 :: blk r [.pointer (some ⟨p, 0, none⟩)] :: G)) → ∃ G, Sat H' (sep (blk r [.pointer (some ⟨p, 0, none⟩)] :: G)) := fun h => ⟨_, h.perm (List.Perm.swap _ _ _)⟩
        refine ⟨fun H' => ∃ G, Sat H' (sep (blk r [.pointer (some ⟨p, 0, none⟩)] :: G)), ⟨_, hS1⟩, ⟨_, hS1⟩, _, fun H' ⟨G, h⟩ => base h, _, base hS1, (next_spec hto hlt hg1 hS1').mono ?_⟩
        rintro v H3 ⟨s, rfl, hs1, hs2, hts, hS3⟩
        refine ⟨_, rfl, hC hS3, (step_spec (by omega) hs1 hg1 hts hS3).mono ?_⟩
        rintro v H4 ⟨rfl, w4, hw4, hg4, hS4⟩
        refine ⟨rfl, ⟨s, w4, by omega, by omega, fun k => (hw4 k).trans (hw1 k), hg4, hS4.perm (List.Perm.swap _ _ _)⟩, ?_⟩
        rw [(nowOf_eq hS4).1, hno]
        omega
    · have hge : to ≤ now' := by have := of_decide_eq_false h; omega
      have : now' = max now to := by omega
      subst this
      exact ⟨w1, hw1, hg1, hS1⟩
  · rintro H1 ⟨w1, hw1, hg1, hS1⟩
    generalize hmax : max now to = now1 at *
    have hS1' := hS1.perm (List.Perm.swap _ _ _)
    obtain ⟨pc, hpc, _, hall⟩ := links_at hS1'
    refine ⟨_, base hS1, ?_⟩
    simp only [optK_some]
    refine ⟨_, hpc, hall.mono ?_⟩
    rintro v H2 ⟨q, a, c, hq, rfl, hS2⟩
    have hqn : q.length ≤ 4096 := by rw [hq.length]; exact Nat.le_trans (cntP_le _ _ _) hn
    have hP : ∀ k, k ∈ q ↔ (w k).isSome = true ∧ (M k).at_ ≤ now1 := fun k => by
      rw [hq.mem, ← hw1]
      constructor
      · intro hk
        exact ⟨by rw [hk]; rfl, (hg1 k _ hk).due.1 rfl⟩
      · rintro ⟨hk, hle⟩
        obtain ⟨l, hl⟩ := Option.isSome_iff_exists.1 hk
        rw [hl, (hg1 k l hl).due.2 hle]
    refine ⟨_, _, _, by trivial, fun vs H' => match vs with
      | [.int _ i] => ∃ j : Nat, i = j ∧ j ≤ q.length ∧ Sat H' (sep (own a q.length c 1 (ints q) :: wheelI p n now1 M (fun k => if k ∈ q.take j then none else w1 k) :: blk r [.pointer (some ⟨p, 0, none⟩)] :: F))
      | _ => False, fun vs _ => match vs with
      | [.int _ i] => q.length - i.toNat
      | _ => 0, ⟨0, rfl, Nat.zero_le _, by simpa using hS2⟩, ?_⟩
    rintro i H3 ⟨j, rfl, hj, hS3⟩
    have hS3r : Sat H3 (sep (blk r [.pointer (some ⟨p, 0, none⟩)] :: own a q.length c 1 (ints q) :: wheelI p n now1 M (fun k => if k ∈ q.take j then none else w1 k) :: F)) := hS3.perm (List.perm_middle (l₁ := [_, _]))
    refine ⟨fun h => ?_, fun h => ?_⟩
    · have hjl : j < q.length := by have := of_decide_eq_true h; omega
      have hget := List.getElem?_eq_getElem hjl
      generalize q[j] = k at hget
      have hkq := List.mem_of_getElem? hget
      obtain ⟨b, rfl, hc⟩ := cell_own hS3 (i := 0) rfl hget
      simp only [optK_some, Int.toNat_natCast, Nat.mul_one]
      have hnot : k ∉ q.take j := by
        intro hm
        obtain ⟨i, hi⟩ := List.getElem?_of_mem hm
        rw [List.getElem?_take] at hi
        split at hi
        next hij =>
          have := (List.getElem?_inj (by omega : i < q.length) hq.nodup).1 (hi.trans hget.symm)
          omega
        next => cases hi
      have hwk : (fun k => if k ∈ q.take j then none else w1 k) k = some 256 := by
        simp only [if_neg hnot]
        exact (hq.mem k).1 hkq
      obtain ⟨pc', hpc', hpull⟩ := pull_due k hwk (hS3.perm (List.Perm.swap _ _ _))
      refine ⟨by omega, by omega, _, hc, _, base hS3r, ?_⟩
      simp only [optK_some]
      refine ⟨_, hpc', hpull.mono ?_⟩
      rintro v H4 ⟨rfl, hS4⟩
      have hupd : upd (fun k => if k ∈ q.take j then none else w1 k) k none = fun k => if k ∈ q.take (j + 1) then none else w1 k := by
        funext k'
        have ht : q.take (j + 1) = q.take j ++ [k] := by rw [List.take_add_one, hget]; rfl
        by_cases hk' : k' = k
        · subst hk'
          rw [upd_self, ht, if_pos (by simp)]
        · rw [upd_ne _ _ hk', ht]
          simp [hk']
      rw [hupd] at hS4
      have wj : IntKind.wrap .i64 ((j : Int) + 1) = ((j + 1 : Nat) : Int) := by rw [wrap64_id (by omega) (by omega)]; rfl
      exact ⟨_, rfl, ⟨j + 1, wj, by omega, hS4.perm (List.Perm.swap _ _ _)⟩, by rw [wj]; omega⟩
    · have : j = q.length := by have := of_decide_eq_false h; omega
      subst this
      rw [List.take_length] at hS3
      obtain ⟨q', hq'⟩ := fins q hq.small
      have hlen : q.length = q'.length := by rw [← hq', List.length_map]
      have hS4 : Sat H3 (sep (own a q'.length c 1 (ints (q'.map fun x => x.val)) :: (blk r [.pointer (some ⟨p, 0, none⟩)] :: wheelI p n now1 M (fun k => if k ∈ q then none else w1 k) :: F))) := by
        rw [hq', ← hlen]
        exact hS3.perm (List.Perm.cons _ (List.Perm.swap _ _ _))
      rw [hlen]
      have hsort := sort_at sortL (dueF M (n := n)) (due_swo M) (due_tot M) 28 #[.pointer (some ⟨r, 0, none⟩)] (fun args w => ?_) (G := blk r [.pointer (some ⟨p, 0, none⟩)] :: wheelI p n now1 M (fun k => if k ∈ q then none else w1 k) :: F) (fun x y H hS => toCmp_spec x.val y.val x.isLt y.isLt hS) (by omega) hS4
      · refine CallV.mono hsort ?_
        rintro v H5 ⟨rfl, hS5⟩
        have hdue := due_sorted M q' (by rw [hq']; exact hq.nodup)
        have hms : ((q'.mergeSort fun x y => !(ltOf (dueF M)) y x)).length = q'.length := List.length_mergeSort _
        rw [hq'] at hdue
        refine ⟨rfl, _, a, c, fun k => if k ∈ q then none else w1 k, ?_, ⟨fun k => (hdue.mem k).trans (hP k), hdue.sorted⟩, fun k => ?_, fun k l hk => ?_, ?_⟩
        · rw [List.length_map, hms]
        · have hk := hdue.mem k
          rw [← hw1]
          by_cases hkq : k ∈ q
          · rw [decide_eq_true (hk.2 hkq)]; simp [hkq]
          · rw [decide_eq_false (fun h => hkq (hk.1 h))]; simp [hkq]
        · replace hk : (if k ∈ q then none else w1 k) = some l := hk
          split at hk
          · cases hk
          · exact hg1 k l hk
        · rw [List.length_map, hms]
          exact (hS5.perm (List.Perm.swap _ _ _)).drop
      · exact enters_of Try.func28 (by kernel_rfl) rfl args w

end Go.Proofs.Ytlkocnmgpalmnaa
