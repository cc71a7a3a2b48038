/- The wheel goes to an hour and gives what is due, in order. -/
import Derived.Test.YtlkocnmgpalmnaaWhG
import Derived.Test.YtlkocnmgpalmnaaEvZ
import Derived.Test.YtlkocnmgpalmnaaSo
namespace Go.Proofs.Ytlkocnmgpalmnaa
open Go Go.EV Go.Sort

theorem cmpN_neg {a b : Int} : cmpN a b < 0 ↔ a < b := by unfold cmpN; (repeat' split) <;> omega
theorem cmpN_ne {a b : Int} : cmpN a b ≠ 0 ↔ a ≠ b := by unfold cmpN; (repeat' split) <;> omega
theorem or3_neg {a b c : Int} : or3 a b c < 0 ↔ a < 0 ∨ (a = 0 ∧ (b < 0 ∨ (b = 0 ∧ c < 0))) := by unfold or3; (repeat' split) <;> omega

/-- Which of two is due first. -/
def DueLt (M : Nat → Mk) (x y : Nat) : Prop := (M x).at_ < (M y).at_ ∨ ((M x).at_ = (M y).at_ ∧ ((M x).turn < (M y).turn ∨ ((M x).turn = (M y).turn ∧ x < y)))

theorem dueC_neg {M : Nat → Mk} {x y : Nat} : dueC M x y < 0 ↔ DueLt M x y := by
  unfold dueC DueLt
  rw [or3_neg, cmpN_neg, cmpN_neg, cmpN_neg]
  have h1 := cmpN_ne (a := ((M x).at_ : Int)) (b := (M y).at_)
  have h2 := cmpN_ne (a := ((M x).turn : Int)) (b := (M y).turn)
  have e1 : cmpN ((M x).at_ : Int) (M y).at_ = 0 ↔ (M x).at_ = (M y).at_ := by omega
  have e2 : cmpN ((M x).turn : Int) (M y).turn = 0 ↔ (M x).turn = (M y).turn := by omega
  rw [e1, e2]
  omega

def dueF (M : Nat → Mk) {n : Nat} (x y : Fin n) : Int := dueC M x.val y.val

theorem dueF_lt (M : Nat → Mk) {n : Nat} (x y : Fin n) : ltOf (dueF M) x y = true ↔ DueLt M x.val y.val := by
  unfold ltOf dueF
  rw [decide_eq_true_iff, dueC_neg]

theorem dueF_nlt (M : Nat → Mk) {n : Nat} (x y : Fin n) : ltOf (dueF M) x y = false ↔ ¬ DueLt M x.val y.val := by
  rw [← dueF_lt, Bool.not_eq_true]

theorem DueLt.irrefl (M : Nat → Mk) (x : Nat) : ¬ DueLt M x x := by unfold DueLt; omega
theorem DueLt.trans {M : Nat → Mk} {x y z : Nat} (h : DueLt M x y) (h' : DueLt M y z) : DueLt M x z := by unfold DueLt at *; omega
theorem DueLt.tri (M : Nat → Mk) (x y : Nat) : DueLt M x y ∨ x = y ∨ DueLt M y x := by unfold DueLt; omega

theorem due_swo (M : Nat → Mk) {n : Nat} : SWO (ltOf (dueF M (n := n))) where
  irrefl x := by rw [dueF_nlt]; exact DueLt.irrefl _ _
  trans x y z h1 h2 := by rw [dueF_lt] at *; exact h1.trans h2
  ntrans x y z h1 h2 := by rw [dueF_nlt] at *; unfold DueLt at *; omega

theorem due_tot (M : Nat → Mk) {n : Nat} (x y : Fin n) (h1 : ltOf (dueF M) x y = false) (h2 : ltOf (dueF M) y x = false) : x = y := by
  rw [dueF_nlt] at *
  rcases DueLt.tri M x.val y.val with h | h | h
  · exact absurd h h1
  · exact Fin.ext h
  · exact absurd h h2

theorem fins {n : Nat} : ∀ (q : List Nat), (∀ k, k ∈ q → k < n) → ∃ q' : List (Fin n), q'.map (fun x => x.val) = q
  | [], _ => ⟨[], rfl⟩
  | k :: q, h => by
    obtain ⟨q', e⟩ := fins q fun j hj => h j (List.mem_cons_of_mem _ hj)
    exact ⟨⟨k, h k (List.mem_cons_self ..)⟩ :: q', by rw [List.map_cons, e]⟩

/-- The numbers for which P holds, in order. -/
structure Due (M : Nat → Mk) (P : Nat → Prop) (q : List Nat) : Prop where
  mem : ∀ k, k ∈ q ↔ P k
  sorted : q.Pairwise (DueLt M)

theorem Due.nodup {M : Nat → Mk} {P : Nat → Prop} {q : List Nat} (h : Due M P q) : q.Nodup := by
  refine h.sorted.imp ?_
  intro a b hab he
  rw [he] at hab
  exact DueLt.irrefl _ _ hab

theorem due_sorted (M : Nat → Mk) {n : Nat} (q : List (Fin n)) (hn : (q.map fun x => x.val).Nodup) : Due M (fun k => k ∈ q.map fun x => x.val) ((q.mergeSort fun x y => !(ltOf (dueF M)) y x).map fun x => x.val) := by
  have hp := List.mergeSort_perm q (fun x y => !(ltOf (dueF M)) y x)
  refine ⟨fun k => ((hp.map _).mem_iff), ?_⟩
  have hs : (q.mergeSort fun x y => !(ltOf (dueF M)) y x).Pairwise fun a b => (!(ltOf (dueF M)) b a) = true := by
    refine List.pairwise_mergeSort (fun a b c h1 h2 => ?_) (fun a b => ?_) q
    · have h1 : ¬ DueLt M b.val a.val := by rw [← dueF_nlt]; simpa using h1
      have h2 : ¬ DueLt M c.val b.val := by rw [← dueF_nlt]; simpa using h2
      have : ltOf (dueF M) c a = false := by rw [dueF_nlt]; unfold DueLt at *; omega
      rw [this]; rfl
    · cases h : ltOf (dueF M) b a with
      | false => rfl
      | true =>
        have : ltOf (dueF M) a b = false := by rw [dueF_nlt]; rw [dueF_lt] at h; unfold DueLt at *; omega
        rw [this]; rfl
  have hd : ((q.mergeSort fun x y => !(ltOf (dueF M)) y x).map fun x => x.val).Nodup := (hp.map _).nodup_iff.2 hn
  rw [List.pairwise_map]
  unfold List.Nodup at hd
  rw [List.pairwise_map] at hd
  refine (hs.and hd).imp ?_
  rintro a b ⟨h1, h2⟩
  have h1 : ¬ DueLt M b.val a.val := by rw [← dueF_nlt]; simpa using h1
  rcases DueLt.tri M a.val b.val with h | h | h
  · exact h
  · exact absurd h h2
  · exact absurd h h1

/-- What is due is off the lists. -/
theorem pull_due {H : Hp} {p n now : Nat} {M : Nat → Mk} {w : Nat → Option Nat} {F : List Asr} (k : Nat) (hk : w k = some 256) (hS : Sat H (sep (wheelI p n now M w :: F))) :
    ∃ pc, cellH H ⟨p, 0, none⟩ = some (.pointer (some ⟨pc, 0, none⟩)) ∧ CallV Try.prog 26 #[(.pointer (some ⟨pc, 0, none⟩)), (.int .i64 k)] H fun v H' => v = .bool true ∧ Sat H' (sep (wheelI p n now M (upd w k none) :: F)) := by
  obtain ⟨x, hx, hS⟩ := hS.open
  have rd := whRd hS
  have hkn := ((chainW_wh (whLinks hS)).on k _ hk).1
  refine ⟨_, rd.p0, (PullW 256 k hk (whLinks hS)).mono ?_⟩
  rintro v H1 ⟨rfl, hS1⟩
  refine ⟨rfl, close_counts hx (fun j hj => ?_) (whBack hS1)⟩
  rw [cnts_upd _ hkn, hk, if_neg (c := isRow j (some 256) = true) (fun h => by have := (isRow_some.1 h).1; omega)]
  simp [isRow]

end Go.Proofs.Ytlkocnmgpalmnaa
