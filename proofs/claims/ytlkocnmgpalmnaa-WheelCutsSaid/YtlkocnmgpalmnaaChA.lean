/- Lists of small numbers in a row of links: what putting one to the end, and taking one off, make of it. Nothing of the program. -/
import Derived.Test.YtlkocnmgpalmnaaEvS
namespace Go.EV
open Go

structure Lnk where
  list : Int
  prev : Int
  next : Int

structure LEnd where
  first : Int
  last : Int
  count : Int

def encL (x : Lnk) : List Value := [.int .i64 x.list, .int .i64 x.prev, .int .i64 x.next]
def encE (x : LEnd) : List Value := [.int .i64 x.first, .int .i64 x.last, .int .i64 x.count]
theorem encL_len (x : Lnk) : (encL x).length = 3 := rfl
theorem encE_len (x : LEnd) : (encE x).length = 3 := rfl

def toI : Option Nat → Int
  | some k => k
  | none => -1

theorem toI_none : toI none = -1 := rfl
theorem toI_some (k : Nat) : toI (some k) = k := rfl
theorem toI_eq {x : Option Nat} : toI x = -1 ↔ x = none := by
  cases x with
  | none => simp [toI]
  | some k => simp [toI]

def prevOf (q : List Nat) (i : Nat) : Option Nat := if i = 0 then none else q[i - 1]?

structure ChInv (n m : Nat) (Q : Nat → List Nat) (w : Nat → Option Nat) (L : Nat → Lnk) (E : Nat → LEnd) : Prop where
  small : n ≤ 4096 ∧ m ≤ 4096
  mem : ∀ l k, l < m → k ∈ Q l → k < n ∧ w k = some l
  on : ∀ k l, w k = some l → k < n ∧ l < m ∧ k ∈ Q l
  nodup : ∀ l, l < m → (Q l).Nodup
  free : ∀ k, k < n → w k = none → L k = ⟨-1, -1, -1⟩
  node : ∀ l i k, l < m → (Q l)[i]? = some k → L k = ⟨l, toI (prevOf (Q l) i), toI ((Q l)[i + 1]?)⟩
  ends : ∀ l, l < m → E l = ⟨toI (Q l).head?, toI (Q l).getLast?, (Q l).length⟩

theorem nodup_len : ∀ (n : Nat) (l : List Nat), l.Nodup → (∀ x ∈ l, x < n) → l.length ≤ n
  | 0, l, _, h => by
    cases l with
    | nil => simp
    | cons a l => have := h a List.mem_cons_self; omega
  | n + 1, l, hn, h => by
    have h1 := nodup_len n (l.erase n) (hn.erase n) fun x hx => by
      have h2 := h x (List.mem_of_mem_erase hx)
      have h3 : x ≠ n := fun e => by subst e; exact List.Nodup.not_mem_erase hn hx
      omega
    by_cases hm : n ∈ l
    · rw [List.length_erase_of_mem hm] at h1; omega
    · rw [List.erase_of_not_mem hm] at h1; omega

theorem nodup_inj {l : List Nat} (h : l.Nodup) {i j x : Nat} (hi : l[i]? = some x) (hj : l[j]? = some x) : i = j := by
  obtain ⟨h1, h2⟩ := List.getElem?_eq_some_iff.1 hi
  obtain ⟨h3, h4⟩ := List.getElem?_eq_some_iff.1 hj
  rcases Nat.lt_trichotomy i j with hlt | heq | hgt
  · exact absurd (h2.trans h4.symm) (List.pairwise_iff_getElem.1 h i j h1 h3 hlt)
  · exact heq
  · exact absurd (h4.trans h2.symm) (List.pairwise_iff_getElem.1 h j i h3 h1 hgt)

theorem ChInv.len {n m : Nat} {Q : Nat → List Nat} {w : Nat → Option Nat} {L : Nat → Lnk} {E : Nat → LEnd} (h : ChInv n m Q w L E) {l : Nat} (hl : l < m) : (Q l).length ≤ n :=
  nodup_len n _ (h.nodup l hl) fun x hx => (h.mem l x hl hx).1

theorem upd_self {α : Type} (f : Nat → α) (k : Nat) (x : α) : upd f k x k = x := by simp [upd]
theorem upd_ne {α : Type} (f : Nat → α) {k i : Nat} (x : α) (h : i ≠ k) : upd f k x i = f i := by simp [upd, h]

/-- The links behind a push. -/
def pushL (L : Nat → Lnk) (Q : Nat → List Nat) (l k : Nat) : Nat → Lnk :=
  match (Q l).getLast? with
  | none => upd L k ⟨l, -1, -1⟩
  | some j => upd (upd L k ⟨l, j, -1⟩) j ⟨(upd L k ⟨l, j, -1⟩ j).list, (upd L k ⟨l, j, -1⟩ j).prev, k⟩

def pushE (E : Nat → LEnd) (Q : Nat → List Nat) (l k : Nat) : Nat → LEnd :=
  upd E l ⟨if (Q l) = [] then k else (E l).first, k, (E l).count + 1⟩

theorem pushL_none {L : Nat → Lnk} {Q : Nat → List Nat} {l k : Nat} (h : (Q l).getLast? = none) : pushL L Q l k = upd L k ⟨l, -1, -1⟩ := by
  unfold pushL; rw [h]
theorem pushL_some {L : Nat → Lnk} {Q : Nat → List Nat} {l k j : Nat} (h : (Q l).getLast? = some j) :
    pushL L Q l k = upd (upd L k ⟨l, j, -1⟩) j ⟨(upd L k ⟨l, j, -1⟩ j).list, (upd L k ⟨l, j, -1⟩ j).prev, k⟩ := by
  unfold pushL; rw [h]

theorem ChInv.push {n m : Nat} {Q : Nat → List Nat} {w : Nat → Option Nat} {L : Nat → Lnk} {E : Nat → LEnd} (h : ChInv n m Q w L E) {l k : Nat} (hl : l < m) (hk : k < n) (hw : w k = none) :
    ChInv n m (upd Q l (Q l ++ [k])) (upd w k (some l)) (pushL L Q l k) (pushE E Q l k) := by
  have hnk : ∀ l', l' < m → k ∉ Q l' := fun l' hl' hm => by have := (h.mem l' k hl' hm).2; rw [hw] at this; cases this
  refine ⟨h.small, fun l' k' hl' hm => ?_, fun k' l' hw' => ?_, fun l' hl' => ?_, fun k' hk' hw' => ?_, fun l' i k' hl' hq => ?_, fun l' hl' => ?_⟩
  · by_cases he : l' = l
    · subst he
      rw [upd_self] at hm
      rcases List.mem_append.1 hm with hm | hm
      · have := h.mem l' k' hl' hm
        have hne : k' ≠ k := fun e => by subst e; exact hnk l' hl' (by assumption)
        rw [upd_ne _ _ hne]; exact this
      · simp at hm; subst hm; exact ⟨hk, upd_self _ _ _⟩
    · rw [upd_ne _ _ he] at hm
      have hne : k' ≠ k := fun e => by subst e; exact hnk l' hl' hm
      rw [upd_ne _ _ hne]; exact h.mem l' k' hl' hm
  · by_cases he : k' = k
    · subst he
      rw [upd_self] at hw'
      have := Option.some.inj hw'; subst this
      exact ⟨hk, hl, by rw [upd_self]; simp⟩
    · rw [upd_ne _ _ he] at hw'
      obtain ⟨h1, h2, h3⟩ := h.on k' l' hw'
      refine ⟨h1, h2, ?_⟩
      by_cases hll : l' = l
      · subst hll; rw [upd_self]; exact List.mem_append_left _ h3
      · rw [upd_ne _ _ hll]; exact h3
  · by_cases he : l' = l
    · subst he
      rw [upd_self, List.nodup_append]
      exact ⟨h.nodup l' hl', by simp, fun a ha b hb => by simp at hb; subst hb; intro e; subst e; exact hnk l' hl' ha⟩
    · rw [upd_ne _ _ he]; exact h.nodup l' hl'
  · have hne : k' ≠ k := fun e => by subst e; rw [upd_self] at hw'; cases hw'
    rw [upd_ne _ _ hne] at hw'
    cases hj : (Q l).getLast? with
    | none => rw [pushL_none hj, upd_ne _ _ hne]; exact h.free k' hk' hw'
    | some j =>
      rw [pushL_some hj]
      have hjm := List.mem_of_getLast? hj
      have hjne : k' ≠ j := fun e => by subst e; have := (h.mem l k' hl hjm).2; rw [hw'] at this; cases this
      rw [upd_ne _ _ hjne, upd_ne _ _ hne]; exact h.free k' hk' hw'
  · by_cases he : l' = l
    · subst he
      rw [upd_self] at hq ⊢
      rcases Nat.lt_or_ge i (Q l').length with hi | hi
      · -- one that was there
        rw [List.getElem?_append_left hi] at hq
        have hkm : k' ∈ Q l' := List.mem_of_getElem? hq
        have hne : k' ≠ k := fun e => by subst e; exact hnk l' hl' hkm
        have hold := h.node l' i k' hl' hq
        have hprev : prevOf (Q l' ++ [k]) i = prevOf (Q l') i := by
          unfold prevOf
          split
          · rfl
          · rw [List.getElem?_append_left (by omega)]
        rw [hprev]
        cases hj : (Q l').getLast? with
        | none =>
          rw [List.getLast?_eq_none_iff] at hj
          rw [hj] at hi; simp at hi
        | some j =>
          rw [pushL_some hj]
          rw [List.getLast?_eq_getElem?] at hj
          by_cases hlast : i + 1 = (Q l').length
          · have : j = k' := by
              rw [show (Q l').length - 1 = i by omega] at hj
              exact Option.some.inj (hj.symm.trans hq)
            subst this
            rw [upd_self, upd_ne _ _ hne, hold]
            rw [List.getElem?_append_right (by omega)]
            simp [hlast, toI]
          · have hjne : k' ≠ j := fun e => by
              subst e
              have := nodup_inj (h.nodup l' hl') hj hq
              omega
            rw [upd_ne _ _ hjne, upd_ne _ _ hne, hold, List.getElem?_append_left (by omega)]
      · rw [List.getElem?_append_right hi] at hq
        have hi' : i = (Q l').length := by
          have := (List.getElem?_eq_some_iff.1 hq).1
          simp at this; omega
        subst hi'
        simp at hq
        subst hq
        have hnext : (Q l' ++ [k])[(Q l').length + 1]? = none := by simp
        rw [hnext]
        cases hj : (Q l').getLast? with
        | none =>
          rw [pushL_none hj]
          rw [List.getLast?_eq_none_iff] at hj
          rw [upd_self, hj]; rfl
        | some j =>
          rw [pushL_some hj]
          have hjm := List.mem_of_getLast? hj
          have hkj : k ≠ j := fun e => by subst e; exact hnk l' hl' hjm
          rw [upd_ne _ _ hkj, upd_self]
          have hne0 : (Q l').length ≠ 0 := fun e => by rw [List.length_eq_zero_iff] at e; rw [e] at hj; simp at hj
          have hp : prevOf (Q l' ++ [k]) (Q l').length = some j := by
            unfold prevOf
            rw [if_neg hne0, List.getElem?_append_left (by omega), ← List.getLast?_eq_getElem?]; exact hj
          rw [hp]; rfl
    · rw [upd_ne _ _ he] at hq ⊢
      have hkm : k' ∈ Q l' := List.mem_of_getElem? hq
      have hne : k' ≠ k := fun e => by subst e; exact hnk l' hl' hkm
      have hold := h.node l' i k' hl' hq
      cases hj : (Q l).getLast? with
      | none => rw [pushL_none hj, upd_ne _ _ hne]; exact hold
      | some j =>
        rw [pushL_some hj]
        have hjm := List.mem_of_getLast? hj
        have hjne : k' ≠ j := fun e => by
          subst e
          have h1 := (h.mem l k' hl hjm).2
          rw [(h.mem l' k' hl' hkm).2] at h1
          exact he (Option.some.inj h1)
        rw [upd_ne _ _ hjne, upd_ne _ _ hne]; exact hold
  · by_cases he : l' = l
    · subst he
      unfold pushE
      rw [upd_self, upd_self, h.ends l' hl']
      by_cases hnil : Q l' = []
      · simp [hnil, toI]
      · rw [if_neg hnil]
        simp only [List.getLast?_append, List.getLast?_singleton, Option.some_or, List.length_append, List.length_singleton, toI]
        obtain ⟨a, r, hr⟩ := List.exists_cons_of_ne_nil hnil
        rw [hr]; simp
    · unfold pushE
      rw [upd_ne _ _ he, upd_ne _ _ he]; exact h.ends l' hl'


/-- The links behind a pull: one's neighbours are p and q. -/
def pullL1 (L : Nat → Lnk) (p q : Option Nat) : Nat → Lnk :=
  match p with
  | none => L
  | some a => upd L a ⟨(L a).list, (L a).prev, toI q⟩

def pullL2 (L : Nat → Lnk) (p q : Option Nat) : Nat → Lnk :=
  match q with
  | none => L
  | some b => upd L b ⟨(L b).list, toI p, (L b).next⟩

def pullL (L : Nat → Lnk) (k : Nat) (p q : Option Nat) : Nat → Lnk := upd (pullL2 (pullL1 L p q) p q) k ⟨-1, -1, -1⟩

def pullEnds (E : Nat → LEnd) (l : Nat) (p q : Option Nat) : Nat → LEnd :=
  upd E l ⟨if p = none then toI q else (E l).first, if q = none then toI p else (E l).last, (E l).count - 1⟩

theorem pullL1_ne {L : Nat → Lnk} {p q : Option Nat} {i : Nat} (h : p ≠ some i) : pullL1 L p q i = L i := by
  unfold pullL1
  cases p with
  | none => rfl
  | some a => exact upd_ne _ _ fun e => h (by rw [e])

theorem pullL2_ne {L : Nat → Lnk} {p q : Option Nat} {i : Nat} (h : q ≠ some i) : pullL2 L p q i = L i := by
  unfold pullL2
  cases q with
  | none => rfl
  | some a => exact upd_ne _ _ fun e => h (by rw [e])

theorem erase_at {l : List Nat} (hn : l.Nodup) {i k : Nat} (hi : l[i]? = some k) : l.erase k = l.eraseIdx i := by
  induction l generalizing i with
  | nil => simp at hi
  | cons a l ih =>
    cases i with
    | zero => simp at hi; subst hi; simp
    | succ i =>
      simp at hi
      have hne : a ≠ k := fun e => by subst e; exact (List.nodup_cons.1 hn).1 (List.mem_of_getElem? hi)
      rw [List.erase_cons_tail (by simpa using hne), ih (List.nodup_cons.1 hn).2 hi]; rfl

theorem ChInv.pull {n m : Nat} {Q : Nat → List Nat} {w : Nat → Option Nat} {L : Nat → Lnk} {E : Nat → LEnd} (h : ChInv n m Q w L E) {l k i : Nat} (hl : l < m) (hi : (Q l)[i]? = some k) :
    ChInv n m (upd Q l ((Q l).erase k)) (upd w k none) (pullL L k (prevOf (Q l) i) ((Q l)[i + 1]?)) (pullEnds E l (prevOf (Q l) i) ((Q l)[i + 1]?)) := by
  have hkm : k ∈ Q l := List.mem_of_getElem? hi
  obtain ⟨hkn, hwk⟩ := h.mem l k hl hkm
  have hnd := h.nodup l hl
  have hilt : i < (Q l).length := (List.getElem?_eq_some_iff.1 hi).1
  have her := erase_at hnd hi
  have hother : ∀ l' k', l' < m → l' ≠ l → k' ∈ Q l' → k' ∉ Q l := fun l' k' hl' hne hm hm' => by
    have h1 := (h.mem l' k' hl' hm).2
    rw [(h.mem l k' hl hm').2] at h1
    exact hne (Option.some.inj h1).symm
  -- the neighbours are of the list
  have hpm : ∀ a, prevOf (Q l) i = some a → a ∈ Q l := fun a ha => by
    unfold prevOf at ha
    split at ha
    · cases ha
    · exact List.mem_of_getElem? ha
  have hqm : ∀ a, (Q l)[i + 1]? = some a → a ∈ Q l := fun a ha => List.mem_of_getElem? ha
  refine ⟨h.small, fun l' k' hl' hm => ?_, fun k' l' hw' => ?_, fun l' hl' => ?_, fun k' hk' hw' => ?_, fun l' j k' hl' hq => ?_, fun l' hl' => ?_⟩
  · by_cases he : l' = l
    · subst he
      rw [upd_self] at hm
      have hne : k' ≠ k := fun e => by subst e; exact List.Nodup.not_mem_erase hnd hm
      rw [upd_ne _ _ hne]; exact h.mem l' k' hl' (List.mem_of_mem_erase hm)
    · rw [upd_ne _ _ he] at hm
      have hne : k' ≠ k := fun e => by subst e; exact hother l' k' hl' he hm hkm
      rw [upd_ne _ _ hne]; exact h.mem l' k' hl' hm
  · have hne : k' ≠ k := fun e => by subst e; rw [upd_self] at hw'; cases hw'
    rw [upd_ne _ _ hne] at hw'
    obtain ⟨h1, h2, h3⟩ := h.on k' l' hw'
    refine ⟨h1, h2, ?_⟩
    by_cases hll : l' = l
    · subst hll; rw [upd_self]; exact (List.mem_erase_of_ne hne).2 h3
    · rw [upd_ne _ _ hll]; exact h3
  · by_cases he : l' = l
    · subst he; rw [upd_self]; exact hnd.erase k
    · rw [upd_ne _ _ he]; exact h.nodup l' hl'
  · unfold pullL
    by_cases hne : k' = k
    · subst hne; rw [upd_self]
    · rw [upd_ne _ _ hne] at hw' ⊢
      have hnm : k' ∉ Q l := fun hm => by have := (h.mem l k' hl hm).2; rw [hw'] at this; cases this
      rw [pullL2_ne fun e => hnm (hqm _ e), pullL1_ne fun e => hnm (hpm _ e)]
      exact h.free k' hk' hw'
  · by_cases he : l' = l
    · subst he
      rw [upd_self, her] at hq ⊢
      -- where it stood
      have hq0 := hq
      rw [List.getElem?_eraseIdx] at hq
      have hk'm : k' ∈ Q l' := by split at hq <;> exact List.mem_of_getElem? hq
      have hne : k' ≠ k := fun e => by
        subst e
        split at hq
        · have := nodup_inj hnd hq hi; omega
        · have := nodup_inj hnd hq hi; omega
      unfold pullL
      rw [upd_ne _ _ hne]
      by_cases hji : j < i
      · rw [if_pos hji] at hq
        have hold := h.node l' j k' hl' hq
        have hnq : (Q l')[i + 1]? ≠ some k' := fun e => by have := nodup_inj hnd hq e; omega
        rw [pullL2_ne hnq]
        have hprev : prevOf ((Q l').eraseIdx i) j = prevOf (Q l') j := by
          unfold prevOf
          split
          · rfl
          · rw [List.getElem?_eraseIdx, if_pos (by omega)]
        rw [hprev]
        by_cases hji1 : j + 1 = i
        · have hp : prevOf (Q l') i = some k' := by
            unfold prevOf
            rw [if_neg (by omega), show i - 1 = j by omega]; exact hq
          rw [hp]
          show upd L k' _ k' = _
          rw [upd_self, hold, List.getElem?_eraseIdx, if_neg (by omega), hji1]
        · have hnp : prevOf (Q l') i ≠ some k' := fun e => by
            unfold prevOf at e
            split at e
            · cases e
            · have := nodup_inj hnd hq e; omega
          rw [pullL1_ne hnp, hold, List.getElem?_eraseIdx, if_pos (by omega)]
      · rw [if_neg hji] at hq
        have hold := h.node l' (j + 1) k' hl' hq
        have hnp : prevOf (Q l') i ≠ some k' := fun e => by
          unfold prevOf at e
          split at e
          · cases e
          · have := nodup_inj hnd hq e; omega
        have hnext : ((Q l').eraseIdx i)[j + 1]? = (Q l')[j + 1 + 1]? := by rw [List.getElem?_eraseIdx, if_neg (by omega)]
        rw [hnext]
        by_cases hje : j = i
        · subst hje
          rw [hq]
          show upd _ k' _ k' = _
          rw [upd_self, pullL1_ne hnp, hold]
          have : prevOf ((Q l').eraseIdx j) j = prevOf (Q l') j := by
            unfold prevOf
            split
            · rfl
            · rw [List.getElem?_eraseIdx, if_pos (by omega)]
          rw [this]
        · have hnq : (Q l')[i + 1]? ≠ some k' := fun e => by have := nodup_inj hnd hq e; omega
          rw [pullL2_ne hnq, pullL1_ne hnp, hold]
          have : prevOf ((Q l').eraseIdx i) j = prevOf (Q l') (j + 1) := by
            unfold prevOf
            rw [if_neg (by omega), if_neg (by omega), List.getElem?_eraseIdx, if_neg (by omega)]
            congr 1; omega
          rw [this]
    · rw [upd_ne _ _ he] at hq ⊢
      have hm' : k' ∈ Q l' := List.mem_of_getElem? hq
      have hnm := hother l' k' hl' he hm'
      have hne : k' ≠ k := fun e => by subst e; exact hnm hkm
      unfold pullL
      rw [upd_ne _ _ hne, pullL2_ne fun e => hnm (hqm _ e), pullL1_ne fun e => hnm (hpm _ e)]
      exact h.node l' j k' hl' hq
  · by_cases he : l' = l
    · subst he
      unfold pullEnds
      rw [upd_self, upd_self, h.ends l' hl', her]
      have hlen : ((Q l').eraseIdx i).length = (Q l').length - 1 := List.length_eraseIdx_of_lt hilt
      have hf : toI ((Q l').eraseIdx i).head? = if prevOf (Q l') i = none then toI (Q l')[i + 1]? else toI (Q l').head? := by
        rw [List.head?_eq_getElem?, List.getElem?_eraseIdx, List.head?_eq_getElem?]
        by_cases hi0 : i = 0
        · subst hi0; simp [prevOf]
        · rw [if_pos (by omega), if_neg]
          unfold prevOf
          rw [if_neg hi0, List.getElem?_eq_getElem (by omega)]; simp
      have hla : toI ((Q l').eraseIdx i).getLast? = if (Q l')[i + 1]? = none then toI (prevOf (Q l') i) else toI (Q l').getLast? := by
        rw [List.getLast?_eq_getElem?, hlen, List.getElem?_eraseIdx, List.getLast?_eq_getElem?]
        by_cases hl1 : i + 1 < (Q l').length
        · rw [if_neg (by omega), if_neg (by rw [List.getElem?_eq_getElem hl1]; simp)]
          congr 2; omega
        · rw [if_pos (c := (Q l')[i + 1]? = none) (List.getElem?_eq_none (by omega))]
          unfold prevOf
          by_cases hi0 : i = 0
          · subst hi0
            rw [if_neg (by omega), if_pos rfl, List.getElem?_eq_none (by omega)]
          · rw [if_pos (by omega), if_neg hi0]
            congr 2; omega
      rw [hf, hla, hlen]
      congr 1
      dsimp only
      omega
    · unfold pullEnds
      rw [upd_ne _ _ he, upd_ne _ _ he]; exact h.ends l' hl'

end Go.EV
