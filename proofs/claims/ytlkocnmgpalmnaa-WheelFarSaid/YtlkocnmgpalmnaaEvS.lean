/- Memory in parts: what holds of blocks that stand apart. -/
import Derived.Test.YtlkocnmgpalmnaaEvW
namespace Go.EV
open Go

abbrev Ph := Nat → Option Obj
abbrev Asr := Ph → Prop

def Ph.le (h1 h2 : Ph) : Prop := ∀ b o, h1 b = some o → h2 b = some o
def Ph.apart (h1 h2 : Ph) : Prop := ∀ b, h1 b = none ∨ h2 b = none
def Ph.join (h1 h2 : Ph) : Ph := fun b => match h1 b with
  | some o => some o
  | none => h2 b

def Sat (H : Hp) (A : Asr) : Prop := ∃ h : Ph, A h ∧ ∀ b o, h b = some o → H[b]? = some o

def star (A B : Asr) : Asr := fun h => ∃ h1 h2 : Ph, h1.apart h2 ∧ h1.le h ∧ h2.le h ∧ A h1 ∧ B h2

/-- Parts that stand apart. -/
def sep : List Asr → Asr
  | [] => fun _ => True
  | A :: l => star A (sep l)

def emp : Asr := fun _ => True

/-- A block of cells. -/
def blk (b : Nat) (cs : List Value) : Asr := fun h => ∃ T : TypeId, h b = some (.cells cs.toArray T (0, 0))

/-- What was there stands as it stood. -/
def old (h0 : Ph) : Asr := fun h => h0.le h

theorem Ph.le_refl (h : Ph) : h.le h := fun _ _ e => e
theorem Ph.le_trans {a b c : Ph} (h : a.le b) (h' : b.le c) : a.le c := fun x o e => h' x o (h x o e)
theorem Ph.le_join_left {a b : Ph} : a.le (a.join b) := fun x o e => by simp [Ph.join, e]
theorem Ph.le_join_right {a b : Ph} (h : a.apart b) : b.le (a.join b) := fun x o e => by
  rcases h x with h1 | h1
  · simp [Ph.join, h1, e]
  · rw [h1] at e; cases e
theorem Ph.join_le {a b c : Ph} (h1 : a.le c) (h2 : b.le c) : (a.join b).le c := fun x o e => by
  unfold Ph.join at e
  split at e
  · rename_i o' he
    cases e; exact h1 x o he
  · exact h2 x o e
theorem Ph.apart_symm {a b : Ph} (h : a.apart b) : b.apart a := fun x => (h x).symm
theorem Ph.apart_le {a b c : Ph} (h : a.apart b) (hc : c.le b) : a.apart c := fun x => by
  cases hx : c x with
  | none => exact .inr rfl
  | some o =>
    rcases h x with h1 | h1
    · exact .inl h1
    · rw [hc x o hx] at h1; cases h1
theorem Ph.apart_join {a b c : Ph} (h1 : a.apart b) (h2 : a.apart c) : a.apart (b.join c) := fun x => by
  rcases h1 x with h | h
  · exact .inl h
  · rcases h2 x with h' | h'
    · exact .inl h'
    · exact .inr (by simp [Ph.join, h, h'])

theorem star_comm {A B : Asr} {h : Ph} (x : star A B h) : star B A h :=
  let ⟨h1, h2, ap, l1, l2, a, b⟩ := x
  ⟨h2, h1, Ph.apart_symm ap, l2, l1, b, a⟩

theorem star_assoc {A B C : Asr} {h : Ph} (x : star A (star B C) h) : star (star A B) C h := by
  obtain ⟨h1, h23, ap, l1, l23, a, h2, h3, ap', l2, l3, b, c⟩ := x
  refine ⟨Ph.join h1 h2, h3, ?_, Ph.join_le l1 (Ph.le_trans l2 l23), Ph.le_trans l3 l23, ⟨h1, h2, Ph.apart_le ap l2, Ph.le_join_left, Ph.le_join_right (Ph.apart_le ap l2), a, b⟩, c⟩
  exact Ph.apart_symm (Ph.apart_join (Ph.apart_symm (Ph.apart_le ap l3)) (Ph.apart_symm ap'))

theorem star_mono_left {A B C : Asr} {h : Ph} (f : ∀ h, A h → B h) (x : star A C h) : star B C h :=
  let ⟨h1, h2, ap, l1, l2, a, c⟩ := x
  ⟨h1, h2, ap, l1, l2, f _ a, c⟩

theorem star_assoc' {A B C : Asr} {h : Ph} (x : star (star A B) C h) : star A (star B C) h :=
  star_comm (star_mono_left (fun _ y => star_comm y) (star_assoc (star_comm (star_mono_left (fun _ y => star_comm y) x))))

theorem star_mono {A A' B B' : Asr} {h : Ph} (f : ∀ h, A h → A' h) (g : ∀ h, B h → B' h) (x : star A B h) : star A' B' h :=
  let ⟨h1, h2, ap, l1, l2, a, b⟩ := x
  ⟨h1, h2, ap, l1, l2, f _ a, g _ b⟩

theorem star_swap {A B C : Asr} {h : Ph} (x : star A (star B C) h) : star B (star A C) h :=
  star_assoc' (star_mono (fun _ y => star_comm y) (fun _ y => y) (star_assoc x))

theorem Sat.mono {H : Hp} {A B : Asr} (h : Sat H A) (f : ∀ h, A h → B h) : Sat H B :=
  let ⟨x, a, l⟩ := h
  ⟨x, f _ a, l⟩

/-- The i-th part comes first. -/
theorem sep_pull : ∀ (i : Nat) (l : List Asr) {h : Ph}, sep l h → star (l.getD i emp) (sep (l.eraseIdx i)) h
  | i, [], h, x => ⟨fun _ => none, h, fun _ => .inl rfl, fun _ _ e => by (cases e), Ph.le_refl h, by cases i <;> trivial, by cases i <;> exact x⟩
  | 0, A :: l, h, x => x
  | i + 1, A :: l, h, x => by
    have : star A (star (l.getD i emp) (sep (l.eraseIdx i))) h := star_mono (fun _ y => y) (fun _ y => sep_pull i l y) x
    exact star_swap this

theorem sep_push : ∀ (i : Nat) (l : List Asr) (B : Asr) {h : Ph}, i < l.length → star B (sep (l.eraseIdx i)) h → sep (l.set i B) h
  | i, [], B, h, hi, x => by simp at hi
  | 0, A :: l, B, h, hi, x => x
  | i + 1, A :: l, B, h, hi, x => by
    have : star A (star B (sep (l.eraseIdx i))) h := star_swap x
    exact star_mono (fun _ y => y) (fun _ y => sep_push i l B (by simpa using hi) y) this

theorem Sat.pull {H : Hp} {l : List Asr} (h : Sat H (sep l)) (i : Nat) : Sat H (sep (l.getD i emp :: l.eraseIdx i)) := h.mono fun _ x => sep_pull i l x

theorem Sat.drop {H : Hp} {A : Asr} {l : List Asr} (h : Sat H (sep (A :: l))) : Sat H (sep l) :=
  let ⟨_, ⟨_, h2, _, _, l2, _, b⟩, l⟩ := h
  ⟨h2, b, fun b' o e => l b' o (l2 b' o e)⟩

theorem getD_of_get? {l : List Asr} {i : Nat} {A : Asr} (h : l[i]? = some A) : l.getD i emp = A := by simp [List.getD, h]

/-- A cell of the i-th part. -/
theorem Sat.cell {H : Hp} {l : List Asr} (h : Sat H (sep l)) (i : Nat) {b : Nat} {cs : List Value} (hi : l[i]? = some (blk b cs)) (j : Nat) : cellH H ⟨b, j, none⟩ = cs[j]? := by
  obtain ⟨x, hx, hl⟩ := h.pull i
  obtain ⟨h1, h2, _, l1, _, a, _⟩ := hx
  rw [getD_of_get? hi] at a
  obtain ⟨T, a⟩ := a
  have hb := hl b _ (l1 b _ a)
  unfold cellH World.cell? wof
  simp [hb]

theorem Sat.frozen {H : Hp} {l : List Asr} (h : Sat H (sep l)) (i : Nat) {b : Nat} {cs : List Value} (hi : l[i]? = some (blk b cs)) (j : Nat) : frozenH H ⟨b, j, none⟩ = false := by
  obtain ⟨x, hx, hl⟩ := h.pull i
  obtain ⟨h1, h2, _, l1, _, a, _⟩ := hx
  rw [getD_of_get? hi] at a
  obtain ⟨T, a⟩ := a
  have hb := hl b _ (l1 b _ a)
  unfold frozenH World.frozen? wof
  simp [hb]

theorem Sat.set {H : Hp} {l : List Asr} (h : Sat H (sep l)) (i : Nat) {b : Nat} {cs : List Value} (hi : l[i]? = some (blk b cs)) (j : Nat) (v : Value) : Sat (setH H ⟨b, j, none⟩ v) (sep (l.set i (blk b (cs.set j v)))) := by
  have hlen : i < l.length := (List.getElem?_eq_some_iff.1 hi).1
  obtain ⟨x, hx, hl⟩ := h.pull i
  obtain ⟨h1, h2, ap, l1, l2, a, c⟩ := hx
  rw [getD_of_get? hi] at a
  obtain ⟨T, a⟩ := a
  have hb := hl b _ (l1 b _ a)
  have hlt : b < H.size := (Array.getElem?_eq_some_iff.1 hb).1
  have h2b : h2 b = none := by
    rcases ap b with h | h
    · rw [a] at h; cases h
    · exact h
  let h1' : Ph := fun b' => if b' = b then some (.cells (cs.set j v).toArray T (0, 0)) else none
  refine ⟨h1'.join h2, sep_push i l _ hlen ⟨h1', h2, fun b' => ?_, Ph.le_join_left, Ph.le_join_right fun b' => ?_, ⟨T, by simp [h1']⟩, c⟩, fun b' o e => ?_⟩
  · by_cases hbb : b' = b
    · subst hbb; exact .inr h2b
    · exact .inl (by simp [h1', hbb])
  · by_cases hbb : b' = b
    · subst hbb; exact .inr h2b
    · exact .inl (by simp [h1', hbb])
  · have hset : (setH H ⟨b, j, none⟩ v)[b']? = if b' = b then some (.cells (cs.set j v).toArray T (0, 0)) else H[b']? := by
      unfold setH World.setCell wof
      simp only [Array.getElem?_modify]
      by_cases hbb : b = b'
      · subst hbb
        simp only [if_true, hb, Option.map_some]
        simp
      · simp [hbb, Ne.symm hbb]
    rw [hset]
    unfold Ph.join at e
    by_cases hbb : b' = b
    · subst hbb
      simp only [h1', if_true] at e ⊢
      exact e
    · simp only [h1', hbb, if_false] at e ⊢
      exact hl b' o (l2 b' o e)

theorem Sat.new {H : Hp} {l : List Asr} (h : Sat H (sep l)) (cs : List Value) (T : TypeId) : Sat (H.push (.cells cs.toArray T (0, 0))) (sep (blk H.size cs :: l)) := by
  obtain ⟨x, a, hl⟩ := h
  let h1 : Ph := fun b => if b = H.size then some (.cells cs.toArray T (0, 0)) else none
  have hx : x H.size = none := by
    cases hx : x H.size with
    | none => rfl
    | some o => have := hl _ _ hx; simp at this
  have hap : h1.apart x := fun b => by
    by_cases hb : b = H.size
    · subst hb; exact .inr hx
    · exact .inl (by simp [h1, hb])
  refine ⟨h1.join x, ⟨h1, x, hap, Ph.le_join_left, Ph.le_join_right hap, ⟨T, by simp [h1]⟩, a⟩, fun b o e => ?_⟩
  unfold Ph.join at e
  by_cases hb : b = H.size
  · subst hb
    simp only [h1, if_true] at e
    simp [Option.some.inj e]
  · simp only [h1, hb, if_false] at e
    have := hl b o e
    have hlt := (Array.getElem?_eq_some_iff.1 this).1
    rw [Array.getElem?_push]
    simp [hb, this]

/-! ### The printed steps -/

theorem add_mk (b o n : Nat) : Addr.add ⟨b, o, none⟩ n = ⟨b, o + n, none⟩ := by
  unfold Addr.add
  split
  · rename_i h; subst h; rfl
  · rfl

theorem optK_some {a : Addr} {K : Addr → Prop} : optK (some a) K = K a := rfl

theorem nw_at {H : Hp} {l : List Asr} {T : TypeId} {cs : List Value} {K : Nat → Hp → Prop} (h : Sat H (sep l)) (k : ∀ b H', Sat H' (sep (blk b cs :: l)) → K b H') : nw T cs.toArray K H :=
  k _ _ (h.new cs T)

def setMany : List Value → Nat → List Value → List Value
  | cs, _, [] => cs
  | cs, j, v :: vs => setMany (cs.set j v) (j + 1) vs

theorem setMany_length : ∀ (vs cs : List Value) (j : Nat), (setMany cs j vs).length = cs.length
  | [], _, _ => rfl
  | v :: vs, cs, j => by simp [setMany, setMany_length vs]

theorem setMany_get : ∀ (vs cs : List Value) (j m : Nat), (setMany cs j vs)[m]? = if j ≤ m ∧ m < j + vs.length ∧ m < cs.length then vs[m - j]? else cs[m]?
  | [], cs, j, m => by simp [setMany]; intro h1 h2; omega
  | v :: vs, cs, j, m => by
    rw [setMany, setMany_get vs]
    simp only [List.length_set, List.length_cons]
    by_cases h1 : j + 1 ≤ m ∧ m < j + 1 + vs.length ∧ m < cs.length
    · rw [if_pos h1, if_pos (by omega)]
      rw [show m - j = (m - (j + 1)) + 1 by omega]
      simp
    · rw [if_neg h1]
      by_cases hm : m = j
      · subst hm
        by_cases hlt : m < cs.length
        · rw [if_pos (by omega)]; simp [hlt]
        · rw [if_neg (by omega)]; simp [hlt]
      · rw [if_neg (by omega), List.getElem?_set_ne (Ne.symm hm)]

theorem wrK_at {K : Hp → Prop} {l : List Asr} {i b : Nat} : ∀ (vs : List Value) (n : Nat) {H : Hp} {cs : List Value} {j : Nat} (l' : List Asr), l'.length = l.length → Sat H (sep l') → l'[i]? = some (blk b cs) → j + n + vs.length ≤ cs.length →
    (∀ H', Sat H' (sep (l'.set i (blk b (setMany cs (j + n) vs)))) → K H') → wrK ⟨b, j, none⟩ vs n K H
  | [], n, H, cs, j, l', _, h, hi, hj, k => by
    refine k H ?_
    have : l'.set i (blk b (setMany cs (j + n) [])) = l' := by
      have hlt : i < l'.length := (List.getElem?_eq_some_iff.1 hi).1
      apply List.ext_getElem?
      intro m
      by_cases hm : i = m
      · subst hm; simp [setMany, hlt]; exact (Option.some.inj ((List.getElem?_eq_getElem hlt).symm.trans hi)).symm
      · rw [List.getElem?_set_ne hm]
    rw [this]; exact h
  | v :: vs, n, H, cs, j, l', hl, h, hi, hj, k => by
    simp only [List.length_cons] at hj
    have hlt : i < l'.length := (List.getElem?_eq_some_iff.1 hi).1
    unfold wrK
    rw [add_mk]
    refine ⟨?_, h.frozen i hi _, ?_⟩
    · rw [h.cell i hi]; simp; omega
    · refine wrK_at (cs := cs.set (j + n) v) (l := l) vs (n + 1) (l'.set i (blk b (cs.set (j + n) v))) (by simp [hl]) (h.set i hi (j + n) v) (List.getElem?_set_self hlt) (by rw [List.length_set]; omega) fun H' h' => k H' ?_
      rw [List.set_set] at h'
      rwa [show j + (n + 1) = j + n + 1 by omega] at h'

/-- A store into the i-th part. -/
theorem wr {H : Hp} {K : Hp → Prop} {l : List Asr} (h : Sat H (sep l)) (i : Nat) {b j : Nat} {cs vs : List Value} (hi : l[i]? = some (blk b cs)) (hj : j + vs.length ≤ cs.length)
    (k : ∀ H', Sat H' (sep (l.set i (blk b (setMany cs j vs)))) → K H') : wrK ⟨b, j, none⟩ vs 0 K H :=
  wrK_at (l := l) vs 0 l rfl h hi (by omega) (by simpa using k)

/-! ### Rows of records -/

def upd {α : Type} (f : Nat → α) (k : Nat) (x : α) : Nat → α := fun i => if i = k then x else f i

theorem upd_fill {α : Type} (i : Nat) (a b : α) : upd (fun j => if j < i then a else b) i a = fun j => if j < i + 1 then a else b := by
  funext j
  unfold upd
  by_cases h1 : j = i
  · subst h1; simp
  · rw [if_neg h1]
    dsimp only
    by_cases h2 : j < i
    · rw [if_pos h2, if_pos (by omega)]
    · rw [if_neg h2, if_neg (by omega)]

def flat {α : Type} (enc : α → List Value) (n : Nat) (f : Nat → α) : List Value := (List.range n).flatMap fun i => enc (f i)

theorem flat_length {α : Type} {enc : α → List Value} {w : Nat} (hw : ∀ x, (enc x).length = w) (n : Nat) (f : Nat → α) : (flat enc n f).length = n * w := by
  unfold flat
  induction n with
  | zero => simp
  | succ n ih => rw [List.range_succ, List.flatMap_append, List.length_append, ih]; simp [hw, Nat.succ_mul]

theorem flat_get {α : Type} {enc : α → List Value} {w : Nat} (hw : ∀ x, (enc x).length = w) (n : Nat) (f : Nat → α) (i j : Nat) (hi : i < n) (hj : j < w) : (flat enc n f)[i * w + j]? = (enc (f i))[j]? := by
  induction n with
  | zero => omega
  | succ n ih =>
    have hlen := flat_length hw n f
    unfold flat at *
    rw [List.range_succ, List.flatMap_append]
    by_cases h : i < n
    · rw [List.getElem?_append_left (by rw [hlen]; have := Nat.mul_le_mul_right w (show i + 1 ≤ n by omega); rw [Nat.succ_mul] at this; omega)]
      exact ih h
    · have : i = n := by omega
      subst this
      rw [List.getElem?_append_right (by rw [hlen]; omega), hlen]
      simp

theorem flat_out {α : Type} {enc : α → List Value} {w : Nat} (hw : ∀ x, (enc x).length = w) (n : Nat) (f : Nat → α) (m : Nat) (hm : n * w ≤ m) : (flat enc n f)[m]? = none :=
  List.getElem?_eq_none (by rw [flat_length hw]; exact hm)

theorem flat_ext {α : Type} {enc : α → List Value} {w : Nat} (hw : ∀ x, (enc x).length = w) (n : Nat) (f : Nat → α) (l : List Value) (hl : l.length = n * w) (h : ∀ i j, i < n → j < w → l[i * w + j]? = (enc (f i))[j]?) : l = flat enc n f := by
  apply List.ext_getElem?
  intro m
  by_cases hm : m < n * w
  · have hw0 : 0 < w := by
      rcases Nat.eq_zero_or_pos w with h | h
      · subst h; simp at hm
      · exact h
    have h1 : m / w < n := Nat.div_lt_of_lt_mul (by rw [Nat.mul_comm]; exact hm)
    have h2 : m % w < w := Nat.mod_lt _ hw0
    have h3 : m = m / w * w + m % w := by rw [Nat.mul_comm]; exact (Nat.div_add_mod m w).symm
    rw [h3, h _ _ h1 h2, flat_get hw n f _ _ h1 h2]
  · rw [List.getElem?_eq_none (by omega), flat_out hw n f m (by omega)]

/-- A record's fields are written. -/
theorem flat_set {α : Type} {enc : α → List Value} {w : Nat} (hw : ∀ x, (enc x).length = w) (n : Nat) (f : Nat → α) (i j : Nat) (vs : List Value) (x : α) (hi : i < n) (hj : j + vs.length ≤ w) (hx : enc x = setMany (enc (f i)) j vs) :
    setMany (flat enc n f) (i * w + j) vs = flat enc n (upd f i x) := by
  refine flat_ext hw n _ _ (by rw [setMany_length, flat_length hw]) fun i' j' hi' hj' => ?_
  rw [setMany_get, flat_length hw]
  have hb : i' * w + j' < n * w := by have := Nat.mul_le_mul_right w (show i' + 1 ≤ n by omega); rw [Nat.succ_mul] at this; omega
  unfold upd
  by_cases hii : i' = i
  · subst hii
    rw [if_pos rfl, hx, setMany_get, hw]
    by_cases hr : j ≤ j' ∧ j' < j + vs.length
    · rw [if_pos ⟨by omega, by omega, hb⟩, if_pos ⟨hr.1, hr.2, hj'⟩]; congr 1; omega
    · rw [if_neg (by omega), if_neg (by omega), flat_get hw n f _ _ hi' hj']
  · rw [if_neg hii, if_neg, flat_get hw n f _ _ hi' hj']
    rintro ⟨h1, h2, _⟩
    rcases Nat.lt_or_ge i' i with h | h
    · have := Nat.mul_le_mul_right w (show i' + 1 ≤ i by omega); rw [Nat.succ_mul] at this; omega
    · have := Nat.mul_le_mul_right w (show i + 1 ≤ i' by omega); rw [Nat.succ_mul] at this; omega

/-- Fields of the r-th record are written. -/
theorem wrR {H : Hp} {K : Hp → Prop} {l : List Asr} {α : Type} {enc : α → List Value} {w n : Nat} {f : Nat → α} (hw : ∀ x, (enc x).length = w) (h : Sat H (sep l)) (i : Nat) {b : Nat} {vs : List Value} (hi : l[i]? = some (blk b (flat enc n f))) (r j : Nat) (x : α)
    (hr : r < n) (hj : j + vs.length ≤ w) (hx : enc x = setMany (enc (f r)) j vs) (k : ∀ H', Sat H' (sep (l.set i (blk b (flat enc n (upd f r x))))) → K H') : wrK ⟨b, r * w + j, none⟩ vs 0 K H := by
  refine wr h i hi ?_ fun H' h' => k H' ?_
  · rw [flat_length hw]
    have := Nat.mul_le_mul_right w (show r + 1 ≤ n by omega)
    rw [Nat.succ_mul] at this
    omega
  · rwa [flat_set hw n f r j vs x hr hj hx] at h'

theorem wrR0 {H : Hp} {K : Hp → Prop} {l : List Asr} {α : Type} {enc : α → List Value} {w n : Nat} {f : Nat → α} (hw : ∀ x, (enc x).length = w) (h : Sat H (sep l)) (i : Nat) {b : Nat} {vs : List Value} (hi : l[i]? = some (blk b (flat enc n f))) (r : Nat) (x : α)
    (hr : r < n) (hj : vs.length ≤ w) (hx : enc x = setMany (enc (f r)) 0 vs) (k : ∀ H', Sat H' (sep (l.set i (blk b (flat enc n (upd f r x))))) → K H') : wrK ⟨b, r * w, none⟩ vs 0 K H :=
  wrR hw h i hi r 0 x hr (by omega) hx k

/-! ### Parts of parts -/

theorem sep_le : ∀ {l : List Asr} {a b : Ph}, Ph.le a b → sep l a → sep l b
  | [], _, _, _, _ => trivial
  | _ :: _, _, _, hle, ⟨h1, h2, ap, l1, l2, x, y⟩ => ⟨h1, h2, ap, Ph.le_trans l1 hle, Ph.le_trans l2 hle, x, y⟩

theorem sep_append : ∀ (l1 l2 : List Asr) {h : Ph}, star (sep l1) (sep l2) h → sep (l1 ++ l2) h
  | [], _, _, ⟨_, h2, _, _, l2, _, b⟩ => by
    -- what holds of a part holds of the whole
    exact sep_le l2 b
  | A :: l1, l2, h, x => by
    have : star A (star (sep l1) (sep l2)) h := star_assoc' x
    exact star_mono (fun _ y => y) (fun _ y => sep_append l1 l2 y) this

theorem sep_split : ∀ (l1 l2 : List Asr) {h : Ph}, sep (l1 ++ l2) h → star (sep l1) (sep l2) h
  | [], _, h, x => ⟨fun _ => none, h, fun _ => .inl rfl, fun _ _ e => (by cases e), Ph.le_refl h, trivial, x⟩
  | A :: l1, l2, h, x => by
    have : star A (star (sep l1) (sep l2)) h := star_mono (fun _ y => y) (fun _ y => sep_split l1 l2 y) x
    exact star_assoc this

/-- A thing whose make is kept to itself. -/
def exS {α : Type} (φ : α → Prop) (l : α → List Asr) : Asr := fun h => ∃ x, φ x ∧ sep (l x) h

theorem Sat.open {H : Hp} {α : Type} {φ : α → Prop} {l : α → List Asr} {F : List Asr} (h : Sat H (sep (exS φ l :: F))) : ∃ x, φ x ∧ Sat H (sep (l x ++ F)) := by
  obtain ⟨m, ⟨h1, h2, ap, l1, l2, ⟨x, hx, hl⟩, hF⟩, hle⟩ := h
  exact ⟨x, hx, m, sep_append _ _ ⟨h1, h2, ap, l1, l2, hl, hF⟩, hle⟩

theorem Sat.close {H : Hp} {α : Type} {φ : α → Prop} {l : α → List Asr} {F : List Asr} (x : α) (hx : φ x) (h : Sat H (sep (l x ++ F))) : Sat H (sep (exS φ l :: F)) := by
  obtain ⟨m, hs, hle⟩ := h
  obtain ⟨h1, h2, ap, l1, l2, hl, hF⟩ := sep_split _ _ hs
  exact ⟨m, ⟨h1, h2, ap, l1, l2, ⟨x, hx, hl⟩, hF⟩, hle⟩

theorem sep_perm {l1 l2 : List Asr} (p : l1.Perm l2) : ∀ {h : Ph}, sep l1 h → sep l2 h := by
  induction p with
  | nil => intro h x; exact x
  | cons A _ ih => intro h x; exact star_mono (fun _ y => y) (fun _ y => ih y) x
  | swap A B l => intro h x; exact star_swap x
  | trans _ _ ih1 ih2 => intro h x; exact ih2 (ih1 x)

theorem Sat.perm {H : Hp} {l1 l2 : List Asr} (h : Sat H (sep l1)) (p : l1.Perm l2) : Sat H (sep l2) := h.mono fun _ x => sep_perm p x

theorem wrap64_id {n : Int} (h0 : -9223372036854775808 ≤ n) (h1 : n ≤ 9223372036854775807) : IntKind.wrap .i64 n = n := by
  simp [IntKind.wrap, IntKind.bits, IntKind.signed]
  omega

theorem wrapU_id {n : Int} (h0 : 0 ≤ n) (h1 : n ≤ 18446744073709551615) : IntKind.wrap .u64 n = n := by
  simp [IntKind.wrap, IntKind.bits, IntKind.signed]
  omega

end Go.EV
