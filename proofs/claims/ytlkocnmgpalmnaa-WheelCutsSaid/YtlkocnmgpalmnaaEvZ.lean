/- The sort of a slice of numbers below a bound, by an order of one's own that reads memory. -/
import Derived.Shelf.SlSortCmp.NoneTotal
import Derived.Test.YtlkocnmgpalmnaaEvO
namespace Go.EV
open Go Go.Proofs Go.Shelf Go.Lib Go.Sort

theorem sort_at {P : Program} {ρ : Ren} (L : SlLaysF.n6 P ρ) {m : Nat} (cf : Fin m → Fin m → Int) (hO : SWO (ltOf cf)) (hT : ∀ x y, (ltOf cf) x y = false → (ltOf cf) y x = false → x = y) (g : Nat) (cb : Array Value)
    (eg : ∀ args w, (callFunc g args).run P w = .ok (.enter g args) w) {G : List Asr}
    (hcmp : ∀ (x y : Fin m) (H : Hp), Sat H (sep G) → CallV P g (#[.int .i64 (x.val : Nat), .int .i64 (y.val : Nat)] ++ cb) H fun v H' => v = .int .i64 (cf x y) ∧ Grows H H')
    {H : Hp} {a : Option Addr} {c : Nat} {q : List (Fin m)} (hlen : q.length < 4611686018427387904) (hS : Sat H (sep (own a q.length c 1 (ints (q.map fun x => x.val)) :: G))) :
    CallV P (ρ.f 6) #[.slice a q.length c, .func (.func g) #[] cb] H fun v H' =>
      v = .tuple #[] ∧ Sat H' (sep (own a q.length c 1 (ints ((q.mergeSort fun x y => !(ltOf cf) y x).map fun x => x.val)) :: G)) := by
  intro w hw
  subst hw
  by_cases h0 : q.length = 0
  · have hq : q = [] := List.length_eq_zero_iff.1 h0
    subst hq
    refine (AnyF.slices_SortFunc_none { L with } a c (.func (.func g) #[] cb) w).mono ?_
    rintro e w' ⟨rfl, rfl⟩
    exact ⟨_, rfl, Same.refl _, rfl, by simpa using hS⟩
  obtain ⟨x0, hx0⟩ : ∃ x0, q[0]? = some x0 := ⟨q[0]'(by omega), List.getElem?_eq_getElem (by omega)⟩
  haveI : Inhabited (Fin m) := ⟨x0⟩
  obtain ⟨y, ⟨h1, h2, ap, l1, l2, ho, hG⟩, hle⟩ := hS
  cases a with
  | none => exact absurd ho.2.1 h0
  | some ad =>
  obtain ⟨b, spare, rfl, hcl, T, hb⟩ := ho.2
  generalize hen : (fun x : Fin m => Value.int .i64 (x.val : Nat)) = enc
  have hints : ∀ r : List (Fin m), ints (r.map fun x => x.val) = r.map enc := fun r => by
    subst hen; unfold ints; rw [List.map_map]; rfl
  rw [hints] at hb hcl ho
  have hbw : w.heap[b]? = some (.cells (q.map enc ++ spare).toArray T (0, 0)) := hle b _ (l1 b _ hb)
  have hblk : b < w.heap.size := (Array.getElem?_eq_some_iff.1 hbw).1
  have hH : Holds enc w b 0 q.toArray := by
    intro j hj
    have hj' : j < q.length := by simpa using hj
    constructor
    · unfold World.cell?
      simp [hbw, List.getElem?_append_left, hj']
    · unfold World.frozen?
      simp [hbw]
  -- what the world of the sort holds
  have hworld : ∀ (n : Nat) (os : Array Obj) (dk : List (Fin m)), dk.length = q.length → ∀ b' o, h2 b' = some o → (sortWorld enc w b 0 n dk.toArray os).heap[b']? = some o := by
    intro n os dk hdk b' o hb'
    have hne : b' ≠ b := fun h => by
      subst h
      rcases ap b' with h | h
      · rw [h] at hb; cases hb
      · rw [h] at hb'; cases hb'
    have h3 := hle b' o (l2 b' o hb')
    have hlt := (Array.getElem?_eq_some_iff.1 h3).1
    show ((w.heap.modify b _) ++ os)[b']? = some o
    rw [Array.getElem?_append, if_pos (by simpa using hlt), Array.getElem?_modify, if_neg (Ne.symm hne)]
    exact h3
  have hown : ∀ (n : Nat) (os : Array Obj) (dk : List (Fin m)), dk.length = q.length → (sortWorld enc w b 0 n dk.toArray os).heap[b]? = some (.cells (dk.map enc ++ spare).toArray T (0, 0)) := by
    intro n os dk hdk
    show ((w.heap.modify b _) ++ os)[b]? = _
    rw [Array.getElem?_append, if_pos (by simpa using hblk), Array.getElem?_modify, if_pos rfl, hbw]
    simp only [Option.map_some, onCells]
    congr 2
    apply Array.ext_getElem?
    intro i
    unfold putCells
    rw [Array.getElem?_mapIdx]
    simp only [List.size_toArray, List.getElem?_toArray, Nat.zero_le, true_and, Nat.zero_add, Nat.sub_zero]
    by_cases hi : i < q.length
    · rw [List.getElem?_append_left (by simpa using hi), List.getElem?_append_left (by simpa [hdk] using hi), List.getElem?_map, List.getElem?_map, List.getElem?_eq_getElem hi, List.getElem?_eq_getElem (by omega)]
      simp [hdk, hi]
    · rw [List.getElem?_append_right (by simpa using hi), List.getElem?_append_right (by simpa [hdk] using hi)]
      simp only [List.length_map, hdk, if_neg hi]
      cases spare[i - q.length]? <;> rfl
  have hSG : ∀ (n : Nat) (os : Array Obj) (dk : List (Fin m)), dk.length = q.length → Sat (sortWorld enc w b 0 n dk.toArray os).heap (sep G) := fun n os dk hdk => ⟨h2, hG, hworld n os dk hdk⟩
  have hlays : CmpLays1 P g cb enc cf b 0 q.toArray.size w := by
    intro n os dk hdk x y
    have hd : dk.toList.length = q.length := by simpa using hdk
    have hsg := hSG n os dk.toList hd
    rw [Array.toArray_toList] at hsg
    generalize sortWorld enc w b 0 n dk os = W at hsg ⊢
    have := hcmp x y _ hsg W rfl
    have he : ∀ x, enc x = Value.int .i64 (x.val : Nat) := fun x => by subst hen; rfl
    rw [he, he]
    refine Calls.mono this ?_
    rintro e w' ⟨v, rfl, hs, rfl, os', hg⟩
    refine ⟨rfl, w'.drawn - W.drawn, os', ?_⟩
    have hd := hs.drawn
    cases w' with
    | mk heap tape drawn os output =>
    have e1 := hs.tape; have e2 := hs.os; have e3 := hs.output
    simp only at e1 e2 e3 hg hd
    subst e1; subst e2; subst e3; subst hg
    unfold grow World.drewN
    congr 1
    simp only
    omega
  have := Any.slices_SortFunc_total L enc (by subst hen; exact fun _ => rfl) cf hO g cb b 0 c q.toArray w eg hlays hH hblk (by simpa using hlen) hT
  have hsz : q.toArray.size = q.length := by simp
  rw [hsz] at this
  refine Calls.mono this ?_
  rintro e w' ⟨rfl, n, os, rfl⟩
  refine ⟨_, rfl, ⟨rfl, rfl, rfl, Nat.le_add_right _ _⟩, rfl, ?_⟩
  have hms : ((q.mergeSort fun x y => !(ltOf cf) y x)).length = q.length := List.length_mergeSort _
  have e1 := hown n os _ hms
  have e2 := hworld n os _ hms
  rw [hints]
  refine ⟨Ph.join (fun k => if k = b then some (.cells (((q.mergeSort fun x y => !(ltOf cf) y x)).map enc ++ spare).toArray T (0, 0)) else none) h2, ⟨_, h2, ?_, Ph.le_join_left, Ph.le_join_right ?_, ⟨by rw [List.length_map, hms, Nat.mul_one], b, spare, rfl, by rw [← hcl, List.length_append, List.length_append, List.length_map, List.length_map, hms], T, if_pos rfl⟩, hG⟩, ?_⟩
  · intro k
    by_cases hk : k = b
    · subst hk
      rcases ap k with h | h
      · rw [h] at hb; cases hb
      · exact .inr h
    · exact .inl (if_neg hk)
  · intro k
    by_cases hk : k = b
    · subst hk
      rcases ap k with h | h
      · rw [h] at hb; cases hb
      · exact .inr h
    · exact .inl (if_neg hk)
  · intro k o hk
    unfold Ph.join at hk
    by_cases hkb : k = b
    · subst hkb
      simp only [if_true] at hk
      cases hk
      exact e1
    · simp only [if_neg hkb] at hk
      exact e2 k o hk

end Go.EV
