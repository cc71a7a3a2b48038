/- From what a call does on the heap to what a row says of a law: it answers true, and all that came in reads as it did. -/
import Derived.ChangeSlices
import Derived.JoinedOf
import Derived.Handed
import Derived.ProofKit
import Derived.Carry
import Derived.RowKit
import Derived.Test.YtlkocnmgpalmnaaEvO
namespace Go.EV
open Go Go.RowKit Go.ChangeShapes Go.WideShapes Go.ChangeAt

theorem below_of {W W' : World} (hs : Same W W') (hg : Grows W.heap W'.heap) : Below W.heap.size W W' := by
  obtain ⟨os, he⟩ := hg
  refine ⟨hs.os, hs.tape, hs.output, by rw [he, Array.size_append]; omega, fun k hk => ?_⟩
  rw [he, Array.getElem?_append, if_pos hk]

theorem trodAll_below {H : Type} {enc : TypeId × Value → H} {P : Program} (hl : laidOutB P = true) {W W' : World} (hb : Below W.heap.size W W') : ∀ (ts : List TypeId) (vs : List Value) (ds : List (DataW H)) (ps : List MemPlace),
    (∀ t ∈ ts, P.readableRec t = true ∧ t < P.types.size) → DataW.TrodAll enc P W 0 (fun _ => true) true ts vs ds ps → (∀ x ∈ ps, x.block < W.heap.size) → DataW.TrodAll enc P W' 0 (fun b => decide (b < W.heap.size)) true ts vs ds ps
  | [], [], [], _, _, h, _ => h
  | t :: ts, v :: vs, d :: ds, _, hr, ⟨p, q, h1, h2, he⟩, hlt => by
    subst he
    have hr0 := hr t (List.mem_cons_self ..)
    exact ⟨p, q, Below.trod hl hr0.1 hr0.2 h1 hb (fun x hx => hlt x (List.mem_append_left _ hx)), trodAll_below hl hb ts vs ds q (fun t ht => hr t (List.mem_cons_of_mem _ ht)) h2 (fun x hx => hlt x (List.mem_append_right _ hx)), rfl⟩
  | [], _ :: _, _, _, _, h, _ => h.elim
  | [], [], _ :: _, _, _, h, _ => h.elim
  | _ :: _, [], _, _, _, h, _ => h.elim
  | _ :: _, _ :: _, [], _, _, h, _ => h.elim

theorem law_lift {H : Type} {enc : TypeId × Value → H} {C : Checked} {os : Os} {f : FuncId} {fn : Func} {s : ChangeSpec} {tb : TypeId} (own : ownKnob C.prog.godebug = none) (started : os.Started) (noInit : C.prog.inits.idxOf? f = none) (hfn : C.prog.funcs[f]? = some fn)
    (witness : ∃ (w : World) (tape : Tape) (i : Input), w.os = os ∧ (w.forCall tape i).Shaped C.prog ∧ i.vars = [] ∧ Input.okWide C.prog (w.forCall tape i) .any w.heap.size f i ∧
      s.pre6 enc C.prog fn [] false (w.forCall tape i).memory i.args ∧ ({} : Assume).holds C.prog (lone (Frame.enter C.prog f i.args .normal) [] (w.forCall tape i)))
    (hl : laidOutB C.prog = true) (hr : (fn.params.toList.all fun t => C.prog.readableRec t && decide (t < C.prog.types.size)) = true) (hres : fn.resultTypes = #[tb]) (htb : C.prog.underlying tb = some .bool) (hvars : s.vars = [])
    (walk : ∀ (W : World) (base : Nat) (args : Array Value) (ds : List (DataW H)) (ps : List MemPlace), (∀ (j : Nat) t v, fn.params[j]? = some t → args[j]? = some v → Value.okWide C.prog W .any base t v) →
      DataW.TrodAll enc C.prog W 0 (fun _ => true) true fn.params.toList args.toList ds ps →
      s.fn H ds = { results := [.lit (.bool true)], args := ds } ∧ CallV C.prog f args W.heap fun v H' => v = .bool true ∧ Grows W.heap H') :
    ReturnsInHanded {} C os f .any (s.pre6 enc C.prog fn [] false) (s.post enc C.prog fn false true false false) := by
  refine returnsInHanded_of_change own started noInit hfn witness ?_
  intro W base args ds gs before hval hW _ _
  have hW' := hW
  obtain ⟨p, q, hA, hV, rfl, _, _⟩ := hW
  rw [hvars] at hV
  have hgs : gs = [] ∧ q = [] := by
    cases gs with
    | nil => exact ⟨rfl, hV⟩
    | cons => exact hV.elim
  obtain ⟨rfl, rfl⟩ := hgs
  obtain ⟨e, hcall⟩ := walk W base args ds p hval hA
  refine (hcall W rfl).mono ?_
  rintro en W' ⟨v, rfl, hs, rfl, hg⟩
  have hb := below_of hs hg
  have hlt : ∀ x ∈ p, x.block < W.heap.size := fun x hx => by simpa using hW'.lt x (List.mem_append_left _ hx)
  have hpar := trodAll_below (enc := enc) hl hb _ _ _ _ (fun t ht => by
    have := List.all_eq_true.1 hr t ht
    simp only [Bool.and_eq_true, decide_eq_true_eq] at this
    exact this) hA hlt
  refine ⟨_, rfl, ds, [], p ++ [], [], p, [], hW', ?_, ?_, ?_, hb.frame _, fun h => by cases h⟩
  · rw [List.append_nil, e, hres]
    exact trodAll_mk1 (shut_bool htb _)
  · rw [List.append_nil, e]
    exact hpar
  · rw [hvars, List.append_nil, e]
    rfl

theorem u64_bounds {n : Int} (h : (Lit.int .u64 n).wf = true) : 0 ≤ n ∧ n < 18446744073709551616 := by
  have : 0 ≤ n ∧ n ≤ 18446744073709551615 := by simpa [Lit.wf, IntKind.min, IntKind.max, IntKind.signed, IntKind.bits] using h
  omega

/-- A number without a sign, as it comes in. -/
theorem arg_u64 {H : Type} {enc : TypeId × Value → H} {P : Program} {W : World} {t base : Nat} {v : Value} {d : DataW H} {ps : List MemPlace} {sp : Nat → Bool} {hd : Bool} (ht : P.underlying t = some (.int .u64)) (hval : Value.okWide P W .any base t v) (h : DataW.Trod enc P W 0 sp hd t v d ps) :
    ∃ n : Nat, v = .int .u64 n ∧ n < 18446744073709551616 := by
  obtain ⟨n, rfl, _, _, hw⟩ := open_int ht hval h
  have hb := u64_bounds hw
  exact ⟨n.toNat, by rw [Int.toNat_of_nonneg hb.1], by omega⟩

/-- A slice of such, as it comes in. -/
theorem arg_u64s {H : Type} {enc : TypeId × Value → H} {P : Program} {W : World} {t e base : Nat} {v : Value} {d : DataW H} {ps : List MemPlace} {hd : Bool} (ht : P.underlying t = some (.slice e)) (he : P.underlying e = some (.int .u64)) (hc : P.cellsOf e = 1)
    (hval : Value.okWide P W .any base t v) (h : DataW.Trod enc P W 0 (fun _ => true) hd t v d ps) :
    ∃ (a : Option Addr) (c : Nat) (xs : List Nat), v = .slice a xs.length c ∧ RdU W.heap a xs ∧ ∀ x, x ∈ xs → x < 18446744073709551616 := by
  obtain ⟨a, l, c, rfl⟩ := okWide_slice ht hval
  obtain ⟨fuel, hf⟩ := h
  rcases open_ints ht he hc hf with ⟨hcs, _⟩ | ⟨ad, l', c', zs, hcs, _, hlc, _, hz, _, hcell, hw⟩
  · simp [Value.cells] at hcs
    obtain ⟨rfl, rfl, rfl⟩ := hcs
    exact ⟨none, 0, [], rfl, fun j k hj => by simp at hj, fun x hx => by simp at hx⟩
  · simp [Value.cells] at hcs
    obtain ⟨rfl, rfl, rfl⟩ := hcs
    simp only [if_true] at hz
    refine ⟨some ad, c, (zs.take l).map Int.toNat, by rw [List.length_map, List.length_take, Nat.min_eq_left (by omega)], fun j k hj => ⟨ad, rfl, ?_⟩, fun x hx => ?_⟩
    · rw [List.getElem?_map] at hj
      obtain ⟨z, hz', rfl⟩ := Option.map_eq_some_iff.1 hj
      have hjl : j < zs.length := by
        have := (List.getElem?_eq_some_iff.1 hz').1
        rw [List.length_take] at this; omega
      have hget : zs[j]? = some z := by
        rw [List.getElem?_take] at hz'
        split at hz'
        · exact hz'
        · cases hz'
      have := hcell j hjl
      rw [List.getD_eq_getElem?_getD, hget] at this
      have hb := u64_bounds (hw z (List.mem_of_getElem? hget))
      show W.cell? (ad.add j) = _
      rw [this, Int.toNat_of_nonneg hb.1]
      rfl
    · obtain ⟨z, hz', rfl⟩ := List.mem_map.1 hx
      have hb := u64_bounds (hw z (List.mem_of_mem_take hz'))
      omega

end Go.EV
