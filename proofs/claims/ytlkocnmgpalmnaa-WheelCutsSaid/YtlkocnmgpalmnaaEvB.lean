/- A region that draws its order: whatever the order, what the text's own order shows, if every two operations that may change places do not touch one another. -/
import Derived.Test.YtlkocnmgpalmnaaEvA
import Derived.Tactics
namespace Go.EV
open Go

def maskOf (acc : List Nat) : List Edge → Nat
  | [] => 0
  | e :: r => (if Region.binds .any e then 2 ^ e.on ||| acc.getD e.on 0 else 0) ||| maskOf acc r

def masks : List Oper → List Nat → List Nat
  | [], acc => acc
  | o :: l, acc => masks l (acc ++ [maskOf acc o.after.toList])

theorem maskOf_bit {acc : List Nat} {i : Nat} : ∀ {es : List Edge}, (maskOf acc es).testBit i = true → ∃ e ∈ es, Region.binds .any e = true ∧ (e.on = i ∨ (acc.getD e.on 0).testBit i = true)
  | [], h => by simp [maskOf] at h
  | e :: r, h => by
    simp only [maskOf, Nat.testBit_or, Bool.or_eq_true] at h
    rcases h with h | h
    · cases hb : Region.binds .any e with
      | false => rw [hb] at h; simp at h
      | true =>
        rw [hb] at h
        simp only [if_true, Nat.testBit_or, Bool.or_eq_true] at h
        rcases h with h | h
        · refine ⟨e, List.mem_cons_self, hb, .inl ?_⟩
          rw [Nat.testBit_two_pow] at h
          simpa using h
        · exact ⟨e, List.mem_cons_self, hb, .inr h⟩
    · obtain ⟨e', he, h'⟩ := maskOf_bit h
      exact ⟨e', List.mem_cons_of_mem _ he, h'⟩

theorem masks_len : ∀ (l : List Oper) (acc : List Nat), (masks l acc).length = acc.length + l.length
  | [], acc => by simp [masks]
  | o :: l, acc => by simp [masks, masks_len l]; omega

theorem masks_old : ∀ (l : List Oper) (acc : List Nat) (j : Nat), j < acc.length → (masks l acc).getD j 0 = acc.getD j 0
  | [], _, _, _ => rfl
  | o :: l, acc, j, h => by
    rw [masks, masks_old l _ j (by simp; omega)]
    simp [List.getElem?_append_left h]

/-- The masks of the first j rows, when row j was made. -/
theorem masks_get : ∀ (l : List Oper) (acc : List Nat) (j : Nat) (o : Oper), l[j]? = some o →
    ∃ acc', (masks l acc).getD (acc.length + j) 0 = maskOf acc' o.after.toList ∧ acc'.length = acc.length + j ∧ ∀ i, i < acc'.length → acc'.getD i 0 = (masks l acc).getD i 0
  | [], _, _, _, h => by simp at h
  | x :: l, acc, 0, o, h => by
    simp at h; subst h
    refine ⟨acc, ?_, rfl, fun i hi => ?_⟩
    · rw [masks, masks_old l _ _ (by simp)]; simp
    · rw [masks, masks_old l _ _ (by simp; omega)]; simp [List.getElem?_append_left hi]
  | x :: l, acc, j + 1, o, h => by
    simp at h
    obtain ⟨acc', h1, h2, h3⟩ := masks_get l (acc ++ [maskOf acc x.after.toList]) j o h
    refine ⟨acc', ?_, ?_, ?_⟩
    · rw [masks, ← h1]; congr 1; simp; omega
    · rw [h2]; simp; omega
    · intro i hi; rw [masks]; exact h3 i hi

def Down (ops : Array Oper) (listed : Array Bool) : Prop :=
  listed.size = ops.size ∧ ∀ j oj, ops[j]? = some oj → listed.getD j false = true → ∀ e ∈ oj.after, Region.binds .any e = true → listed.getD e.on false = true

theorem dep_listed {ops : Array Oper} {listed : Array Bool} (hd : Down ops listed) : ∀ (n j : Nat), j ≤ n → ∀ (oj : Oper) (i : Nat), ops[j]? = some oj →
    (∀ e ∈ oj.after, Region.binds .any e = true → listed.getD e.on false = true) → ((masks ops.toList []).getD j 0).testBit i = true → listed.getD i false = true := by
  intro n
  induction n with
  | zero =>
    intro j hj oj i ho hall hb
    have : j = 0 := by omega
    subst this
    obtain ⟨acc', h1, h2, h3⟩ := masks_get ops.toList [] 0 oj (by simpa using ho)
    simp only [List.length_nil, Nat.add_zero] at h1 h2
    rw [h1] at hb
    obtain ⟨e, he, hb1, h | h⟩ := maskOf_bit hb
    · exact h ▸ hall e (by simpa using he) hb1
    · have : acc' = [] := List.length_eq_zero_iff.1 h2
      subst this; simp at h
  | succ n ih =>
    intro j hj oj i ho hall hb
    obtain ⟨acc', h1, h2, h3⟩ := masks_get ops.toList [] j oj (by simpa using ho)
    simp only [List.length_nil, Nat.zero_add] at h1 h2
    rw [h1] at hb
    obtain ⟨e, he, hb1, h | h⟩ := maskOf_bit hb
    · exact h ▸ hall e (by simpa using he) hb1
    · have hlt : e.on < acc'.length := by
        rcases Nat.lt_or_ge e.on acc'.length with h' | h'
        · exact h'
        · simp [List.getElem?_eq_none h'] at h
      rw [h3 _ hlt] at h
      have hl := hall e (by simpa using he) hb1
      have hlo : e.on < ops.size := by
        have := (Array.getElem?_eq_some_iff.1 ho).1
        omega
      exact ih e.on (by omega) _ i (Array.getElem?_eq_getElem hlo) (hd.2 e.on _ (Array.getElem?_eq_getElem hlo) hl) h

/-! ### One step of a region, of whatever order -/

def eV (P : Program) (o : Oper) (ρ : Operand → Value) (K : Value → Hp → Prop) (H : Hp) : Prop :=
  hw P (execOp ρ o) (fun n H' => match n with
    | .value v => K v H'
    | .skip => K undef H'
    | .enter f args => CallV P f args H' K
    | _ => False) H

theorem eV_mono {P : Program} {o : Oper} {ρ : Operand → Value} {K K' : Value → Hp → Prop} {H : Hp} (h : ∀ v H, K v H → K' v H) (hh : eV P o ρ K H) : eV P o ρ K' H :=
  hw_mono P _ (fun n H' hn => by cases n <;> first | exact h _ _ hn | exact hn.elim | exact CallV.mono hn h) hh

theorem eV_some {P : Program} {o : Oper} {ρ : Operand → Value} {K : Value → Hp → Prop} {H : Hp} (hh : eV P o ρ K H) : ∃ v H', K v H' := by
  obtain ⟨n, w', _, _, hn⟩ := hw_sound P _ _ (wof H) hh
  cases n <;> first | exact ⟨_, _, hn⟩ | exact hn.elim | exact CallV.some hn

theorem eV_wp {P : Program} {o : Oper} {a : Act} {K : Value → Hp → Prop} {w : World} {K' : Act → World → Prop} {Q : Exit → Act → World → Prop}
    (h : eV P o a.eval K w.heap) (hk : ∀ v w', Same w w' → K v w'.heap → K' (a.put o.dst v) w') : o.wp P a w K' Q := by
  obtain ⟨n, w', hr, hs, hn⟩ := hw_sound P _ _ w h
  unfold Oper.wp
  rw [hr]
  cases n <;> simp only at hn <;> simp only [Oper.upon]
  case value v => exact hk _ _ hs hn
  case skip => exact hk _ _ hs hn
  case enter f args => exact (hn w' rfl).mono fun e w'' ⟨v, he, hs', hv⟩ => by subst he; exact hk _ _ (hs.trans hs') hv

section
variable (P : Program) (ops : Array Oper) (C : Hp → Prop) (kd : Nat → Nat) (need : Nat → Bool) (KQ : Act → Hp → Prop)

def Yld (i : Nat) (o : Oper) (a : Act) (v : Value) (H : Hp) : Prop :=
  match kd i with
  | 0 => ∀ H', yAt P o a v H'
  | 1 => C H ∧ ∀ H', C H' → yAt P o a v H'
  | _ => yAt P o a v H

/-- It yields v and does nothing; or it is passed over. -/
def QY (i : Nat) (o : Oper) (a : Act) (v : Value) (H : Hp) : Prop :=
  (Region.wanted o (yielded ops a.tmps) = true ∧ kd i ≠ 3 ∧ Yld P C kd i o a v H) ∨ (Region.wanted o (yielded ops a.tmps) = false ∧ v = undef)

def EY (i : Nat) (o : Oper) (a : Act) (K : Act → Hp → Prop) (H : Hp) : Prop :=
  Region.wanted o (yielded ops a.tmps) = true ∧ kd i = 3 ∧ eV P o a.eval (fun v H' => (need i = true → C H') ∧ K (a.put o.dst v) H') H

def stepM (i : Nat) (K : Act → Hp → Prop) (a : Act) (H : Hp) : Prop :=
  ∃ o, ops[i]? = some o ∧ (EY P ops C kd need i o a K H ∨ ∃ v, QY P ops C kd i o a v H ∧ K (a.put o.dst v) H)

def wM : Nat → Array Bool → Act → Hp → Prop
  | 0, listed, a, H => Region.ready .any ops listed = [] ∧ KQ a H
  | f + 1, listed, a, H => (Region.ready .any ops listed = [] → KQ a H) ∧ ∀ i ∈ Region.ready .any ops listed, stepM P ops C kd need i (wM f (listed.setIfInBounds i true)) a H

/-- The text's own order. -/
def wT : List Oper → Nat → Act → Hp → Prop
  | [], _ => KQ
  | _ :: l, k => stepM P ops C kd need k (wT l (k + 1))

def kindsOk (a b : Nat) : Bool := !((a == 3 && b == 3) || (a == 3 && b == 2) || (a == 2 && b == 3))

def pairOk (M : List Nat) (i j : Nat) (oi oj : Oper) : Bool := (M.getD j 0).testBit i || (oi.apart ops oj && kindsOk (kd i) (kd j))

structure MixOk : Prop where
  sel : ∀ (j : Nat) (o : Oper) cs b, ops[j]? = some o → o.op ≠ .select cs b
  edge : ∀ (j : Nat) (o : Oper), ops[j]? = some o → ∀ e ∈ o.after, Region.binds .any e = true → e.on < j
  pair : ∀ (i j : Nat) (oi oj : Oper), i < j → ops[i]? = some oi → ops[j]? = some oj → pairOk ops kd (masks ops.toList []) i j oi oj = true
  need : ∀ i m : Nat, m < ops.size → kd m = 1 → need i = false → m ≤ i ∧ ((masks ops.toList []).getD i 0).testBit m = true
end

variable {P : Program} {ops : Array Oper} {C : Hp → Prop} {kd : Nat → Nat} {need : Nat → Bool} {KQ : Act → Hp → Prop}

theorem stepM_mono {i : Nat} {K K' : Act → Hp → Prop} {a : Act} {H : Hp} (h : ∀ a H, K a H → K' a H) (hh : stepM P ops C kd need i K a H) : stepM P ops C kd need i K' a H := by
  obtain ⟨o, ho, ⟨h1, h2, h3⟩ | ⟨v, h1, h2⟩⟩ := hh
  · exact ⟨o, ho, .inl ⟨h1, h2, eV_mono (fun v H' h4 => ⟨h4.1, h _ _ h4.2⟩) h3⟩⟩
  · exact ⟨o, ho, .inr ⟨v, h1, h _ _ h2⟩⟩

theorem Yld.at {i : Nat} {o : Oper} {a : Act} {v : Value} {H : Hp} (h : Yld P C kd i o a v H) : yAt P o a v H := by
  unfold Yld at h
  split at h
  · exact h H
  · exact h.2 H h.1
  · exact h

theorem wM_sound {Q : Exit → Act → World → Prop} {w0 : World} (hQ : ∀ a w, Same w0 w → KQ a w.heap → Q .normal a w) : ∀ (f : Nat) (listed : Array Bool) (a : Act) (w : World), Same w0 w →
    wM P ops C kd need KQ f listed a w.heap → wpAny P .any ops Q f listed a w
  | 0, _, _, _, hw, h => ⟨h.1, hQ _ _ hw h.2⟩
  | f + 1, listed, a, w, hw, h => by
    refine ⟨fun h0 => hQ _ _ hw (h.1 h0), fun i hi => ?_⟩
    obtain ⟨o, ho, h1⟩ := h.2 i hi
    unfold wpOp
    simp only [ho]
    rcases h1 with ⟨h1, h2, h3⟩ | ⟨v, ⟨h1, h2, h3⟩ | ⟨h1, rfl⟩, h4⟩
    · rw [if_pos h1]
      exact .inl (eV_wp h3 fun v w' hs hk => wM_sound hQ f _ _ _ (hw.trans hs) hk.2)
    · rw [if_pos h1]
      refine .inl (upon_of_eStep (K := fun a' H' => a' = a.put o.dst v ∧ H' = w.heap) (yAt_eStep h3.at ⟨rfl, rfl⟩) fun a' w' hs hk => ?_)
      obtain ⟨rfl, hh⟩ := hk
      exact wM_sound hQ f _ _ _ (hw.trans hs) (by rw [hh]; exact h4)
    · rw [if_neg (by simp [h1])]
      exact wM_sound hQ f _ _ _ hw h4

theorem QY.of_same {i : Nat} {o : Oper} {a a' : Act} {v : Value} {H : Hp} (h : QY P ops C kd i o a v H) (he : execOp a'.eval o = execOp a.eval o)
    (hw : Region.wanted o (yielded ops a'.tmps) = Region.wanted o (yielded ops a.tmps)) : QY P ops C kd i o a' v H := by
  unfold QY Yld yAt at *
  rw [he, hw]; exact h

/-- Behind an operation that does something. -/
theorem QY.later {i : Nat} {o : Oper} {a : Act} {v : Value} {H H' : Hp} (h : QY P ops C kd i o a v H) (_h2 : kd i ≠ 2) (h3 : kd i ≠ 3 → kd i = 0 ∨ kd i = 1) (hc : kd i = 1 → C H') : QY P ops C kd i o a v H' := by
  unfold QY at *
  rcases h with ⟨h1, h4, h5⟩ | h
  · refine .inl ⟨h1, h4, ?_⟩
    unfold Yld at *
    rcases h3 h4 with h0 | h0
    · rw [h0] at h5 ⊢; exact h5
    · rw [h0] at h5 ⊢; exact ⟨hc h0, h5.2⟩
  · exact .inr h

theorem QY.unique {i : Nat} {o : Oper} {a : Act} {v u : Value} {H : Hp} (h : QY P ops C kd i o a v H) (h' : QY P ops C kd i o a u H) : v = u := by
  rcases h with ⟨h1, _, h3⟩ | ⟨h1, rfl⟩ <;> rcases h' with ⟨h1', _, h3'⟩ | ⟨h1', rfl⟩
  · exact yAt_unique h3.at h3'.at
  · rw [h1] at h1'; cases h1'
  · rw [h1] at h1'; cases h1'
  · rfl

theorem ready_down {listed : Array Bool} {j : Nat} (hd : Down ops listed) (hj : j ∈ Region.ready .any ops listed) : Down ops (listed.setIfInBounds j true) := by
  obtain ⟨_, oj, hoj, hall⟩ := mem_ready.1 hj
  refine ⟨by simp [hd.1], fun k ok hk hl e he hb => ?_⟩
  by_cases hjk : j = k
  · subst hjk
    have : ok = oj := Option.some.inj (hk.symm.trans hoj)
    subst this
    exact getD_set_true (hall e he hb)
  · rw [getD_set_ne false hjk] at hl
    exact getD_set_true (hd.2 k ok hk hl e he hb)

theorem unlisted_false {listed : Array Bool} {i : Nat} (h : listed.getD i true = false) : listed.getD i false = false := by
  rcases Nat.lt_or_ge i listed.size with h' | h'
  · simp [h'] at h ⊢; exact h
  · simp [Array.getElem?_eq_none h'] at h

theorem wM_first (ok : MixOk ops kd need) (hkd : ∀ i, kd i ≤ 3) {k : Nat} {o : Oper} (hk : ops[k]? = some o) :
    ∀ (f : Nat) (listed : Array Bool) (a : Act) (H : Hp), Down ops listed → k ∈ Region.ready .any ops listed → (∀ i, i < k → listed.getD i false = true) →
      (∀ m, m < ops.size → kd m = 1 → listed.getD m true = false → C H) →
      stepM P ops C kd need k (wM P ops C kd need KQ f (listed.setIfInBounds k true)) a H → wM P ops C kd need KQ (f + 1) listed a H := by
  intro f
  induction f with
  | zero =>
    intro listed a H hd hr hlow hC hs
    refine ⟨fun h => (by rw [h] at hr; cases hr), fun j hj => ?_⟩
    by_cases hjk : j = k
    · subst hjk; exact hs
    · exfalso
      have hjr := ready_mono hj hjk
      have key : ∀ a' H', ¬ wM P ops C kd need KQ 0 (listed.setIfInBounds k true) a' H' := fun a' H' h => by
        rw [h.1] at hjr; cases hjr
      obtain ⟨o', ho', ⟨_, _, h3⟩ | ⟨v, _, h2⟩⟩ := hs
      · obtain ⟨v, H', h4⟩ := eV_some h3
        exact key _ _ h4.2
      · exact key _ _ h2
  | succ f ih =>
    intro listed a H hd hr hlow hC hs
    refine ⟨fun h => (by rw [h] at hr; cases hr), fun j hj => ?_⟩
    by_cases hjk : j = k
    · subst hjk; exact hs
    have hkun := (mem_ready.1 hr).1
    obtain ⟨hjun, oj, hoj, hall⟩ := mem_ready.1 hj
    have hklt : k < j := by
      rcases Nat.lt_or_ge j k with h | h
      · have := hlow j h; rw [unlisted_false hjun] at this; cases this
      · omega
    have hnd : ∀ m, listed.getD m true = false → ((masks ops.toList []).getD j 0).testBit m = false := fun m hm => by
      cases hb : ((masks ops.toList []).getD j 0).testBit m with
      | false => rfl
      | true =>
        have := dep_listed hd j j (Nat.le_refl _) oj m hoj hall hb
        rw [unlisted_false hm] at this; cases this
    have hp := ok.pair k j o oj hklt hk hoj
    unfold pairOk at hp
    rw [hnd k hkun] at hp
    simp only [Bool.false_or, Bool.and_eq_true] at hp
    obtain ⟨hap, hkk⟩ := hp
    obtain ⟨p1, p2, p3⟩ := Oper.apart_spec hap
    have hjr := ready_mono hj hjk
    have hdj := ready_down hd hj
    have hrk : k ∈ Region.ready .any ops (listed.setIfInBounds j true) := ready_mono hr (Ne.symm hjk)
    have hlow' : ∀ i, i < k → (listed.setIfInBounds j true).getD i false = true := fun i hi => getD_set_true (hlow i hi)
    have hun' : ∀ m, (listed.setIfInBounds j true).getD m true = false → listed.getD m true = false := fun m hm => by
      by_cases hjm : j = m
      · subst hjm; exact hjun
      · rwa [getD_set_ne true hjm] at hm
    have hneed : ∀ m, m < ops.size → kd m = 1 → listed.getD m true = false → need j = true := fun m hm hm1 hmu => by
      cases hn : need j with
      | true => rfl
      | false =>
        have := (ok.need j m hm hm1 hn).2
        rw [hnd m hmu] at this; cases this
    have hklt' : k < ops.size := (Array.getElem?_eq_some_iff.1 hk).1
    have hjlt' : j < ops.size := (Array.getElem?_eq_some_iff.1 hoj).1
    have comm : (listed.setIfInBounds k true).setIfInBounds j true = (listed.setIfInBounds j true).setIfInBounds k true := Array.setIfInBounds_comm _ _ (Ne.symm hjk)
    -- what either one makes of the other's temporaries
    have ej : ∀ (a : Act) v, execOp (a.put o.dst v).eval oj = execOp a.eval oj := fun a v => execOp_put oj (fun cs b => ok.sel j oj cs b hoj) a o.dst v p1
    have wj : ∀ (a : Act) v, Region.wanted oj (yielded ops (a.put o.dst v).tmps) = Region.wanted oj (yielded ops a.tmps) := fun a v => wanted_put oj a o.dst v p1
    have ek : ∀ (a : Act) v, execOp (a.put oj.dst v).eval o = execOp a.eval o := fun a v => execOp_put o (fun cs b => ok.sel k o cs b hk) a oj.dst v p3
    have wk : ∀ (a : Act) v, Region.wanted o (yielded ops (a.put oj.dst v).tmps) = Region.wanted o (yielded ops a.tmps) := fun a v => wanted_put o a oj.dst v p3
    have put : ∀ (a : Act) v u, (a.put o.dst v).put oj.dst u = (a.put oj.dst u).put o.dst v := fun a v u => Act.put_comm a v u p2
    obtain ⟨o', ho', hs⟩ := hs
    obtain rfl : o = o' := Option.some.inj (hk.symm.trans ho')
    rcases hs with ⟨h1, h2, h3⟩ | ⟨v, hq, hK⟩
    · -- k does something
      have jn3 : kd j ≠ 3 := fun h => by simp [kindsOk, h, h2] at hkk
      have jn2 : kd j ≠ 2 := fun h => by simp [kindsOk, h, h2] at hkk
      have j01 : kd j ≠ 3 → kd j = 0 ∨ kd j = 1 := fun _ => by have := hkd j; omega
      -- in each outcome j yields
      have each : ∀ v H', wM P ops C kd need KQ (f + 1) (listed.setIfInBounds k true) (a.put o.dst v) H' →
          ∃ u, QY P ops C kd j oj a u H ∧ wM P ops C kd need KQ f ((listed.setIfInBounds j true).setIfInBounds k true) ((a.put oj.dst u).put o.dst v) H' := fun v H' hm => by
        obtain ⟨oj', hoj', h⟩ := hm.2 j hjr
        obtain rfl : oj = oj' := Option.some.inj (hoj.symm.trans hoj')
        rcases h with ⟨_, h, _⟩ | ⟨u, hu, hm'⟩
        · exact absurd h jn3
        · refine ⟨u, ?_, by rw [← put, ← comm]; exact hm'⟩
          exact (hu.of_same (ej a v).symm (wj a v).symm).later jn2 j01 fun hj1 => hC j hjlt' hj1 hjun
      obtain ⟨v0, H0, _, hm0⟩ := eV_some h3
      obtain ⟨u0, hu0, _⟩ := each v0 H0 hm0
      refine ⟨oj, hoj, .inr ⟨u0, hu0, ?_⟩⟩
      refine ih _ _ _ hdj hrk hlow' (fun m hm hm1 hmu => hC m hm hm1 (hun' m hmu)) ⟨o, hk, .inl ⟨by rw [wk]; exact h1, h2, ?_⟩⟩
      unfold eV
      rw [ek]
      refine eV_mono (fun v H' h4 => ⟨h4.1, ?_⟩) h3
      obtain ⟨u, hu, hm⟩ := each v H' h4.2
      rw [hu0.unique hu]; exact hm
    · -- k yields
      obtain ⟨oj', hoj', h⟩ := hK.2 j hjr
      obtain rfl : oj = oj' := Option.some.inj (hoj.symm.trans hoj')
      refine ⟨oj, hoj, ?_⟩
      rcases h with ⟨h1, h2, h3⟩ | ⟨u, hu, hm⟩
      · refine .inl ⟨by rw [← wj a v]; exact h1, h2, ?_⟩
        unfold eV at h3 ⊢
        rw [ej] at h3
        have kn2 : kd k ≠ 2 := fun h => by simp [kindsOk, h, h2] at hkk
        refine eV_mono (fun u H' h4 => ⟨h4.1, ?_⟩) h3
        refine ih _ _ _ hdj hrk hlow' (fun m hm hm1 hmu => h4.1 (hneed m hm hm1 (hun' m hmu))) ⟨o, hk, .inr ⟨v, ?_, by rw [← put, ← comm]; exact h4.2⟩⟩
        exact (hq.of_same (ek a u) (wk a u)).later kn2 (fun _ => by have := hkd k; omega) fun hk1 => h4.1 (hneed k hklt' hk1 hkun)
      · refine .inr ⟨u, hu.of_same (ej a v).symm (wj a v).symm, ?_⟩
        exact ih _ _ _ hdj hrk hlow' (fun m hm hm1 hmu => hC m hm hm1 (hun' m hmu)) ⟨o, hk, .inr ⟨v, hq.of_same (ek a u) (wk a u), by rw [← put, ← comm]; exact hm⟩⟩

theorem wM_of_wT (ok : MixOk ops kd need) (hkd : ∀ i, kd i ≤ 3) : ∀ (l : List Oper) (k : Nat) (listed : Array Bool) (a : Act) (H : Hp), (∀ j, l[j]? = ops[k + j]?) → Down ops listed →
    (∀ i, i < k → listed.getD i false = true) → (∀ i, k ≤ i → i < ops.size → listed.getD i true = false) → (∀ m, m < ops.size → k ≤ m → kd m = 1 → C H) →
    wT P ops C kd need KQ l k a H → wM P ops C kd need KQ l.length listed a H
  | [], k, listed, a, H, hl, hd, hlow, hhigh, hC, h => by
    refine ⟨?_, h⟩
    have hsz : ops.size ≤ k := by
      have := hl 0
      simp at this
      exact this
    rw [List.eq_nil_iff_forall_not_mem]
    intro j hj
    obtain ⟨hjun, oj, hoj, _⟩ := mem_ready.1 hj
    have hlt := (Array.getElem?_eq_some_iff.1 hoj).1
    have := hlow j (by omega)
    rw [unlisted_false hjun] at this; cases this
  | o :: l, k, listed, a, H, hl, hd, hlow, hhigh, hC, h => by
    have h0 : ops[k]? = some o := by simpa using (hl 0).symm
    have hklt : k < ops.size := (Array.getElem?_eq_some_iff.1 h0).1
    have hr : k ∈ Region.ready .any ops listed := mem_ready.2 ⟨hhigh k (Nat.le_refl _) hklt, o, h0, fun e he hb => hlow _ (ok.edge k o h0 e he hb)⟩
    refine wM_first ok hkd h0 _ _ _ _ hd hr hlow (fun m hm hm1 hmu => hC m hm (by
      rcases Nat.lt_or_ge m k with h' | h'
      · have := hlow m h'; rw [unlisted_false hmu] at this; cases this
      · exact h') hm1) ?_
    have hdk := ready_down hd hr
    have next : ∀ a' H', (∀ m, m < ops.size → k + 1 ≤ m → kd m = 1 → C H') → wT P ops C kd need KQ l (k + 1) a' H' → wM P ops C kd need KQ l.length (listed.setIfInBounds k true) a' H' := fun a' H' hC' h' =>
      wM_of_wT ok hkd l (k + 1) _ a' H' (fun j => by have := hl (j + 1); simpa [Nat.add_assoc, Nat.add_comm 1 j] using this) hdk
        (fun i hi => by
          by_cases hik : i = k
          · subst hik; rw [hd.1.symm] at hklt; simp [hklt]
          · exact getD_set_true (hlow i (by omega)))
        (fun i hi hlt => by rw [getD_set_ne true (by omega)]; exact hhigh i (by omega) hlt) hC' h'
    obtain ⟨o', ho', hs⟩ := h
    obtain rfl : o = o' := Option.some.inj (h0.symm.trans ho')
    refine ⟨o, h0, ?_⟩
    rcases hs with ⟨h1, h2, h3⟩ | ⟨v, hq, hK⟩
    · refine .inl ⟨h1, h2, eV_mono (fun v H' h4 => ⟨h4.1, next _ _ (fun m hm hkm hm1 => ?_) h4.2⟩) h3⟩
      cases hn : need k with
      | true => exact h4.1 hn
      | false => have := (ok.need k m hm hm1 hn).1; omega
    · exact .inr ⟨v, hq, next _ _ (fun m hm hkm hm1 => hC m hm (by omega) hm1) hK⟩

theorem wp_region_mix {id : Nat} {Q : Exit → Act → World → Prop} {a : Act} {w w0 : World} (hm : P.follows .mixedOrders = true) (ok : MixOk ops kd need) (hkd : ∀ i, kd i ≤ 3) (hw0 : Same w0 w)
    (hC : ∀ m, m < ops.size → kd m = 1 → C w.heap) (hQ : ∀ a w, Same w0 w → KQ a w.heap → Q .normal a w)
    (h : wT P ops C kd need KQ ops.toList 0 a w.heap) : (Code.region id ops true).wp P Q a w := by
  refine wp_region_any hm (wM_sound (w0 := w0) (C := C) (kd := kd) (need := need) (KQ := KQ) hQ _ _ _ { w with drawn := w.drawn + 1 } ⟨hw0.tape, hw0.os, hw0.output, Nat.le_succ_of_le hw0.drawn⟩ ?_)
  have := wM_of_wT (P := P) (C := C) (KQ := KQ) ok hkd ops.toList 0 (Array.replicate ops.size false) a w.heap (by simp)
    ⟨by simp, fun j oj _ hl => by
      rcases Nat.lt_or_ge j ops.size with h' | h'
      · simp [h'] at hl
      · simp [h'] at hl⟩ (fun i hi => absurd hi (Nat.not_lt_zero _)) (fun i _ hi => by simp [hi]) (fun m hm' _ hm1 => hC m hm' hm1) h
  simpa using this

/-- A region in the text's order. -/
theorem wpList_of_wT {Q : Exit → Act → World → Prop} {w0 : World} (hQ : ∀ a w, Same w0 w → KQ a w.heap → Q .normal a w) : ∀ (l : List Oper) (k : Nat) (a : Act) (w : World), (∀ j, l[j]? = ops[k + j]?) → Same w0 w →
    wT P ops C kd need KQ l k a w.heap → wpList P ops Q l a w
  | [], _, _, _, _, hs, h => hQ _ _ hs h
  | o :: l, k, a, w, hl, hs, h => by
    have h0 : ops[k]? = some o := by simpa using (hl 0).symm
    obtain ⟨o', ho', h⟩ := h
    obtain rfl : o = o' := Option.some.inj (h0.symm.trans ho')
    have hl' : ∀ j, l[j]? = ops[k + 1 + j]? := fun j => by have := hl (j + 1); simpa [Nat.add_assoc, Nat.add_comm 1 j] using this
    unfold wpList
    rcases h with ⟨h1, h2, h3⟩ | ⟨v, ⟨h1, h2, h3⟩ | ⟨h1, rfl⟩, h4⟩
    · rw [if_pos h1]
      exact .inl (eV_wp h3 fun v w' hs' hk => wpList_of_wT hQ l (k + 1) _ _ hl' (hs.trans hs') hk.2)
    · rw [if_pos h1]
      refine .inl (upon_of_eStep (K := fun a' H' => a' = a.put o.dst v ∧ H' = w.heap) (yAt_eStep h3.at ⟨rfl, rfl⟩) fun a' w' hs' hk => ?_)
      obtain ⟨rfl, hh⟩ := hk
      exact wpList_of_wT hQ l (k + 1) _ _ hl' (hs.trans hs') (by rw [hh]; exact h4)
    · rw [if_neg (by simp [h1])]
      exact wpList_of_wT hQ l (k + 1) _ _ hl' hs h4

theorem wp_region_seq {id : Nat} {Q : Exit → Act → World → Prop} {a : Act} {w w0 : World} (hw0 : Same w0 w) (hQ : ∀ a w, Same w0 w → KQ a w.heap → Q .normal a w)
    (h : wT P ops C kd need KQ ops.toList 0 a w.heap) : (Code.region id ops false).wp P Q a w :=
  wp_region_list (wpList_of_wT hQ ops.toList 0 a w (by simp) hw0 h)

end Go.EV
