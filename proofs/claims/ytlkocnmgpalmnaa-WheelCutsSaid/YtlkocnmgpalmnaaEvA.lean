/- A way to walk a Go function by evaluation: the heap alone as the state; what an operation does, by its own text; regions in whatever order. Nothing of one program. -/
import Derived.Deep.Quiet
import Derived.KernelRfl
namespace Go.EV
open Go

abbrev Hp := Array Obj
def wof (H : Hp) : World := { heap := H, tape := fun _ _ => 0, drawn := 0, os := default, output := #[] }
def cellH (H : Hp) (a : Addr) : Option Value := (wof H).cell? a
def frozenH (H : Hp) (a : Addr) : Bool := (wof H).frozen? a
def setH (H : Hp) (a : Addr) (v : Value) : Hp := ((wof H).setCell a v).heap
def freezeH (H : Hp) (a : Addr) (n : Nat) : Hp := ((wof H).freeze a n).heap
def shapeH (H : Hp) (r : Nat) : Option (TypeId × Nat) := (wof H).shape? r

structure Same (w w' : World) : Prop where
  tape : w'.tape = w.tape
  os : w'.os = w.os
  output : w'.output = w.output
  drawn : w.drawn ≤ w'.drawn

theorem Same.refl (w : World) : Same w w := ⟨rfl, rfl, rfl, Nat.le_refl _⟩
theorem Same.trans {a b c : World} (h : Same a b) (h' : Same b c) : Same a c :=
  ⟨h'.tape.trans h.tape, h'.os.trans h.os, h'.output.trans h.output, Nat.le_trans h.drawn h'.drawn⟩

def one1 : Value → Bool
  | .agg _ => false
  | .tuple _ => false
  | _ => true

def isCells : Obj → Bool
  | .cells .. => true
  | _ => false

/-- What holds behind a piece of work on the heap. -/
def hw {α : Type} (P : Program) : Sem α → (α → Hp → Prop) → Hp → Prop
  | .pure a, Q, H => Q a H
  | .load _ a k, Q, H => ∃ v, cellH H a = some v ∧ hw P (k v) Q H
  | .store _ a v k, Q, H => (cellH H a).isSome = true ∧ frozenH H a = false ∧ one1 v = true ∧ hw P k Q (setH H a v)
  | .new o k, Q, H => hw P (k H.size) Q (H.push o)
  | .shape r k, Q, H => hw P (k (shapeH H r)) Q H
  | .freeze a n k, Q, H => hw P k Q (freezeH H a n)
  | .frozen a k, Q, H => hw P (k (frozenH H a)) Q H
  | .getObj r k, Q, H => ∃ o, H[r]? = some o ∧ isCells o = false ∧ hw P (k o) Q H
  | .setObj r o k, Q, H => (∃ o', H[r]? = some o' ∧ isCells o' = false) ∧ hw P k Q (H.setIfInBounds r o)
  | .choose q k, Q, H => if q.forced then hw P (k 0) Q H else ∀ t, hw P (k (q.cut t)) Q H
  | .sys _ _, _, _ => False
  | .program k, Q, H => hw P (k P) Q H
  | .mark _ k, Q, H => hw P k Q H
  | .halt _, _, _ => False

theorem hw_sound {α : Type} (P : Program) (e : Sem α) : ∀ (Q : α → Hp → Prop) (w : World), hw P e Q w.heap →
    ∃ a w', e.run P w = .ok a w' ∧ Same w w' ∧ Q a w'.heap := by
  induction e with
  | pure a => intro Q w h; exact ⟨a, w, rfl, .refl w, h⟩
  | load m a k ih =>
    intro Q w h
    obtain ⟨v, hv, h⟩ := h
    obtain ⟨b, w', hr, hs, hq⟩ := ih v Q w h
    refine ⟨b, w', ?_, hs, hq⟩
    have hc : w.cell? a = some v := hv
    simp only [Sem.run, hc]; exact hr
  | store m a v k ih =>
    intro Q w h
    obtain ⟨hc, hf, ho, h⟩ := h
    obtain ⟨b, w', hr, hs, hq⟩ := ih Q (w.setCell a v) h
    refine ⟨b, w', ?_, ⟨hs.tape, hs.os, hs.output, hs.drawn⟩, hq⟩
    obtain ⟨u, hu⟩ := Option.isSome_iff_exists.1 hc
    have hc' : w.cell? a = some u := hu
    have hf' : w.frozen? a = false := hf
    cases v <;> first | (simp [one1] at ho; done) | (simp only [Sem.run, hc', hf']; exact hr)
  | new o k ih =>
    intro Q w h
    obtain ⟨b, w', hr, hs, hq⟩ := ih w.heap.size Q { w with heap := w.heap.push o } h
    exact ⟨b, w', hr, ⟨hs.tape, hs.os, hs.output, hs.drawn⟩, hq⟩
  | shape r k ih => intro Q w h; exact ih _ Q w h
  | freeze a n k ih =>
    intro Q w h
    have hh : (w.freeze a n).heap = freezeH w.heap a n := by unfold freezeH World.freeze; split <;> rfl
    have hw' : Same w (w.freeze a n) := by unfold World.freeze; split <;> exact ⟨rfl, rfl, rfl, Nat.le_refl _⟩
    obtain ⟨b, w', hr, hs, hq⟩ := ih Q (w.freeze a n) (by rw [hh]; exact h)
    exact ⟨b, w', hr, hw'.trans hs, hq⟩
  | frozen a k ih => intro Q w h; exact ih _ Q w h
  | getObj r k ih =>
    intro Q w h
    obtain ⟨o, ho, hc, h⟩ := h
    obtain ⟨b, w', hr, hs, hq⟩ := ih o Q w h
    refine ⟨b, w', ?_, hs, hq⟩
    simp only [Sem.run, ho]
    cases o <;> first | (simp [isCells] at hc; done) | exact hr
  | setObj r o k ih =>
    intro Q w h
    obtain ⟨⟨o', ho, hc⟩, h⟩ := h
    obtain ⟨b, w', hr, hs, hq⟩ := ih Q { w with heap := w.heap.setIfInBounds r o } h
    refine ⟨b, w', ?_, ⟨hs.tape, hs.os, hs.output, hs.drawn⟩, hq⟩
    simp only [Sem.run, ho]
    cases o' <;> first | (simp [isCells] at hc; done) | exact hr
  | choose q k ih =>
    intro Q w h
    simp only [hw] at h
    by_cases hf : q.forced = true
    · rw [if_pos hf] at h
      obtain ⟨b, w', hr, hs, hq⟩ := ih 0 Q w h
      exact ⟨b, w', by simp only [Sem.run, hf, if_true]; exact hr, hs, hq⟩
    · rw [if_neg hf] at h
      obtain ⟨b, w', hr, hs, hq⟩ := ih _ Q { w with drawn := w.drawn + 1 } (h (w.tape w.drawn q))
      exact ⟨b, w', by simp only [Sem.run, hf]; exact hr, ⟨hs.tape, hs.os, hs.output, Nat.le_trans (Nat.le_succ _) hs.drawn⟩, hq⟩
  | sys c k ih => intro Q w h; exact h.elim
  | program k ih => intro Q w h; exact ih P Q w h
  | mark m k ih => intro Q w h; exact ih Q w h
  | halt x => intro Q w h; exact h.elim

theorem hw_mono {α : Type} (P : Program) (e : Sem α) : ∀ {Q Q' : α → Hp → Prop} {H : Hp}, (∀ a H, Q a H → Q' a H) → hw P e Q H → hw P e Q' H := by
  induction e with
  | pure a => intro Q Q' H hq h; exact hq _ _ h
  | load m a k ih => intro Q Q' H hq h; obtain ⟨v, hv, h⟩ := h; exact ⟨v, hv, ih v hq h⟩
  | store m a v k ih => intro Q Q' H hq h; exact ⟨h.1, h.2.1, h.2.2.1, ih hq h.2.2.2⟩
  | new o k ih => intro Q Q' H hq h; exact ih _ hq h
  | shape r k ih => intro Q Q' H hq h; exact ih _ hq h
  | freeze a n k ih => intro Q Q' H hq h; exact ih hq h
  | frozen a k ih => intro Q Q' H hq h; exact ih _ hq h
  | getObj r k ih => intro Q Q' H hq h; obtain ⟨o, ho, hc, h⟩ := h; exact ⟨o, ho, hc, ih o hq h⟩
  | setObj r o k ih => intro Q Q' H hq h; exact ⟨h.1, ih hq h.2⟩
  | choose q k ih =>
    intro Q Q' H hq h
    simp only [hw] at h ⊢
    split
    · rename_i hf; rw [if_pos hf] at h; exact ih 0 hq h
    · rename_i hf; rw [if_neg hf] at h; exact fun t => ih _ hq (h t)
  | sys c k ih => intro Q Q' H hq h; exact h.elim
  | program k ih => intro Q Q' H hq h; exact ih P hq h
  | mark m k ih => intro Q Q' H hq h; exact ih hq h
  | halt x => intro Q Q' H hq h; exact h.elim

/-- What only reads: its answer, of one heap. -/
def hq {α : Type} (P : Program) : Sem α → (α → Prop) → Hp → Prop
  | .pure a, Q, _ => Q a
  | .load _ a k, Q, H => ∃ v, cellH H a = some v ∧ hq P (k v) Q H
  | .shape r k, Q, H => hq P (k (shapeH H r)) Q H
  | .frozen a k, Q, H => hq P (k (frozenH H a)) Q H
  | .getObj r k, Q, H => ∃ o, H[r]? = some o ∧ isCells o = false ∧ hq P (k o) Q H
  | .program k, Q, H => hq P (k P) Q H
  | .mark _ k, Q, H => hq P k Q H
  | _, _, _ => False

theorem hq_hw {α : Type} (P : Program) (e : Sem α) : ∀ {Q : α → Prop} {H : Hp}, hq P e Q H → ∀ {Q' : α → Hp → Prop}, (∀ a, Q a → Q' a H) → hw P e Q' H := by
  induction e with
  | pure a => intro Q H h Q' hq; exact hq _ h
  | load m a k ih => intro Q H h Q' hq; obtain ⟨v, hv, h⟩ := h; exact ⟨v, hv, ih v h hq⟩
  | shape r k ih => intro Q H h Q' hq; exact ih _ h hq
  | frozen a k ih => intro Q H h Q' hq; exact ih _ h hq
  | getObj r k ih => intro Q H h Q' hq; obtain ⟨o, ho, hc, h⟩ := h; exact ⟨o, ho, hc, ih o h hq⟩
  | program k ih => intro Q H h Q' hq; exact ih P h hq
  | mark m k ih => intro Q H h Q' hq; exact ih h hq
  | store m a v k ih => intro Q H h; exact h.elim
  | new o k ih => intro Q H h; exact h.elim
  | freeze a n k ih => intro Q H h; exact h.elim
  | setObj r o k ih => intro Q H h; exact h.elim
  | choose q k ih => intro Q H h; exact h.elim
  | sys c k ih => intro Q H h; exact h.elim
  | halt x => intro Q H h; exact h.elim

theorem hq_sound {α : Type} (P : Program) (e : Sem α) : ∀ {Q : α → Prop} {H : Hp}, hq P e Q H → ∃ a, Q a ∧ ∀ w : World, w.heap = H → e.run P w = .ok a w := by
  induction e with
  | pure a => intro Q H h; exact ⟨a, h, fun _ _ => rfl⟩
  | load m a k ih =>
    intro Q H h
    obtain ⟨v, hv, h⟩ := h
    obtain ⟨b, hb, hr⟩ := ih v h
    refine ⟨b, hb, fun w hw => ?_⟩
    subst hw
    have hc : w.cell? a = some v := hv
    simp only [Sem.run, hc]; exact hr w rfl
  | shape r k ih =>
    intro Q H h
    obtain ⟨b, hb, hr⟩ := ih _ h
    exact ⟨b, hb, fun w hw => by subst hw; exact hr w rfl⟩
  | frozen a k ih =>
    intro Q H h
    obtain ⟨b, hb, hr⟩ := ih _ h
    exact ⟨b, hb, fun w hw => by subst hw; exact hr w rfl⟩
  | getObj r k ih =>
    intro Q H h
    obtain ⟨o, ho, hc, h⟩ := h
    obtain ⟨b, hb, hr⟩ := ih o h
    refine ⟨b, hb, fun w hw => ?_⟩
    subst hw
    simp only [Sem.run, ho]
    cases o <;> first | (simp [isCells] at hc; done) | exact hr w rfl
  | program k ih => intro Q H h; obtain ⟨b, hb, hr⟩ := ih P h; exact ⟨b, hb, fun w hw => hr w hw⟩
  | mark m k ih => intro Q H h; obtain ⟨b, hb, hr⟩ := ih h; exact ⟨b, hb, fun w hw => hr w hw⟩
  | store m a v k ih => intro Q H h; exact h.elim
  | new o k ih => intro Q H h; exact h.elim
  | freeze a n k ih => intro Q H h; exact h.elim
  | setObj r o k ih => intro Q H h; exact h.elim
  | choose q k ih => intro Q H h; exact h.elim
  | sys c k ih => intro Q H h; exact h.elim
  | halt x => intro Q H h; exact h.elim

/-- The heap's own contract of a call. -/
def CallV (P : Program) (f : FuncId) (args : Array Value) (H : Hp) (R : Value → Hp → Prop) : Prop :=
  ∀ w : World, w.heap = H → Calls P f args w fun e w' => ∃ v, e = .returned v ∧ Same w w' ∧ R v w'.heap

theorem CallV.mono {P : Program} {f : FuncId} {args : Array Value} {H : Hp} {R R' : Value → Hp → Prop} (h : CallV P f args H R) (hr : ∀ v H', R v H' → R' v H') : CallV P f args H R' :=
  fun w hw => (h w hw).mono fun _ _ ⟨v, he, hs, hR⟩ => ⟨v, he, hs, hr _ _ hR⟩

theorem CallV.some {P : Program} {f : FuncId} {args : Array Value} {H : Hp} {R : Value → Hp → Prop} (h : CallV P f args H R) : ∃ v H', R v H' :=
  let ⟨_, w', _, ⟨v, _, _, hR⟩, _⟩ := h (wof H) rfl []
  ⟨v, w'.heap, hR⟩

/-! ### One operation -/

def nxt (P : Program) (o : Oper) (a : Act) (K : Act → Hp → Prop) : Next → Hp → Prop
  | .value v, H => K (a.put o.dst v) H
  | .skip, H => K (a.put o.dst undef) H
  | .enter f args, H => CallV P f args H fun v H' => K (a.put o.dst v) H'
  | _, _ => False

/-- An operation that does something. -/
def eStep (P : Program) (o : Oper) (a : Act) (K : Act → Hp → Prop) (H : Hp) : Prop := hw P (execOp a.eval o) (nxt P o a K) H

theorem nxt_mono {P : Program} {o : Oper} {a : Act} {K K' : Act → Hp → Prop} (h : ∀ a H, K a H → K' a H) : ∀ n H, nxt P o a K n H → nxt P o a K' n H := by
  intro n H hn
  cases n <;> first | exact h _ _ hn | exact hn.elim | exact CallV.mono hn fun _ _ hk => h _ _ hk

theorem eStep_mono {P : Program} {o : Oper} {a : Act} {K K' : Act → Hp → Prop} {H : Hp} (h : ∀ a H, K a H → K' a H) (hh : eStep P o a K H) : eStep P o a K' H :=
  hw_mono P _ (nxt_mono h) hh

theorem eStep_some {P : Program} {o : Oper} {a : Act} {K : Act → Hp → Prop} {H : Hp} (hh : eStep P o a K H) : ∃ v H', K (a.put o.dst v) H' := by
  obtain ⟨n, w', _, _, hn⟩ := hw_sound P _ _ (wof H) hh
  cases n <;> first | exact ⟨_, _, hn⟩ | exact hn.elim | exact let ⟨v, H', h⟩ := CallV.some hn; ⟨v, H', h⟩

/-- Of one heap: the operation yields v, and does nothing. -/
def yAt (P : Program) (o : Oper) (a : Act) (v : Value) (H : Hp) : Prop := hq P (execOp a.eval o) (fun n => n = .value v) H

theorem yAt_unique {P : Program} {o : Oper} {a : Act} {v u : Value} {H : Hp} (h : yAt P o a v H) (h' : yAt P o a u H) : v = u := by
  obtain ⟨_, rfl, hr⟩ := hq_sound P _ h
  obtain ⟨_, rfl, hr'⟩ := hq_sound P _ h'
  have := (hr (wof H) rfl).symm.trans (hr' (wof H) rfl)
  injection this with h1
  injection h1

theorem yAt_eStep {P : Program} {o : Oper} {a : Act} {v : Value} {K : Act → Hp → Prop} {H : Hp} (h : yAt P o a v H) (hk : K (a.put o.dst v) H) : eStep P o a K H :=
  hq_hw P _ h fun n hn => by subst hn; exact hk

theorem upon_of_eStep {P : Program} {o : Oper} {a : Act} {K : Act → Hp → Prop} {w : World} {K' : Act → World → Prop} {Q : Exit → Act → World → Prop}
    (h : eStep P o a K w.heap) (hk : ∀ a' w', Same w w' → K a' w'.heap → K' a' w') : o.wp P a w K' Q := by
  obtain ⟨n, w', hr, hs, hn⟩ := hw_sound P _ _ w h
  unfold Oper.wp
  rw [hr]
  cases n <;> simp only [nxt] at hn <;> simp only [Oper.upon]
  case value v => exact hk _ _ hs hn
  case skip => exact hk _ _ hs hn
  case enter f args => exact (hn w' rfl).mono fun e w'' ⟨v, he, hs', hv⟩ => by subst he; exact hk _ _ (hs.trans hs') hv

end Go.EV
