/- Stores and calls as formulas; the operations of a region, one behind the other, over what is known of the temporaries. -/
import Derived.Test.YtlkocnmgpalmnaaEvD
namespace Go.EV
open Go

/-! ### Stores -/

def wrK (a : Addr) : List Value → Nat → (Hp → Prop) → Hp → Prop
  | [], _, K, H => K H
  | v :: vs, i, K, H => (cellH H (a.add i)).isSome = true ∧ frozenH H (a.add i) = false ∧ wrK a vs (i + 1) K (setH H (a.add i) v)

def storeF (P : Program) (t : TypeId) (av v : Value) (K : Hp → Prop) (H : Hp) : Prop :=
  match av with
  | .pointer (some ad) =>
    match P.info? t with
    | some inf =>
      match Nat.beq v.cells.toList.length inf.size && v.cells.toList.all one1 with
      | true => wrK ad v.cells.toList 0 K H
      | false => False
    | none => False
  | _ => False

theorem hw_storeCells {P : Program} {a : Addr} {K : Hp → Prop} {Q : Unit → Hp → Prop} (hQ : ∀ H, K H → Q () H) : ∀ (vs : List Value) (i : Nat) (H : Hp), vs.all one1 = true → wrK a vs i K H → hw P (storeCells a vs i) Q H
  | [], _, _, _, h => hQ _ h
  | v :: vs, i, H, ho, h => by
    simp only [List.all_cons, Bool.and_eq_true] at ho
    exact ⟨h.1, h.2.1, ho.1, hw_storeCells hQ vs (i + 1) _ ho.2 h.2.2⟩

theorem hw_size {P : Program} {t : TypeId} {i : TypeInfo} {α : Type} {f : Nat → Sem α} {Q : α → Hp → Prop} {H : Hp} (h : P.info? t = some i) (hh : hw P (f i.size) Q H) : hw P (sizeOf t >>= f) Q H := by
  rw [hw_bind]
  unfold sizeOf
  rw [hw_bind]
  show hw P (match P.info? t with | some d => pure d | none => stuck "no such type") _ H
  rw [h]; exact hh

theorem storeF_out {P : Program} {t : TypeId} {av v : Value} {K : Hp → Prop} {Q : Unit → Hp → Prop} {H : Hp} (hQ : ∀ H, K H → Q () H) (h : storeF P t av v K H) : hw P (Instr.storeAt t av v) Q H := by
  unfold storeF at h
  split at h
  next ad =>
    split at h
    next inf hinf =>
      split at h
      next hb =>
        simp only [Bool.and_eq_true] at hb
        show hw P (storeVar t ad v) Q H
        unfold storeVar
        refine hw_size hinf ?_
        have : v.cells.size = inf.size := by have := Nat.eq_of_beq_eq_true hb.1; simpa using this
        simp only [this, ne_eq, not_true_eq_false, if_false]
        exact hw_storeCells hQ _ 0 H hb.2 h
      next => exact h.elim
    next => exact h.elim
  next => exact h.elim

/-! ### Calls, and what else does something -/

def exVL : List Sh → (List Value → Prop) → Prop
  | [], F => F []
  | s :: r, F => exV s fun v => exVL r fun vs => F (v :: vs)

def exR : List Sh → (Value → Prop) → Prop
  | [s], F => exV s F
  | l, F => exVL l fun vs => F (.tuple ⟨vs⟩)

theorem exVL_out : ∀ {l : List Sh} {F : List Value → Prop}, exVL l F → ∃ vs, F vs
  | [], _, h => ⟨[], h⟩
  | _ :: _, _, h => by
    obtain ⟨v, h⟩ := exV_out h
    obtain ⟨vs, h⟩ := exVL_out h
    exact ⟨_, h⟩

theorem exR_out {l : List Sh} {F : Value → Prop} (h : exR l F) : ∃ v, F v := by
  unfold exR at h
  split at h
  · exact exV_out h
  · obtain ⟨vs, h⟩ := exVL_out h; exact ⟨_, h⟩

def resSh (P : Program) (f : Nat) : List Sh :=
  match P.funcs[f]? with
  | some fn => fn.resultTypes.toList.map (shOf P)
  | none => []

def CallT (P : Program) (f : Nat) (args : Array Value) (K : Value → Hp → Prop) (H : Hp) : Prop :=
  CallV P f args H fun v H' => exR (resSh P f) fun u => v = u ∧ K u H'

theorem CallT_out {P : Program} {f : Nat} {args : Array Value} {K : Value → Hp → Prop} {H : Hp} (h : CallT P f args K H) : CallV P f args H K :=
  h.mono fun v H' h' => by
    obtain ⟨u, rfl, hk⟩ := exR_out h'
    exact hk

def typed (P : Program) (t : TypeId) (e : Sem Value) (K : Value → Hp → Prop) (H : Hp) : Prop :=
  hw P e (fun v H' => exV (shOf P t) fun u => v = u ∧ K u H') H

theorem typed_out {P : Program} {t : TypeId} {e : Sem Value} {K : Value → Hp → Prop} {H : Hp} (h : typed P t e K H) : hw P e K H :=
  hw_mono P _ (fun v H' h' => by
    obtain ⟨u, rfl, hk⟩ := exV_out h'
    exact hk) h

def Enters (P : Program) (f : Nat) : Prop := ∀ (args : Array Value) (Q : Next → Hp → Prop) (H : Hp), hw P (callFunc f args) Q H = Q (.enter f args) H

def nE (P : Program) (K : Value → Hp → Prop) : Next → Hp → Prop
  | .value v, H => K v H
  | .skip, H => K undef H
  | .enter f args, H => CallT P f args K H
  | _, _ => False

def effF (P : Program) (ent : Nat → Bool) (o : Oper) (ρ : Operand → Value) (K : Value → Hp → Prop) (H : Hp) : Prop :=
  match o.op with
  | .store t a x => storeF P t (ρ a) (ρ x) (fun H' => K undef H') H
  | .makeSlice t l c => typed P o.type (Instr.makeSlice t (ρ l) (ρ c)) K H
  | .convert s d x => typed P o.type (convert s d (ρ x)) K H
  | .call ⟨callee, args, ats⟩ =>
    match callee with
    | .value (.func f) => match ent f with
      | true => CallT P f (args.map ρ) K H
      | false => False
    | .builtin .append => typed P o.type (Builtin.append_ ats o.type (args.map ρ)) K H
    | .builtin .copy => typed P o.type (Builtin.copy_ ats o.type (args.map ρ)) K H
    | _ => hw P (execOp ρ o) (nE P K) H
  | _ => hw P (execOp ρ o) (nE P K) H

theorem nE_out {P : Program} {K : Value → Hp → Prop} : ∀ n H, nE P K n H → (match n with
    | .value v => K v H
    | .skip => K undef H
    | .enter f args => CallV P f args H K
    | _ => False) := by
  intro n H h
  cases n <;> first | exact h | exact h.elim | exact CallT_out h

theorem eV_of_value {P : Program} {o : Oper} {ρ : Operand → Value} {K : Value → Hp → Prop} {H : Hp} {e : Sem Value} (he : execOp ρ o = e >>= fun v => pure (.value v)) (h : hw P e K H) : eV P o ρ K H := by
  unfold eV
  rw [he, hw_bind]
  exact hw_mono P _ (fun v H' hk => hk) h

theorem effF_out {P : Program} {ent : Nat → Bool} (hent : ∀ f, ent f = true → Enters P f) {o : Oper} {ρ : Operand → Value} {K : Value → Hp → Prop} {H : Hp} (hρ : ∀ f, ρ (.func f) = .func (.func f) #[] #[]) (h : effF P ent o ρ K H) : eV P o ρ K H := by
  unfold effF at h
  split at h
  next t a x ho =>
    have he : execOp ρ o = Instr.storeAt t (ρ a) (ρ x) >>= fun _ => pure .skip := by unfold execOp; simp only [ho]
    unfold eV
    rw [he, hw_bind]
    exact storeF_out (fun H' hk => hk) h
  next t l c ho => exact eV_of_value (by unfold execOp; simp only [ho]) (typed_out h)
  next s d x ho => exact eV_of_value (by unfold execOp; simp only [ho]) (typed_out h)
  next callee args ats ho =>
    split at h
    next f =>
      split at h
      next hf =>
        have he : execOp ρ o = callFunc f (args.map ρ) := by
          unfold execOp; simp only [ho, resolve, hρ, Deferred.ofValue]
          show callFunc f (#[] ++ args.map ρ ++ #[]) = _
          simp
        unfold eV
        rw [he, hent f hf]
        exact CallT_out h
      next => exact h.elim
    next => exact eV_of_value (by unfold execOp; simp only [ho]; rfl) (typed_out h)
    next => exact eV_of_value (by unfold execOp; simp only [ho]; rfl) (typed_out h)
    next => exact hw_mono P _ nE_out h
  next => exact hw_mono P _ nE_out h

/-! ### What is known of the temporaries -/

abbrev Env := List (Nat × Value)

def look : Env → Nat → Option Value
  | [], _ => none
  | (s, v) :: r, t => match Nat.beq s t with
    | true => some v
    | false => look r t

def evalE (e : Env) : Operand → Value
  | .tmp t => match look e t with
    | some v => v
    | none => undef
  | .const v => v
  | .global g => .pointer (some ⟨g, 0, none⟩)
  | .func f => .func (.func f) #[] #[]

def hasE (e : Env) : Operand → Bool
  | .tmp t => (look e t).isSome
  | _ => true

def putE (e : Env) (d : Option Tmp) (v : Value) : Env :=
  match d with
  | some t => (t, v) :: e
  | none => e

structure Agree (n : Nat) (e : Env) (a : Act) : Prop where
  size : a.tmps.size = n
  defers : a.defers = []
  get : ∀ t v, look e t = some v → a.tmps.getD t undef = v

def okDst (n : Nat) : Option Tmp → Bool
  | some t => Nat.blt t n
  | none => true

def notSelect : Op → Bool
  | .select .. => false
  | _ => true

def okOper (n : Nat) (o : Oper) (e : Env) : Bool := notSelect o.op && okDst n o.dst && o.op.operands.toList.all (hasE e)

theorem Agree.eval {n : Nat} {e : Env} {a : Act} (h : Agree n e a) {x : Operand} (hx : hasE e x = true) : a.eval x = evalE e x := by
  cases x with
  | tmp t =>
    simp only [hasE, Option.isSome_iff_exists] at hx
    obtain ⟨v, hv⟩ := hx
    simp only [Act.eval, evalE, hv]
    exact h.get t v hv
  | _ => rfl

theorem Agree.exec {n : Nat} {e : Env} {a : Act} {o : Oper} (h : Agree n e a) (ho : okOper n o e = true) : execOp a.eval o = execOp (evalE e) o := by
  simp only [okOper, Bool.and_eq_true] at ho
  refine execOp_congr o (fun cs b hs => ?_) fun x hx => h.eval (List.all_eq_true.1 ho.2 x (by simpa using hx))
  rw [hs] at ho
  simp [notSelect] at ho

theorem Agree.put {n : Nat} {e : Env} {a : Act} {d : Option Tmp} {v : Value} (h : Agree n e a) (hd : okDst n d = true) : Agree n (putE e d v) (a.put d v) := by
  cases d with
  | none => exact h
  | some t =>
    have hlt : t < n := by simpa [okDst] using hd
    refine ⟨by simp [Act.put, h.size], h.defers, fun s u hs => ?_⟩
    simp only [putE, look] at hs
    split at hs
    next hb =>
      have : t = s := Nat.eq_of_beq_eq_true hb
      subst this
      have : v = u := Option.some.inj hs
      subst this
      simp [Act.put, h.size, hlt]
    next hb =>
      have hne : t ≠ s := fun e => by subst e; simp at hb
      have := h.get s u hs
      simpa [Act.put, Array.getElem?_setIfInBounds_ne hne] using this

end Go.EV
