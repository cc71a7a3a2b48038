/- A region's operations over what is known of the temporaries; the model does just so. -/
import Derived.Test.YtlkocnmgpalmnaaEvE
namespace Go.EV
open Go

def kind0 (P : Program) (amb : List Nat) (i : Nat) (o : Oper) : Nat :=
  match o.op with
  | .move _ | .assign _ | .pick .. | .build .. | .nilCheck _ | .binOp .. | .unOp .. | .makeFunc .. | .slice .. | .fieldAddr .. | .field .. | .indexAddr .. | .index .. | .extract .. | .makeInterface .. => 0
  | .convert _ d _ => match P.underlying d with
    | some (.int _) => 0
    | _ => 3
  | .load .. => if amb.any (Nat.beq i) then 1 else 2
  | .lookup .. => 2
  | .call ⟨callee, _, ats⟩ => match callee with
    | .builtin .min | .builtin .max | .builtin .cap => 0
    | .builtin .len => match (ats[0]?).bind P.underlying with
      | some (.map ..) => 2
      | _ => 0
    | _ => 3
  | _ => 3

def kdOf (P : Program) (ops : Array Oper) (amb : List Nat) (i : Nat) : Nat :=
  match ops[i]? with
  | some o => kind0 P amb i o
  | none => 0

theorem kdOf_le (P : Program) (ops : Array Oper) (amb : List Nat) (i : Nat) : kdOf P ops amb i ≤ 3 := by
  unfold kdOf kind0
  split
  · (repeat' split) <;> omega
  · omega

def needB (ops : Array Oper) (amb : List Nat) (i : Nat) : Bool := amb.any fun m => Nat.blt i m || !((masks ops.toList []).getD i 0).testBit m

/-! ### One operation -/

def opF (P : Program) (n : Nat) (ent : Nat → Bool) (ops : Array Oper) (amb : List Nat) (C : Hp → Prop) (k : Nat) (o : Oper) (env : Env) (KV : Value → Hp → Prop) (H : Hp) : Prop :=
  match okOper n o env with
  | false => False
  | true =>
    match kind0 P amb k o with
    | 0 => pureF P o (evalE env) fun v => KV v H
    | 1 => match o.op with
      | .load t a => C H ∧ loadF P t (evalE env a) (fun a v => ∀ H', C H' → cellH H' a = some v) fun v => KV v H
      | _ => False
    | 2 => match o.op with
      | .load t a => loadF P t (evalE env a) (fun a v => cellH H a = some v) fun v => KV v H
      | _ => hq P (execOp (evalE env) o) (nK fun v => exV (shOf P o.type) fun u => v = u ∧ KV u H) H
    | _ => effF P ent o (evalE env) (fun v H' => match needB ops amb k with
      | true => C H' ∧ KV v H'
      | false => KV v H') H

theorem load_exec {o : Oper} {ρ : Operand → Value} {t : TypeId} {a : Operand} (ho : o.op = .load t a) : execOp ρ o = Instr.loadAt t (ρ a) >>= fun v => pure (.value v) := by
  unfold execOp; simp only [ho]

theorem hq_mono {α : Type} (P : Program) (e : Sem α) : ∀ {Q Q' : α → Prop} {H : Hp}, (∀ v, Q v → Q' v) → hq P e Q H → hq P e Q' H := by
  induction e with
  | pure a => intro Q Q' H hm h; exact hm _ h
  | program k ih => intro Q Q' H hm h; exact ih P hm h
  | mark m k ih => intro Q Q' H hm h; exact ih hm h
  | load m a k ih => intro Q Q' H hm h; obtain ⟨v, hv, h⟩ := h; exact ⟨v, hv, ih v hm h⟩
  | shape r k ih => intro Q Q' H hm h; exact ih _ hm h
  | frozen a k ih => intro Q Q' H hm h; exact ih _ hm h
  | getObj r k ih => intro Q Q' H hm h; obtain ⟨v, hv, hc, h⟩ := h; exact ⟨v, hv, hc, ih v hm h⟩
  | store m a v k ih => intro Q Q' H hm h; exact h.elim
  | new o k ih => intro Q Q' H hm h; exact h.elim
  | freeze a n k ih => intro Q Q' H hm h; exact h.elim
  | setObj r o k ih => intro Q Q' H hm h; exact h.elim
  | choose q k ih => intro Q Q' H hm h; exact h.elim
  | sys c k ih => intro Q Q' H hm h; exact h.elim
  | halt x => intro Q Q' H hm h; exact h.elim

theorem hq_nK {P : Program} {e : Sem Next} {K : Value → Prop} {H : Hp} (h : hq P e (nK K) H) : ∃ v, K v ∧ hq P e (fun n => n = .value v) H := by
  have key : ∀ (e : Sem Next) {Q : Next → Prop}, hq P e Q H → ∃ n, Q n ∧ hq P e (fun m => m = n) H := by
    intro e
    induction e with
    | pure a => intro Q h; exact ⟨a, h, rfl⟩
    | program k ih => intro Q h; exact ih P h
    | mark m k ih => intro Q h; exact ih h
    | load m a k ih => intro Q h; obtain ⟨v, hv, h⟩ := h; obtain ⟨n, hn, h'⟩ := ih v h; exact ⟨n, hn, v, hv, h'⟩
    | shape r k ih => intro Q h; exact ih _ h
    | frozen a k ih => intro Q h; exact ih _ h
    | getObj r k ih => intro Q h; obtain ⟨v, hv, hc, h⟩ := h; obtain ⟨n, hn, h'⟩ := ih v h; exact ⟨n, hn, v, hv, hc, h'⟩
    | store m a v k ih => intro Q h; exact h.elim
    | new o k ih => intro Q h; exact h.elim
    | freeze a n k ih => intro Q h; exact h.elim
    | setObj r o k ih => intro Q h; exact h.elim
    | choose q k ih => intro Q h; exact h.elim
    | sys c k ih => intro Q h; exact h.elim
    | halt x => intro Q h; exact h.elim
  obtain ⟨n, hn, h'⟩ := key e h
  cases n <;> first | exact hn.elim | exact ⟨_, hn, h'⟩

section
variable {P : Program} {n : Nat} {ent : Nat → Bool} {ops : Array Oper} {amb : List Nat} {C : Hp → Prop}

theorem opF_sound (hent : ∀ f, ent f = true → Enters P f) {k : Nat} {o : Oper} (hk : ops[k]? = some o) {env : Env} {KV : Value → Hp → Prop} {H : Hp} {a : Act} (hag : Agree n env a)
    (hw : Region.wanted o (yielded ops a.tmps) = true) {K : Act → Hp → Prop} (hK : ∀ v H', okDst n o.dst = true → KV v H' → K (a.put o.dst v) H')
    (h : opF P n ent ops amb C k o env KV H) : stepM P ops C (kdOf P ops amb) (needB ops amb) k K a H := by
  unfold opF at h
  split at h
  · exact h.elim
  next hok =>
  have hex := hag.exec hok
  have hd : okDst n o.dst = true := by simp only [okOper, Bool.and_eq_true] at hok; exact hok.1.2
  have hkd : kdOf P ops amb k = kind0 P amb k o := by unfold kdOf; rw [hk]
  refine ⟨o, hk, ?_⟩
  split at h
  next h0 =>
    obtain ⟨v, hv, hp⟩ := pureF_out h
    refine .inr ⟨v, .inl ⟨hw, by rw [hkd, h0]; decide, ?_⟩, hK v H hd hv⟩
    unfold Yld
    rw [hkd, h0]
    intro H'
    show hq P (execOp a.eval o) _ H'
    rw [hex]; exact hp H'
  next h1 =>
    split at h
    next t x ho =>
      obtain ⟨hC, h⟩ := h
      obtain ⟨v, hv, hp⟩ := loadF_out (D := C) (fun a v hR H' hC' => hR H' hC') h
      refine .inr ⟨v, .inl ⟨hw, by rw [hkd, h1]; decide, ?_⟩, hK v H hd hv⟩
      unfold Yld
      rw [hkd, h1]
      refine ⟨hC, fun H' hC' => ?_⟩
      show hq P (execOp a.eval o) _ H'
      rw [hex, load_exec ho, hq_bind]
      have := hp H' hC'
      exact hq_mono P _ (fun w hw => by subst hw; rfl) this
    next => exact h.elim
  next h2 =>
    split at h
    next t x ho =>
      obtain ⟨v, hv, hp⟩ := loadF_out (D := fun H' => H' = H) (fun a v hR H' hC' => by subst hC'; exact hR) h
      refine .inr ⟨v, .inl ⟨hw, by rw [hkd, h2]; decide, ?_⟩, hK v H hd hv⟩
      unfold Yld
      rw [hkd, h2]
      show hq P (execOp a.eval o) _ H
      rw [hex, load_exec ho, hq_bind]
      have := hp H rfl
      exact hq_mono P _ (fun w hw => by subst hw; rfl) this
    next =>
      obtain ⟨v, hv, hp⟩ := hq_nK h
      obtain ⟨u, rfl, hv⟩ := exV_out hv
      refine .inr ⟨v, .inl ⟨hw, by rw [hkd, h2]; decide, ?_⟩, hK v H hd hv⟩
      unfold Yld
      rw [hkd, h2]
      show hq P (execOp a.eval o) _ H
      rw [hex]; exact hp
  next h0 h1 h2 =>
    have hle := kdOf_le P ops amb k
    rw [hkd] at hle
    have h3 : kind0 P amb k o = 3 := by
      rcases Nat.lt_or_ge (kind0 P amb k o) 1 with h | h
      · exact absurd (by omega) h0
      · rcases Nat.lt_or_ge (kind0 P amb k o) 2 with h' | h'
        · exact absurd (by omega) h1
        · rcases Nat.lt_or_ge (kind0 P amb k o) 3 with h'' | h''
          · exact absurd (by omega) h2
          · omega
    refine .inl ⟨hw, hkd.trans h3, ?_⟩
    unfold eV
    rw [hex]
    refine eV_mono (fun v H' h4 => ?_) (effF_out hent (fun f => rfl) h)
    cases hn : needB ops amb k with
    | true => rw [hn] at h4; exact ⟨fun _ => h4.1, hK v H' hd h4.2⟩
    | false => rw [hn] at h4; exact ⟨fun hn' => (by cases hn'), hK v H' hd h4⟩

/-! ### One behind the other -/

variable (ops) in
def dstOf (j : Nat) : Option Tmp := (ops[j]?).bind (·.dst)

variable (ops) in
def gval (env : Env) (j : Nat) : Option Bool :=
  match dstOf ops j with
  | some t => match look env t with
    | some (.bool b) => some b
    | _ => none
  | none => none

def runs (kn : List (Nat × Bool)) : Option (Nat × Bool) → Bool
  | none => true
  | some g => kn.any fun x => Nat.beq x.1 g.1 && (x.2 == g.2)

def notDst (d : Option Tmp) : Option Tmp → Bool
  | some t => match d with
    | some s => !Nat.beq s t
    | none => true
  | none => true

variable (ops) in
def keeps (kn : List (Nat × Bool)) (o : Oper) : Bool := kn.all fun x => notDst o.dst (dstOf ops x.1)

def isPick (c : Nat) : Op → Bool
  | .pick (.tmp t) _ _ => Nat.beq t c
  | _ => false

def splitPick (c : Nat) : List Oper → Option (List Oper × Oper × List Oper)
  | [] => none
  | o :: l => match isPick c o.op with
    | true => some ([], o, l)
    | false => match splitPick c l with
      | some (g, p, r) => some (o :: g, p, r)
      | none => none

def pickArg : Bool → Op → Option Operand
  | true, .pick _ x (.const (.bool false)) => some x
  | false, .pick _ (.const (.bool true)) y => some y
  | _, _ => none

def skipOk (j : Nat) (w : Bool) (k : Nat) : Nat → List Oper → Bool
  | _, [] => true
  | i, o :: l => (match o.guard with
    | some (j', w') => (Nat.beq j' j && (w' == w)) || (Nat.ble k j' && Nat.blt j' i)
    | none => false) && skipOk j w k (i + 1) l

def freshD (env : Env) (o : Oper) : Bool :=
  match o.dst with
  | some d => (look env d).isNone
  | none => true

variable (ops) in
def grpOk (n : Nat) (env : Env) (kn : List (Nat × Bool)) (j c : Nat) (w : Bool) (k : Nat) (grp : List Oper) (p : Oper) : Bool :=
  skipOk j w k k grp && runs kn p.guard && keeps ops kn p && okDst n p.dst && grp.all fun o => freshD env o && notDst o.dst (some c) && keeps ops kn o

def boolK (env : Env) (x : Operand) (K : Bool → Prop) : Prop :=
  match hasE env x with
  | true => match evalE env x with
    | .bool b => K b
    | _ => False
  | false => False

def guardM (b w : Bool) (m : (Bool → Hp → Prop) → Hp → Prop) (K : Bool → Hp → Prop) (H : Hp) : Prop :=
  if b = w then m K H else K (!w) H

variable (P n ent ops amb C) in
def evOps : Nat → List (Nat × Bool) → Nat → List Oper → (Env → Hp → Prop) → Env → Hp → Prop
  | _, _, _, [], K, env, H => K env H
  | 0, _, _, _ :: _, _, _, _ => False
  | f + 1, kn, k, o :: l, K, env, H =>
    match runs kn o.guard with
    | true => match keeps ops kn o with
      | true => opF P n ent ops amb C k o env (fun v H' => evOps f kn (k + 1) l K (putE env o.dst v) H') H
      | false => False
    | false => match o.guard with
      | none => False
      | some (j, w) => match gval ops env j, dstOf ops j with
        | some b, some c => match splitPick c (o :: l) with
          | some (grp, p, rest) => match pickArg w p.op, grpOk ops n env kn j c w k grp p with
            | some y, true =>
              guardM b w (fun kk H => evOps f ((j, w) :: kn) k grp (fun env' H' => boolK env' y fun r => kk r H') env H)
                (fun r H' => evOps f kn (k + grp.length + 1) rest K (putE env p.dst (.bool r)) H') H
            | _, _ => False
          | none => False
        | _, _ => False

end
end Go.EV
