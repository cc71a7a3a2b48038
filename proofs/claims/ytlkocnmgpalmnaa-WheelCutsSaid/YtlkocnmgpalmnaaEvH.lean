/- Code over what is known of the temporaries; a call's contract by evaluation. -/
import Derived.Test.YtlkocnmgpalmnaaEvT
namespace Go.EV
open Go

/-! ### Regions -/

def chkRow (P : Program) (ops : Array Oper) (amb : List Nat) (mj kj : Nat) (oj : Oper) : List Oper → Nat → Bool
  | [], _ => true
  | oi :: l, i => (mj.testBit i || (oi.apart ops oj && kindsOk (kind0 P amb i oi) kj)) && chkRow P ops amb mj kj oj l (i + 1)

def chkAll (P : Program) (ops : Array Oper) (amb : List Nat) (M : List Nat) (all : List Oper) : List Oper → Nat → Bool
  | [], _ => true
  | o :: l, j => notSelect o.op && o.after.toList.all (fun e => !Region.binds .any e || Nat.blt e.on j) && chkRow P ops amb (M.getD j 0) (kind0 P amb j o) o (all.take j) 0 && chkAll P ops amb M all l (j + 1)

def mixB (P : Program) (ops : Array Oper) (amb : List Nat) : Bool := chkAll P ops amb (masks ops.toList []) ops.toList ops.toList 0

theorem chkRow_spec {P : Program} {ops : Array Oper} {amb : List Nat} {mj kj : Nat} {oj : Oper} : ∀ {l : List Oper} {i : Nat}, chkRow P ops amb mj kj oj l i = true → ∀ m oi, l[m]? = some oi →
    (mj.testBit (i + m) || (oi.apart ops oj && kindsOk (kind0 P amb (i + m) oi) kj)) = true
  | [], _, _, m, oi, hm => by simp at hm
  | o :: l, i, h, m, oi, hm => by
    simp only [chkRow, Bool.and_eq_true] at h
    cases m with
    | zero => simp at hm; subst hm; exact h.1
    | succ m =>
      have := chkRow_spec h.2 m oi (by simpa using hm)
      rwa [show i + 1 + m = i + (m + 1) by omega] at this

theorem chkAll_spec {P : Program} {ops : Array Oper} {amb : List Nat} {M : List Nat} {all : List Oper} : ∀ {l : List Oper} {j : Nat}, chkAll P ops amb M all l j = true → ∀ m o, l[m]? = some o →
    notSelect o.op = true ∧ (∀ e ∈ o.after, Region.binds .any e = true → e.on < j + m) ∧ chkRow P ops amb (M.getD (j + m) 0) (kind0 P amb (j + m) o) o (all.take (j + m)) 0 = true
  | [], _, _, m, o, hm => by simp at hm
  | x :: l, j, h, m, o, hm => by
    simp only [chkAll, Bool.and_eq_true] at h
    obtain ⟨⟨⟨h1, h2⟩, h3⟩, h4⟩ := h
    cases m with
    | zero =>
      simp at hm; subst hm
      refine ⟨h1, fun e he hb => ?_, h3⟩
      have := List.all_eq_true.1 h2 e (by simpa using he)
      rw [hb] at this
      simpa using this
    | succ m =>
      have := chkAll_spec h4 m o (by simpa using hm)
      rwa [show j + 1 + m = j + (m + 1) by omega] at this

theorem mixB_spec {P : Program} {ops : Array Oper} {amb : List Nat} (h : mixB P ops amb = true) : MixOk ops (kdOf P ops amb) (needB ops amb) := by
  have key := fun j o (ho : ops[j]? = some o) => chkAll_spec h j o (by simpa using ho)
  refine ⟨fun j o cs b ho hs => ?_, fun j o ho e he hb => ?_, fun i j oi oj hij hi hj => ?_, fun i m hm hm1 hn => ?_⟩
  · have := (key j o ho).1
    rw [hs] at this
    simp [notSelect] at this
  · have := (key j o ho).2.1 e he hb
    omega
  · have := chkRow_spec (key j oj hj).2.2 i oi (by rw [List.getElem?_take_of_lt (by omega)]; simpa using hi)
    simp only [Nat.zero_add] at this
    unfold pairOk kdOf
    rw [hi, hj]
    exact this
  · have hmem : amb.any (Nat.beq m) = true := by
      unfold kdOf at hm1
      rw [Array.getElem?_eq_getElem hm] at hm1
      cases hb : amb.any (Nat.beq m) with
      | true => rfl
      | false =>
        exfalso
        revert hm1
        unfold kind0
        rw [hb]
        (repeat' split) <;> first | (simp; done) | (rename_i hx; cases hx)
    obtain ⟨x, hx, he⟩ := List.any_eq_true.1 hmem
    have : m = x := Nat.eq_of_beq_eq_true he
    subst this
    have := List.any_eq_false.1 hn m hx
    simp only [Bool.or_eq_true, Bool.not_eq_true', not_or, Bool.not_eq_false] at this
    exact ⟨by have := this.1; simp at this; omega, this.2⟩

structure Hint where
  /-- the loads of a region that may stand on either side of what does something -/
  amb : Nat → List Nat
  /-- a loop's slots and their shapes, by the first region in it -/
  live : Nat → List (Nat × Sh)
  /-- where ways meet: by the first region behind -/
  join : Nat → Option (List (Nat × Sh))
  /-- a region whose order is walked as a tree -/
  tree : Nat → Option Tr

section
variable (P : Program) (n : Nat) (ent : Nat → Bool) (hi : Hint)

def evRegion (id : Nat) (ops : Array Oper) (draw : Bool) (K : Env → Hp → Prop) (env : Env) (H : Hp) : Prop :=
  match draw with
  | false => evOps P n ent ops [] (fun _ => True) (ops.toList.length) [] 0 ops.toList K env H
  | true => match hi.tree id with
    | some t => match treeB P ops (hi.amb id) t with
      | true => match hi.amb id with
        | [] => evTree P n ent ops [] (fun _ => True) t K env H
        | x :: r => ∃ C : Hp → Prop, C H ∧ evTree P n ent ops (x :: r) C t K env H
      | false => False
    | none => match mixB P ops (hi.amb id) with
    | true => match hi.amb id with
      | [] => evOps P n ent ops [] (fun _ => True) (ops.toList.length) [] 0 ops.toList K env H
      | x :: r => ∃ C : Hp → Prop, C H ∧ evOps P n ent ops (x :: r) C (ops.toList.length) [] 0 ops.toList K env H
    | false => False

inductive Xit where
  | normal | ret
  | exit (id : Nat)

/-- The first region of a piece of code. -/
def firstReg : Code → Option Nat
  | .region id _ _ => some id
  | .seq a b => match firstReg a with
    | some i => some i
    | none => firstReg b
  | .cond _ a b => match firstReg a with
    | some i => some i
    | none => firstReg b
  | .block _ b => firstReg b
  | .loop b => firstReg b
  | _ => none

/-- The slots that a piece of code writes. -/
def writes : Code → List Nat
  | .region _ ops _ => ops.toList.filterMap (·.dst)
  | .seq a b => writes a ++ writes b
  | .cond _ a b => writes a ++ writes b
  | .block _ b => writes b
  | .loop b => writes b
  | _ => []

def getAll (env : Env) : List (Nat × Sh) → Option (List Value)
  | [] => some []
  | (s, _) :: r => match look env s with
    | some v => match getAll env r with
      | some vs => some (v :: vs)
      | none => none
    | none => none

def fitAll : List (Nat × Sh) → List Value → Bool
  | [], [] => true
  | (_, s) :: r, v :: vs => fitV s v && fitAll r vs
  | _, _ => false

def allVL : List (Nat × Sh) → (List Value → Prop) → Prop
  | [], F => F []
  | (_, s) :: r, F => allV s fun v => allVL r fun vs => F (v :: vs)

def bindAll : List (Nat × Sh) → List Value → Env → Env
  | (s, _) :: r, v :: vs, e => (s, v) :: bindAll r vs e
  | _, _, e => e

def without (ws : List Nat) (e : Env) : Env := e.filter fun x => !ws.any (Nat.beq x.1)

/-- At a piece's end the kept slots, if they are of their shapes. -/
def keepK (live : List (Nat × Sh)) (J : List Value → Hp → Prop) (env : Env) (H : Hp) : Prop :=
  match getAll env live with
  | some vs => match fitAll live vs with
    | true => J vs H
    | false => False
  | none => False

def loopM (live : List (Nat × Sh)) (start : (List Value → Hp → Prop) → Prop) (body : (List Value → Hp → Prop) → List Value → Hp → Prop) : Prop :=
  ∃ (I : List Value → Hp → Prop) (μ : List Value → Hp → Nat), start I ∧ allVL live fun vs => ∀ H, I vs H → body (fun vs' H' => I vs' H' ∧ μ vs' H' < μ vs H) vs H

def joinM (live : List (Nat × Sh)) (first : (List Value → Hp → Prop) → Prop) (rest : List Value → Hp → Prop) : Prop :=
  ∃ J : List Value → Hp → Prop, first J ∧ allVL live fun vs => ∀ H, J vs H → rest vs H

def fewer (live : List (Nat × Sh)) (ws : List Nat) : Bool := live.all fun x => ws.any (Nat.beq x.1)

def ev : Code → (Xit → Env → Hp → Prop) → Env → Hp → Prop
  | .skip, K, env, H => K .normal env H
  | .region id ops draw, K, env, H => evRegion P n ent hi id ops draw (K .normal) env H
  | .seq a b, K, env, H =>
    match (firstReg b).bind hi.join with
    | none => ev a (fun x env H => match x with
      | .normal => ev b K env H
      | x => K x env H) env H
    | some live => match fewer live (writes a) with
      | false => False
      | true => joinM live (fun J => ev a (fun x env H => match x with
      | .normal => keepK live J env H
      | x => K x env H) env H) (fun vs H => ev b K (bindAll live vs (without (writes a) env)) H)
  | .cond c a b, K, env, H => match hasE env c with
    | true => match evalE env c with
      | .bool t => (t = true → ev a K env H) ∧ (t = false → ev b K env H)
      | _ => False
    | false => False
  | .block id b, K, env, H => ev b (fun x env H => match x with
    | .exit i => match Nat.beq i id with
      | true => K .normal env H
      | false => K (.exit i) env H
    | x => K x env H) env H
  | .loop b, K, env, H =>
    match (firstReg b).map hi.live with
    | none => False
    | some live => match fewer live (writes b) with
      | false => False
      | true => loopM live (fun I => keepK live I env H) (fun J vs H => ev b (fun x env H => match x with
      | .normal => keepK live J env H
      | x => K x env H) (bindAll live vs (without (writes b) env)) H)
  | .exit id, K, env, H => K (.exit id) env H
  | .ret, K, env, H => K .ret env H
  | _, _, _, _ => False

end

/-! ### The model does just so -/

def toExit : Xit → Exit
  | .normal => .normal
  | .ret => .ret
  | .exit id => .exit id

variable {P : Program} {n : Nat} {ent : Nat → Bool} {hi : Hint}

theorem getAll_spec {env : Env} {a : Act} : ∀ {live : List (Nat × Sh)} {vs : List Value}, getAll env live = some vs → Agree n env a → ∀ {base : Env}, Agree n base a → Agree n (bindAll live vs base) a
  | [], vs, h, hag, base, hb => by simp [getAll] at h; subst h; exact hb
  | (s, sh) :: r, vs, h, hag, base, hb => by
    simp only [getAll] at h
    split at h
    next v hv =>
      split at h
      next vs' hr =>
        have : v :: vs' = vs := Option.some.inj h
        subst this
        have ih := getAll_spec hr hag hb
        refine ⟨ih.size, ih.defers, fun t u ht => ?_⟩
        simp only [bindAll, look] at ht
        split at ht
        next he =>
          have : s = t := Nat.eq_of_beq_eq_true he
          subst this
          have : v = u := Option.some.inj ht
          subst this
          exact hag.get s v hv
        next => exact ih.get t u ht
      next => cases h
    next => cases h

theorem allVL_use : ∀ {live : List (Nat × Sh)} {F : List Value → Prop}, allVL live F → ∀ {vs : List Value}, fitAll live vs = true → F vs
  | [], _, h, [], _ => h
  | (_, _) :: _, _, h, v :: vs, hv => by
    simp only [fitAll, Bool.and_eq_true] at hv
    exact allVL_use (allV_use h hv.1) hv.2
  | [], _, _, _ :: _, hv => by simp [fitAll] at hv
  | (_, _) :: _, _, _, [], hv => by simp [fitAll] at hv

theorem keepK_out {live : List (Nat × Sh)} {J : List Value → Hp → Prop} {env : Env} {H : Hp} (h : keepK live J env H) : ∃ vs, getAll env live = some vs ∧ fitAll live vs = true ∧ J vs H := by
  unfold keepK at h
  split at h
  next vs hvs =>
    split at h
    next hf => exact ⟨vs, hvs, hf, h⟩
    next => exact h.elim
  next => exact h.elim

theorem look_without {ws : List Nat} : ∀ {e : Env} {t : Nat} {v : Value}, look (without ws e) t = some v → (∀ t', t' ∈ ws → t' ≠ t) ∧ look e t = some v
  | [], _, _, h => by simp [without, look] at h
  | (s, u) :: e, t, v, h => by
    unfold without at h
    rw [List.filter_cons] at h
    split at h
    next hk =>
      simp only [look] at h ⊢
      split at h
      next he =>
        have : s = t := Nat.eq_of_beq_eq_true he
        subst this
        refine ⟨fun t' ht' => ?_, by simp [h]⟩
        intro e
        subst e
        simp only [Bool.not_eq_true', List.any_eq_false] at hk
        exact hk t' ht' (by simp)
      next he =>
        exact look_without h
    next hk =>
      have h' := look_without (e := e) h
      refine ⟨h'.1, ?_⟩
      simp only [look]
      split
      next he =>
        have : s = t := Nat.eq_of_beq_eq_true he
        subst this
        simp only [Bool.not_eq_true', Bool.not_eq_false, List.any_eq_true] at hk
        obtain ⟨x, hx, hxe⟩ := hk
        have : s = x := Nat.eq_of_beq_eq_true hxe
        exact absurd this.symm (h'.1 x hx)
      next => exact h'.2

theorem Ext.without {e0 e : Env} {ws : List Nat} (h : Ext e0 e) (hf : ∀ d ∈ ws, look e0 d = none) : Ext e0 (without ws e) := by
  intro t v ht
  have hn : ∀ t' ∈ ws, t' ≠ t := fun t' ht' e => by subst e; rw [hf t' ht'] at ht; cases ht
  have hv := h t v ht
  clear h ht
  induction e with
  | nil => simp [look] at hv
  | cons x e ih =>
    obtain ⟨s, u⟩ := x
    simp only [look] at hv
    unfold EV.without
    rw [List.filter_cons]
    split at hv
    next he =>
      have : s = t := Nat.eq_of_beq_eq_true he
      subst this
      have hk : (!ws.any (Nat.beq s)) = true := by
        simp only [Bool.not_eq_true', List.any_eq_false]
        intro t' ht' hb
        exact hn t' ht' (Nat.eq_of_beq_eq_true hb).symm
      rw [if_pos hk]
      simp [look, hv]
    next he =>
      split
      · simp only [look, he]; exact ih hv
      · exact ih hv

theorem ext_without {e : Env} {ws : List Nat} : Ext (without ws e) e := fun _ _ h => (look_without h).2

theorem Ext.bind {e0 : Env} : ∀ {live : List (Nat × Sh)} {vs : List Value} {e : Env}, Ext e0 e → (∀ x ∈ live, look e0 x.1 = none) → Ext e0 (bindAll live vs e)
  | [], _, _, h, _ => by unfold bindAll; exact h
  | _ :: _, [], _, h, _ => by unfold bindAll; exact h
  | (s, sh) :: r, v :: vs, e, h, hf => by
    intro t u ht
    simp only [bindAll, look]
    split
    next he =>
      have : s = t := Nat.eq_of_beq_eq_true he
      subst this
      have := hf (s, sh) List.mem_cons_self
      rw [ht] at this; cases this
    next => exact Ext.bind (vs := vs) h (fun x hx => hf x (List.mem_cons_of_mem _ hx)) t u ht

theorem without_none {ws : List Nat} {e : Env} {d : Nat} (hd : d ∈ ws) : look (without ws e) d = none := by
  cases h : look (without ws e) d with
  | none => rfl
  | some v => exact absurd rfl ((look_without h).1 d hd)

theorem fewer_mem {live : List (Nat × Sh)} {ws : List Nat} (h : fewer live ws = true) : ∀ x ∈ live, x.1 ∈ ws := fun x hx => by
  have := List.all_eq_true.1 h x hx
  obtain ⟨y, hy, he⟩ := List.any_eq_true.1 this
  have : x.1 = y := Nat.eq_of_beq_eq_true he
  rw [this]; exact hy

theorem ev_sound (hm : P.follows .mixedOrders = true) (hent : ∀ f, ent f = true → Enters P f) : ∀ (c : Code) (K : Xit → Env → Hp → Prop) (env : Env) (H : Hp), ev P n ent hi c K env H →
    ∀ (e0 : Env) (a : Act) (w0 w : World) (Q : Exit → Act → World → Prop), Agree n env a → Ext e0 env → (∀ d ∈ writes c, look e0 d = none) → w.heap = H → Same w0 w →
      (∀ x env' a' w', Agree n env' a' → Ext e0 env' → Same w0 w' → K x env' w'.heap → Q (toExit x) a' w') → c.wp P Q a w := by
  intro c
  induction c with
  | skip => intro K env H h e0 a w0 w Q hag hx hf hw hs hQ; subst hw; exact wp_skip (hQ .normal env a w hag hx hs h)
  | region id ops draw =>
    intro K env H h e0 a w0 w Q hag hx hf hw hs hQ
    subst hw
    have hfr : ops.toList.all (freshD e0) = true := List.all_eq_true.2 fun o ho => by
      unfold freshD
      cases hd : o.dst with
      | none => rfl
      | some d =>
        have := hf d (List.mem_filterMap.2 ⟨o, ho, hd⟩)
        simp [this]
    have run : ∀ (amb : List Nat) (C : Hp → Prop), evOps P n ent ops amb C ops.toList.length [] 0 ops.toList (K .normal) env w.heap →
        wT P ops C (kdOf P ops amb) (needB ops amb) (fun a' H' => ∃ env', Agree n env' a' ∧ Ext e0 env' ∧ K .normal env' H') ops.toList 0 a w.heap := fun amb C h' =>
      evOps_sound hent _ [] 0 ops.toList (K .normal) env w.heap h' e0 a _ (fun m _ => by simp) hag (fun x hx' => by cases hx') hx hfr fun env' a' H' h1 _ h3 h4 => ⟨env', h1, h3, h4⟩
    have fin : ∀ a' w', Same w0 w' → (∃ env', Agree n env' a' ∧ Ext e0 env' ∧ K .normal env' w'.heap) → Q .normal a' w' := fun a' w' hs' ⟨env', h1, h2, h3⟩ => hQ .normal env' a' w' h1 h2 hs' h3
    unfold ev evRegion at h
    cases draw with
    | false => exact wp_region_seq hs fin (run [] _ h)
    | true =>
      simp only at h
      split at h
      next t ht =>
        have hfr' : ∀ (i : Nat) (o : Oper), ops[i]? = some o → freshD e0 o = true := fun i o ho => List.all_eq_true.1 hfr o (by simpa using Array.mem_of_getElem? ho)
        split at h
        next hb =>
          obtain ⟨hok, hv⟩ := treeB_spec hb
          split at h
          next hamb =>
            rw [hamb] at hok hv
            exact wp_region_tree (C := fun _ => True) (KQ := fun a' H' => ∃ env', Agree n env' a' ∧ Ext e0 env' ∧ K .normal env' H') hm hok (kdOf_le P ops []) hv hs (fun m _ hm1 => trivial) fin (evTree_sound hent hfr' t _ env w.heap h a _ _ hv hag hx fun env' a' H' h1 h2 h3 => ⟨env', h1, h2, h3⟩)
          next x r hamb =>
            rw [hamb] at hok hv
            obtain ⟨C, hC, h⟩ := h
            exact wp_region_tree (C := C) (KQ := fun a' H' => ∃ env', Agree n env' a' ∧ Ext e0 env' ∧ K .normal env' H') hm hok (kdOf_le P ops (x :: r)) hv hs (fun m _ hm1 => hC) fin (evTree_sound hent hfr' t _ env w.heap h a _ _ hv hag hx fun env' a' H' h1 h2 h3 => ⟨env', h1, h2, h3⟩)
        next => exact h.elim
      next =>
      split at h
      next hb =>
        have hok := mixB_spec hb
        split at h
        next hamb =>
          rw [hamb] at hok
          exact wp_region_mix hm hok (kdOf_le P ops []) hs (fun m _ hm1 => trivial) fin (run [] _ h)
        next x r hamb =>
          rw [hamb] at hok
          obtain ⟨C, hC, h⟩ := h
          exact wp_region_mix hm hok (kdOf_le P ops (x :: r)) hs (fun m _ hm1 => hC) fin (run (x :: r) C h)
      next => exact h.elim
  | seq x y ihx ihy =>
    intro K env H h e0 a w0 w Q hag hx hf hw hs hQ
    have hfx : ∀ d ∈ writes x, look e0 d = none := fun d hd => hf d (List.mem_append_left _ hd)
    have hfy : ∀ d ∈ writes y, look e0 d = none := fun d hd => hf d (List.mem_append_right _ hd)
    refine wp_seq ?_
    unfold ev at h
    split at h
    next =>
      refine ihx _ env H h e0 a w0 w _ hag hx hfx hw hs fun z env' a' w' h1 h2 h3 h4 => ?_
      cases z with
      | normal => exact ihy K env' _ h4 e0 a' w0 w' Q h1 h2 hfy rfl h3 hQ
      | ret => exact hQ .ret env' a' w' h1 h2 h3 h4
      | exit id => exact hQ (.exit id) env' a' w' h1 h2 h3 h4
    next live hj =>
      split at h
      · exact h.elim
      next hfew =>
      obtain ⟨J, h1, h2⟩ := h
      -- behind the first part: what it did not write stands
      have hmem := fewer_mem hfew
      refine ihx _ env H h1 (without (writes x) env) a w0 w _ hag ext_without (fun d hd => without_none hd) hw hs fun z env' a' w' g1 g2 g3 g4 => ?_
      have hb : Agree n (without (writes x) env) a' := g1.down g2
      cases z with
      | normal =>
        obtain ⟨vs, hv, hfit, hJ⟩ := keepK_out g4
        exact ihy K _ _ (allVL_use h2 hfit _ hJ) e0 a' w0 w' Q (getAll_spec hv g1 hb) ((hx.without hfx).bind fun z hz => hfx _ (hmem z hz)) hfy rfl g3 hQ
      | ret => exact hQ .ret _ a' w' g1 (fun t v ht => g2 t v (hx.without hfx t v ht)) g3 g4
      | exit id => exact hQ (.exit id) _ a' w' g1 (fun t v ht => g2 t v (hx.without hfx t v ht)) g3 g4
  | cond c x y ihx ihy =>
    intro K env H h e0 a w0 w Q hag hx hf hw hs hQ
    have hfx : ∀ d ∈ writes x, look e0 d = none := fun d hd => hf d (List.mem_append_left _ hd)
    have hfy : ∀ d ∈ writes y, look e0 d = none := fun d hd => hf d (List.mem_append_right _ hd)
    unfold ev at h
    split at h
    next hc =>
      split at h
      next t ht =>
        refine wp_cond_split ((hag.eval hc).trans ht) (fun h' => ?_) fun h' => ?_
        · exact ihx K env H (h.1 h') e0 a w0 w Q hag hx hfx hw hs hQ
        · exact ihy K env H (h.2 h') e0 a w0 w Q hag hx hfy hw hs hQ
      next => exact h.elim
    next => exact h.elim
  | block id b ih =>
    intro K env H h e0 a w0 w Q hag hx hf hw hs hQ
    unfold ev at h
    refine wp_block (ih _ env H h e0 a w0 w _ hag hx hf hw hs fun z env' a' w' h1 h2 h3 h4 => ?_)
    cases z with
    | normal => exact hQ .normal env' a' w' h1 h2 h3 h4
    | ret => exact hQ .ret env' a' w' h1 h2 h3 h4
    | exit i =>
      simp only [toExit, Exit.inBlock]
      simp only at h4
      split at h4
      next hb =>
        rw [if_pos (Nat.eq_of_beq_eq_true hb)]
        exact hQ .normal env' a' w' h1 h2 h3 h4
      next hb =>
        rw [if_neg (fun e => by subst e; simp at hb)]
        exact hQ (.exit i) env' a' w' h1 h2 h3 h4
  | loop b ih =>
    intro K env H h e0 a w0 w Q hag hx hf hw hs hQ
    unfold ev at h
    split at h
    · exact h.elim
    next live hl =>
    split at h
    · exact h.elim
    next hfew =>
    have hmem := fewer_mem hfew
    obtain ⟨I, μ, h1, h2⟩ := h
    obtain ⟨vs0, hv0, hfit0, hI0⟩ := keepK_out h1
    subst hw
    -- the measure of the slots as they stand
    let vals : Act → List Value := fun a' => live.map fun x => a'.tmps.getD x.1 undef
    have hvals : ∀ {e : Env} {a' : Act} {l : List (Nat × Sh)} {vs : List Value}, Agree n e a' → getAll e l = some vs → l.map (fun x => a'.tmps.getD x.1 undef) = vs := by
      intro e a' l
      induction l with
      | nil => intro vs _ h; simp [getAll] at h; subst h; rfl
      | cons x l ihl =>
        obtain ⟨s, sh⟩ := x
        intro vs hag h
        simp only [getAll] at h
        split at h
        next v hv =>
          split at h
          next vs' hr =>
            have : v :: vs' = vs := Option.some.inj h
            subst this
            simp only [List.map_cons]
            rw [hag.get s v hv, ihl hag hr]
          next => cases h
        next => cases h
    refine wp_loop (fun a' w' => Same w0 w' ∧ ∃ vs, fitAll live vs = true ∧ I vs w'.heap ∧ Agree n (bindAll live vs (without (writes b) env)) a' ∧ vals a' = vs) (fun a' w' => μ (vals a') w'.heap)
      ⟨hs, vs0, hfit0, hI0, getAll_spec hv0 hag (hag.down ext_without), hvals hag hv0⟩ fun a' w' ⟨hs', vs, hfit, hI, hag', hvs⟩ => ?_
    have hbase : Ext (without (writes b) env) (bindAll live vs (without (writes b) env)) := (Ext.refl _).bind fun z hz => without_none (hmem z hz)
    refine ih _ _ _ (allVL_use h2 hfit _ hI) (without (writes b) env) a' w0 w' _ hag' hbase (fun d hd => without_none hd) rfl hs' fun z env'' a'' w'' g1 g2 g3 g4 => ?_
    cases z with
    | normal =>
      obtain ⟨vs', hv', hfit', hI', hlt⟩ := keepK_out g4
      have e := hvals g1 hv'
      refine ⟨⟨g3, vs', hfit', hI', getAll_spec hv' g1 (g1.down g2), e⟩, ?_⟩
      show μ (vals a'') w''.heap < μ (vals a') w'.heap
      rw [show vals a'' = vs' from e, hvs]
      exact hlt
    | ret => exact hQ .ret _ a'' w'' g1 (fun t v ht => g2 t v (hx.without hf t v ht)) g3 g4
    | exit id => exact hQ (.exit id) _ a'' w'' g1 (fun t v ht => g2 t v (hx.without hf t v ht)) g3 g4
  | exit id =>
    intro K env H h e0 a w0 w Q hag hx hf hw hs hQ
    subst hw
    exact wp_exit (hQ (.exit id) env a w hag hx hs h)
  | ret =>
    intro K env H h e0 a w0 w Q hag hx hf hw hs hQ
    subst hw
    exact wp_ret (hQ .ret env a w hag hx hs h)
  | rangeFunc f ps asg b => intro K env H h; exact h.elim
  | scope b => intro K env H h; exact h.elim
  | label l => intro K env H h; exact h.elim
  | goto l => intro K env H h; exact h.elim
  | refuse why => intro K env H h; exact h.elim

/-! ### A call -/

def initEnv (args : Array Value) : Env := args.toList.zipIdx.map fun x => (x.2, x.1)

def resE (rs : Array ResultVar) (env : Env) : Option Value :=
  match rs.toList with
  | [.tmp t] => look env t
  | [] => some (.tuple #[])
  | [.tmp t, .tmp u] => match look env t, look env u with
    | some v, some w => some (.tuple #[v, w])
    | _, _ => none
  | [.tmp t, .tmp u, .tmp s] => match look env t, look env u, look env s with
    | some v, some w, some x => some (.tuple #[v, w, x])
    | _, _, _ => none
  | _ => none

def retK (rs : Array ResultVar) (R : Value → Hp → Prop) (env : Env) (H : Hp) : Prop :=
  match resE rs env with
  | some v => R v H
  | none => False

def evFn (P : Program) (ent : Nat → Bool) (hi : Hint) (f : Nat) (args : Array Value) (R : Value → Hp → Prop) (H : Hp) : Prop :=
  match P.funcs[f]? with
  | some fn => match fn.body with
    | some c => match Nat.ble args.toList.length fn.ntmps with
      | true => ev P fn.ntmps ent hi c (fun x env H => match x with
        | .normal => retK fn.results R env H
        | .ret => retK fn.results R env H
        | .exit _ => False) (initEnv args) H
      | false => False
    | none => False
  | none => False

theorem look_init : ∀ (l : List Value) (k t : Nat) (v : Value), look ((l.zipIdx k).map fun x => (x.2, x.1)) t = some v → k ≤ t ∧ l[t - k]? = some v
  | [], _, _, _, h => by simp [look] at h
  | u :: l, k, t, v, h => by
    simp only [List.zipIdx_cons, List.map_cons, look] at h
    split at h
    next he =>
      have : k = t := Nat.eq_of_beq_eq_true he
      subst this
      exact ⟨Nat.le_refl _, by simpa using h⟩
    next he =>
      obtain ⟨h1, h2⟩ := look_init l (k + 1) t v h
      refine ⟨by omega, ?_⟩
      rw [show t - k = (t - (k + 1)) + 1 by omega]
      simpa using h2

theorem initEnv_agree {args : Array Value} (h : args.size ≤ n) : Agree n (initEnv args) { tmps := args ++ Array.replicate (n - args.size) undef, defers := [] } := by
  refine ⟨by simp; omega, rfl, fun t v ht => ?_⟩
  obtain ⟨_, h2⟩ := look_init args.toList 0 t v ht
  simp only [Nat.sub_zero, Array.getElem?_toList] at h2
  have hlt : t < args.size := (Array.getElem?_eq_some_iff.1 h2).1
  simp only [Array.getD_eq_getD_getElem?]
  rw [Array.getElem?_append_left hlt, h2]
  rfl

theorem resE_out {fn : Func} {env : Env} {v : Value} {a : Act} (h : resE fn.results env = some v) (hag : Agree n env a) (P : Program) (w : World) : (results fn a.tmps).run P w = .ok v w := by
  unfold resE at h
  have hr : fn.results = fn.results.toList.toArray := by simp
  split at h
  next t he =>
    rw [he] at hr
    simp [results, hr]
    simpa using hag.get t v h
  next he =>
    rw [he] at hr
    have := Option.some.inj h; subst this
    simp [results, hr]
  next t u he =>
    rw [he] at hr
    split at h
    next x y hx hy =>
      have := Option.some.inj h; subst this
      simp [results, hr]
      exact ⟨by simpa using hag.get t x hx, by simpa using hag.get u y hy⟩
    next => cases h
  next t u s he =>
    rw [he] at hr
    split at h
    next x y z hx hy hz =>
      have := Option.some.inj h; subst this
      simp [results, hr]
      exact ⟨by simpa using hag.get t x hx, by simpa using hag.get u y hy, by simpa using hag.get s z hz⟩
    next => cases h
  next => cases h

theorem evFn_calls (hm : P.follows .mixedOrders = true) (hent : ∀ f, ent f = true → Enters P f) {f : Nat} {args : Array Value} {R : Value → Hp → Prop} {H : Hp}
    (h : evFn P ent hi f args R H) : CallV P f args H R := by
  intro w hw
  unfold evFn at h
  split at h
  next fn hfn =>
    split at h
    next c hc =>
      split at h
      next hle =>
        have hsz : args.size ≤ fn.ntmps := by simpa using hle
        refine calls_of_wp hfn hc ?_
        refine ev_sound hm hent c _ _ H h [] _ w w _ (initEnv_agree hsz) (fun t v ht => by cases ht) (fun d _ => rfl) hw (.refl w) fun x env' a' w' h1 _ h3 h4 => ?_
        have fin : retK fn.results R env' w'.heap → a'.defers = [] ∧ ∃ v, (results fn a'.tmps).run P w' = .ok v w' ∧ (∃ u, Ending.returned v = .returned u ∧ Same w w' ∧ R u w'.heap) := fun hr => by
          unfold retK at hr
          split at hr
          next v hv => exact ⟨h1.defers, v, resE_out hv h1 P w', v, rfl, h3, hr⟩
          next => exact hr.elim
        cases x with
        | normal => exact fin h4
        | ret => exact fin h4
        | exit id => exact h4.elim
      next => exact h.elim
    next => exact h.elim
  next => exact h.elim

end Go.EV
