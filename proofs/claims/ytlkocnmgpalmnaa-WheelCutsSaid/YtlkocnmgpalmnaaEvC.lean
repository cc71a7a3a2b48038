/- What an operation does, as a formula over the heap, and that the model does just so. -/
import Derived.Test.YtlkocnmgpalmnaaEvB
namespace Go.EV
open Go

/-! ### Shapes of values -/

inductive Sh where
  | int (k : IntKind) | bool | str | ptr | ref | slice | map | raw
  | agg (l : List Sh)

def exA : Sh → (Value → Prop) → Prop
  | .int k, F => ∃ n : Int, F (.int k n)
  | .bool, F => ∃ b : Bool, F (.bool b)
  | .str, F => ∃ s : ByteArray, F (.string s)
  | .ptr, F => ∃ a : Option Addr, F (.pointer a)
  | .ref, F => ∃ a : Addr, F (.pointer (some a))
  | .slice, F => ∃ (a : Option Addr) (l c : Nat), F (.slice a l c)
  | .map, F => ∃ r : Option Nat, F (.map r)
  | .raw, F => ∃ v, F v
  | .agg _, _ => False

def exL : List Sh → (List Value → Prop) → Prop
  | [], F => F []
  | s :: r, F => exA s fun v => exL r fun vs => F (v :: vs)

def exV : Sh → (Value → Prop) → Prop
  | .agg l, F => exL l fun vs => F (.agg ⟨vs⟩)
  | s, F => exA s F

def allA : Sh → (Value → Prop) → Prop
  | .int k, F => ∀ n : Int, F (.int k n)
  | .bool, F => ∀ b : Bool, F (.bool b)
  | .str, F => ∀ s : ByteArray, F (.string s)
  | .ptr, F => ∀ a : Option Addr, F (.pointer a)
  | .ref, F => ∀ a : Addr, F (.pointer (some a))
  | .slice, F => ∀ (a : Option Addr) (l c : Nat), F (.slice a l c)
  | .map, F => ∀ r : Option Nat, F (.map r)
  | .raw, F => ∀ v, F v
  | .agg _, F => ∀ v, F v

def allL : List Sh → (List Value → Prop) → Prop
  | [], F => F []
  | s :: r, F => allA s fun v => allL r fun vs => F (v :: vs)

def allV : Sh → (Value → Prop) → Prop
  | .agg l, F => allL l fun vs => F (.agg ⟨vs⟩)
  | s, F => allA s F

theorem exA_out {s : Sh} {F : Value → Prop} (h : exA s F) : ∃ v, F v := by
  cases s <;> first | exact let ⟨_, h⟩ := h; ⟨_, h⟩ | exact let ⟨_, _, _, h⟩ := h; ⟨_, h⟩ | exact h.elim

theorem exL_out : ∀ {l : List Sh} {F : List Value → Prop}, exL l F → ∃ vs, vs.length = l.length ∧ F vs
  | [], _, h => ⟨[], rfl, h⟩
  | _ :: _, _, h => by
    obtain ⟨v, h⟩ := exA_out h
    obtain ⟨vs, hl, h⟩ := exL_out h
    exact ⟨v :: vs, by simp [hl], h⟩

theorem exV_out {s : Sh} {F : Value → Prop} (h : exV s F) : ∃ v, F v := by
  cases s with
  | agg l => exact let ⟨_, _, h⟩ := exL_out h; ⟨_, h⟩
  | int k => exact exA_out (s := .int k) (F := F) h
  | bool => exact exA_out (s := .bool) (F := F) h
  | str => exact exA_out (s := .str) (F := F) h
  | ptr => exact exA_out (s := .ptr) (F := F) h
  | ref => exact exA_out (s := .ref) (F := F) h
  | slice => exact exA_out (s := .slice) (F := F) h
  | map => exact exA_out (s := .map) (F := F) h
  | raw => exact exA_out (s := .raw) (F := F) h

/-- Is a value of that shape? -/
def fitA : Sh → Value → Bool
  | .int k, .int k' _ => k == k'
  | .bool, .bool _ => true
  | .str, .string _ => true
  | .ptr, .pointer _ => true
  | .ref, .pointer (some _) => true
  | .slice, .slice _ _ _ => true
  | .map, .map _ => true
  | .raw, _ => true
  | _, _ => false

def fitL : List Sh → List Value → Bool
  | [], [] => true
  | s :: r, v :: vs => fitA s v && fitL r vs
  | _, _ => false

def fitV : Sh → Value → Bool
  | .agg l, .agg vs => fitL l vs.toList
  | .agg _, _ => false
  | s, v => fitA s v

theorem allA_use {s : Sh} {F : Value → Prop} (h : allA s F) {v : Value} (hv : fitA s v = true) : F v := by
  cases s <;> cases v <;> first | (simp [fitA] at hv; done) | exact h _ | exact h _ _ _ | (simp [fitA] at hv; subst hv; exact h _) | (rename_i a; cases a <;> first | (simp [fitA] at hv; done) | exact h _)

theorem allL_use : ∀ {l : List Sh} {F : List Value → Prop}, allL l F → ∀ {vs : List Value}, fitL l vs = true → F vs
  | [], _, h, [], _ => h
  | _ :: _, _, h, v :: vs, hv => by
    simp only [fitL, Bool.and_eq_true] at hv
    exact allL_use (allA_use h hv.1) hv.2
  | [], _, _, _ :: _, hv => by simp [fitL] at hv
  | _ :: _, _, _, [], hv => by simp [fitL] at hv

theorem allV_use {s : Sh} {F : Value → Prop} (h : allV s F) {v : Value} (hv : fitV s v = true) : F v := by
  cases s with
  | agg l => cases v <;> first | (simp [fitV] at hv; done) | exact allL_use (F := fun vs => F (.agg ⟨vs⟩)) h hv
  | int k => exact allA_use (s := .int k) (F := F) h hv
  | bool => exact allA_use (s := .bool) (F := F) h hv
  | str => exact allA_use (s := .str) (F := F) h hv
  | ptr => exact allA_use (s := .ptr) (F := F) h hv
  | ref => exact allA_use (s := .ref) (F := F) h hv
  | slice => exact allA_use (s := .slice) (F := F) h hv
  | map => exact allA_use (s := .map) (F := F) h hv
  | raw => exact allA_use (s := .raw) (F := F) h hv

/-- The shapes of a type's cells. -/
def cellsOf (P : Program) : Nat → TypeId → List Sh
  | 0, _ => []
  | f + 1, t =>
    match P.underlying t with
    | some (.int k) => [.int k]
    | some .bool => [.bool]
    | some .string => [.str]
    | some (.pointer _) => [.ptr]
    | some (.slice _) => [.slice]
    | some (.map _ _) => [.map]
    | some (.struct fs) => fs.toList.flatMap fun x => cellsOf P f x.type
    | some (.array n e) => (List.replicate n (cellsOf P f e)).flatten
    | _ => [.raw]

def shOf (P : Program) (t : TypeId) : Sh :=
  match P.underlying t with
  | some (.int k) => .int k
  | some .bool => .bool
  | some .string => .str
  | some (.pointer _) => .ptr
  | some (.slice _) => .slice
  | some (.map _ _) => .map
  | some (.struct _) => .agg (cellsOf P 8 t)
  | some (.array _ _) => .agg (cellsOf P 8 t)
  | _ => .raw

/-! ### What only computes -/

def pv {α : Type} (P : Program) : Sem α → (α → Prop) → Prop
  | .pure a, Q => Q a
  | .program k, Q => pv P (k P) Q
  | .mark _ k, Q => pv P k Q
  | _, _ => False

theorem pv_out {α : Type} (P : Program) (e : Sem α) : ∀ {Q : α → Prop}, pv P e Q → ∃ a, Q a ∧ ∀ H, hq P e (fun b => b = a) H := by
  induction e with
  | pure a => intro Q h; exact ⟨a, h, fun _ => rfl⟩
  | program k ih => intro Q h; exact ih P h
  | mark m k ih => intro Q h; exact ih h
  | load m a k ih => intro Q h; exact h.elim
  | shape r k ih => intro Q h; exact h.elim
  | frozen a k ih => intro Q h; exact h.elim
  | getObj r k ih => intro Q h; exact h.elim
  | store m a v k ih => intro Q h; exact h.elim
  | new o k ih => intro Q h; exact h.elim
  | freeze a n k ih => intro Q h; exact h.elim
  | setObj r o k ih => intro Q h; exact h.elim
  | choose q k ih => intro Q h; exact h.elim
  | sys c k ih => intro Q h; exact h.elim
  | halt x => intro Q h; exact h.elim

def optK (a : Option Addr) (K : Addr → Prop) : Prop :=
  match a with
  | some ad => K ad
  | none => False

def bnd (x : Option Int) (dflt top : Nat) (K : Nat → Prop) : Prop :=
  match x with
  | none => K dflt
  | some i => 0 ≤ i ∧ i ≤ (top : Int) ∧ K i.toNat

def slA (a : Option Addr) (m l size : Nat) : Option Addr := if m = l then a else a.map (·.add (l * size))

def pickL (cs : Array Value) : List Sh → Nat → Nat → (List Value → Prop) → Prop
  | [], _, _, K => K []
  | s :: r, off, i, K => exA s fun v => cs[off + i]? = some v ∧ pickL cs r off (i + 1) fun vs => K (v :: vs)

def partF (P : Program) (e : TypeId) (cs : Array Value) (n : Nat) (K : Value → Prop) : Prop :=
  match P.underlying e with
  | none => False
  | some _ => match P.info? e with
    | none => False
    | some inf => match shOf P e with
      | .agg l => match Nat.beq l.length inf.size with
        | true => pickL cs l (n * inf.size) 0 fun vs => K (.agg ⟨vs⟩)
        | false => False
      | s => exA s fun v => cs[n * inf.size]? = some v ∧ K v

def nK (K : Value → Prop) : Next → Prop
  | .value v => K v
  | _ => False

def intOf? : Value → Option Int
  | .int _ n => some n
  | _ => none

/-- An optional operand's number. -/
def optI (ρ : Operand → Value) : Option Operand → Option (Option Int)
  | none => some none
  | some x => (intOf? (ρ x)).map some

def isConstOp : Operand → Bool
  | .const _ => true
  | _ => false

/-- What an operation yields that only computes. -/
def pureF (P : Program) (o : Oper) (ρ : Operand → Value) (K : Value → Prop) : Prop :=
  match o.op with
  | .move x => K (ρ x)
  | .assign x => K (ρ x)
  | .pick c x y => match ρ c with
    | .bool b => K (if b then ρ x else ρ y)
    | _ => False
  | .nilCheck x => match ρ x with
    | .pointer a => optK a fun ad => K (.pointer (some ad))
    | _ => pv P (execOp ρ o) (nK K)
  | .indexAddr t x i => match P.underlying t, ρ x, ρ i with
    | some (.slice e), .slice base len _, .int _ n => match P.info? e with
      | some inf => optK base fun b => 0 ≤ n ∧ n < (len : Int) ∧ K (.pointer (some (b.add (n.toNat * inf.size))))
      | none => False
    | some (.array len e), .pointer (some b), .int _ n => match P.info? e with
      | some inf => 0 ≤ n ∧ n < (len : Int) ∧ K (.pointer (some (b.add (n.toNat * inf.size))))
      | none => False
    | _, _, _ => False
  | .index t x i => match P.underlying t, ρ x, ρ i with
    | some .string, .string s, .int _ n => 0 ≤ n ∧ ∃ b : UInt8, s[n.toNat]? = some b ∧ K (.int .u8 b.toNat)
    | some (.array len e), .agg cs, .int _ n => match isConstOp i with
      | false => 0 ≤ n ∧ n < (len : Int) ∧ partF P e cs n.toNat K
      | true => pv P (execOp ρ o) (nK K)
    | _, _, _ => pv P (execOp ρ o) (nK K)
  | .binOp .quo _ x y _ => match isConstOp y, ρ x, ρ y with
    | false, .int k a, .int k' b => k = k' ∧ b ≠ 0 ∧ K (.int k (k.wrap (a.tdiv b)))
    | _, _, _ => pv P (execOp ρ o) (nK K)
  | .binOp .rem _ x y _ => match isConstOp y, ρ x, ρ y with
    | false, .int k a, .int k' b => k = k' ∧ b ≠ 0 ∧ K (.int k (a.tmod b))
    | _, _, _ => pv P (execOp ρ o) (nK K)
  | .binOp .shl _ x y _ => match isConstOp y, ρ x, ρ y with
    | false, .int k a, .int _ b => 0 ≤ b ∧ K (.int k (k.wrap (a * 2 ^ (min b.toNat k.bits))))
    | _, _, _ => pv P (execOp ρ o) (nK K)
  | .binOp .shr _ x y _ => match isConstOp y, ρ x, ρ y with
    | false, .int k a, .int _ b => 0 ≤ b ∧ K (.int k (a.fdiv (2 ^ (min b.toNat k.bits))))
    | _, _, _ => pv P (execOp ρ o) (nK K)
  | .binOp .add _ x y _ => match ρ x, ρ y with
    | .string a, .string b => ((a.size + b.size : Nat) : Int) ≤ IntKind.i64.max ∧ K (.string (a ++ b))
    | _, _ => pv P (execOp ρ o) (nK K)
  | .binOp .eql t x y _ => match P.underlying t, ρ x, ρ y with
    | some (.pointer _), .pointer a, .pointer none => K (.bool a.isNone)
    | _, _, _ => pv P (execOp ρ o) (nK K)
  | .binOp .neq t x y _ => match P.underlying t, ρ x, ρ y with
    | some (.pointer _), .pointer a, .pointer none => K (.bool !a.isNone)
    | _, _, _ => pv P (execOp ρ o) (nK K)
  | .slice t x lo hi mx => match P.underlying t, ρ x, optI ρ lo, optI ρ hi, optI ρ mx with
    | some .string, .string s, some l, some h, some none => bnd h s.size s.size fun h => bnd l 0 h fun l => K (.string (s.extract l h))
    | some (.slice e), .slice a len cap, some l, some h, some m =>
      if mx.isSome && !hi.isSome then False else
      match P.info? e with
      | some inf => bnd m cap cap fun m => bnd h len m fun h => bnd l 0 h fun l => K (.slice (slA a m l inf.size) (h - l) (m - l))
      | none => False
    | _, _, _, _, _ => False
  | _ => pv P (execOp ρ o) (nK K)

/-- The value is yielded, in every heap. -/
def Pures (P : Program) (o : Oper) (ρ : Operand → Value) (v : Value) : Prop := ∀ H, hq P (execOp ρ o) (fun n => n = .value v) H

theorem pv_pures {P : Program} {o : Oper} {ρ : Operand → Value} {K : Value → Prop} (h : pv P (execOp ρ o) (nK K)) : ∃ v, K v ∧ Pures P o ρ v := by
  obtain ⟨n, hn, hh⟩ := pv_out P _ h
  cases n <;> first | exact hn.elim | exact ⟨_, hn, hh⟩

theorem hq_bind {α β : Type} (P : Program) (e : Sem α) (f : α → Sem β) : ∀ {Q : β → Prop} {H : Hp}, hq P (e >>= f) Q H ↔ hq P e (fun a => hq P (f a) Q H) H := by
  induction e with
  | pure a => intro Q H; exact Iff.rfl
  | program k ih => intro Q H; exact ih P
  | mark m k ih => intro Q H; exact ih
  | load m a k ih => intro Q H; exact ⟨fun ⟨v, hv, h⟩ => ⟨v, hv, (ih v).1 h⟩, fun ⟨v, hv, h⟩ => ⟨v, hv, (ih v).2 h⟩⟩
  | shape r k ih => intro Q H; exact ih _
  | frozen a k ih => intro Q H; exact ih _
  | getObj r k ih => intro Q H; exact ⟨fun ⟨v, hv, hc, h⟩ => ⟨v, hv, hc, (ih v).1 h⟩, fun ⟨v, hv, hc, h⟩ => ⟨v, hv, hc, (ih v).2 h⟩⟩
  | store m a v k ih => intro Q H; exact Iff.rfl
  | new o k ih => intro Q H; exact Iff.rfl
  | freeze a n k ih => intro Q H; exact Iff.rfl
  | setObj r o k ih => intro Q H; exact Iff.rfl
  | choose q k ih => intro Q H; exact Iff.rfl
  | sys c k ih => intro Q H; exact Iff.rfl
  | halt x => intro Q H; exact Iff.rfl

theorem hw_bind {α β : Type} (P : Program) (e : Sem α) (f : α → Sem β) : ∀ {Q : β → Hp → Prop} {H : Hp}, hw P (e >>= f) Q H ↔ hw P e (fun a H' => hw P (f a) Q H') H := by
  induction e with
  | pure a => intro Q H; exact Iff.rfl
  | program k ih => intro Q H; exact ih P
  | mark m k ih => intro Q H; exact ih
  | load m a k ih => intro Q H; exact ⟨fun ⟨v, hv, h⟩ => ⟨v, hv, (ih v).1 h⟩, fun ⟨v, hv, h⟩ => ⟨v, hv, (ih v).2 h⟩⟩
  | shape r k ih => intro Q H; exact ih _
  | frozen a k ih => intro Q H; exact ih _
  | getObj r k ih => intro Q H; exact ⟨fun ⟨v, hv, hc, h⟩ => ⟨v, hv, hc, (ih v).1 h⟩, fun ⟨v, hv, hc, h⟩ => ⟨v, hv, hc, (ih v).2 h⟩⟩
  | store m a v k ih => intro Q H; exact ⟨fun h => ⟨h.1, h.2.1, h.2.2.1, ih.1 h.2.2.2⟩, fun h => ⟨h.1, h.2.1, h.2.2.1, ih.2 h.2.2.2⟩⟩
  | new o k ih => intro Q H; exact ih _
  | freeze a n k ih => intro Q H; exact ih
  | setObj r o k ih => intro Q H; exact ⟨fun h => ⟨h.1, ih.1 h.2⟩, fun h => ⟨h.1, ih.2 h.2⟩⟩
  | choose q k ih =>
    intro Q H
    show (if q.forced then _ else _) ↔ (if q.forced then _ else _)
    split
    · exact ih 0
    · exact ⟨fun h t => (ih _).1 (h t), fun h t => (ih _).2 (h t)⟩
  | sys c k ih => intro Q H; exact Iff.rfl
  | halt x => intro Q H; exact Iff.rfl

theorem hq_under {P : Program} {t : TypeId} {d : TypeDesc} {α : Type} {f : TypeDesc → Sem α} {Q : α → Prop} {H : Hp} (h : P.underlying t = some d) (hh : hq P (f d) Q H) : hq P (underlying t >>= f) Q H := by
  rw [hq_bind]
  show hq P (match P.underlying t with | some d => pure d | none => stuck "no such type") _ H
  rw [h]; exact hh

theorem hq_size {P : Program} {t : TypeId} {i : TypeInfo} {α : Type} {f : Nat → Sem α} {Q : α → Prop} {H : Hp} (h : P.info? t = some i) (hh : hq P (f i.size) Q H) : hq P (sizeOf t >>= f) Q H := by
  rw [hq_bind]
  unfold sizeOf
  rw [hq_bind]
  show hq P (match P.info? t with | some d => pure d | none => stuck "no such type") _ H
  rw [h]; exact hh

def isB (x : Option Int) (dflt top n : Nat) : Prop :=
  match x with
  | none => n = dflt
  | some i => 0 ≤ i ∧ i ≤ (top : Int) ∧ n = i.toNat

theorem bnd_out {x : Option Int} {dflt top : Nat} {K : Nat → Prop} (h : bnd x dflt top K) : ∃ n, K n ∧ isB x dflt top n := by
  cases x with
  | none => exact ⟨_, h, rfl⟩
  | some i => exact ⟨_, h.2.2, h.1, h.2.1, rfl⟩

theorem bnd_in {x : Option Int} {dflt top n : Nat} {K : Nat → Prop} (h1 : isB x dflt top n) (h2 : K n) : bnd x dflt top K := by
  cases x with
  | none => obtain rfl : n = dflt := h1; exact h2
  | some i => obtain ⟨h0, h1, rfl⟩ := h1; exact ⟨h0, h1, h2⟩

theorem optI_map {ρ : Operand → Value} {x : Option Operand} {l : Option Int} (h : optI ρ x = some l) :
    (x = none ∧ l = none) ∨ (∃ k n, x.map ρ = some (.int k n) ∧ l = some n) := by
  cases x with
  | none => simp [optI] at h; exact .inl ⟨rfl, h.symm⟩
  | some y =>
    simp only [optI, intOf?] at h
    split at h
    · rename_i k n hy
      simp at h
      exact .inr ⟨k, n, by simp [hy], h.symm⟩
    · simp at h

theorem hq_bound {P : Program} {k : IntKind} {i : Int} {y : Nat} {code : BoundsCode} {Q : Nat → Prop} {H : Hp} (h0 : 0 ≤ i) (h1 : i ≤ (y : Int)) (hh : Q i.toNat) :
    hq P (Instr.sliceBound (.int k i) y code) Q H := by
  unfold Instr.sliceBound
  rw [hq_bind]
  show hq P (if 0 ≤ i ∧ i ≤ (y : Int) then pure i.toNat else _) Q H
  rw [if_pos ⟨h0, h1⟩]
  exact hh

theorem hq_bound_bind {P : Program} {k : IntKind} {i : Int} {y : Nat} {code : BoundsCode} {α : Type} {f : Nat → Sem α} {Q : α → Prop} {H : Hp} (h0 : 0 ≤ i) (h1 : i ≤ (y : Int)) (hh : hq P (f i.toNat) Q H) :
    hq P (Instr.sliceBound (.int k i) y code >>= f) Q H := by
  rw [hq_bind]; exact hq_bound h0 h1 hh

theorem hq_bounds {P : Program} {isSlice : Bool} {len cap : Nat} {lo hi mx : Option Operand} {ρ : Operand → Value} {l h m : Option Int} {Q : Nat × Nat × Nat → Prop} {H : Hp}
    (hl : optI ρ lo = some l) (hh : optI ρ hi = some h) (hm : optI ρ mx = some m) (hmh : (mx.isSome && !hi.isSome) = false)
    (hb : bnd m cap cap fun m => bnd h len m fun h => bnd l 0 h fun l => Q (l, h, m)) :
    hq P (Instr.sliceBounds isSlice len cap (lo.map ρ) (hi.map ρ) (mx.map ρ)) Q H := by
  obtain ⟨m', hb, hm'⟩ := bnd_out hb
  obtain ⟨h', hb, hh'⟩ := bnd_out hb
  obtain ⟨l', hb, hl'⟩ := bnd_out hb
  unfold Instr.sliceBounds
  rcases optI_map hm with ⟨rfl, rfl⟩ | ⟨km, nm, hme, rfl⟩
  · obtain rfl : m' = cap := hm'
    rcases optI_map hh with ⟨rfl, rfl⟩ | ⟨kh, nh, hhe, rfl⟩
    · obtain rfl : h' = len := hh'
      rcases optI_map hl with ⟨rfl, rfl⟩ | ⟨kl, nl, hle, rfl⟩
      · obtain rfl : l' = 0 := hl'; exact hb
      · obtain ⟨l0, l1, rfl⟩ := hl'
        rw [hle]; exact hq_bound_bind l0 l1 hb
    · obtain ⟨h0, h1, rfl⟩ := hh'
      rw [hhe]
      refine hq_bound_bind h0 h1 ?_
      rcases optI_map hl with ⟨rfl, rfl⟩ | ⟨kl, nl, hle, rfl⟩
      · obtain rfl : l' = 0 := hl'; exact hb
      · obtain ⟨l0, l1, rfl⟩ := hl'
        rw [hle]; exact hq_bound_bind l0 l1 hb
  · obtain ⟨m0, m1, rfl⟩ := hm'
    rcases optI_map hh with ⟨rfl, rfl⟩ | ⟨kh, nh, hhe, rfl⟩
    · exfalso
      cases mx with
      | none => cases hme
      | some _ => cases hmh
    · obtain ⟨h0, h1, rfl⟩ := hh'
      rw [hme, hhe]
      refine hq_bound_bind m0 m1 ?_
      refine hq_bound_bind h0 h1 ?_
      rcases optI_map hl with ⟨rfl, rfl⟩ | ⟨kl, nl, hle, rfl⟩
      · obtain rfl : l' = 0 := hl'; exact hb
      · obtain ⟨l0, l1, rfl⟩ := hl'
        rw [hle]; exact hq_bound_bind l0 l1 hb

def aggD : TypeDesc → Bool
  | .struct _ | .array _ _ => true
  | _ => false

theorem hq_isAgg {P : Program} {t : TypeId} {d : TypeDesc} {α : Type} {f : Bool → Sem α} {Q : α → Prop} {H : Hp} (h : P.underlying t = some d)
    (hh : hq P (f (aggD d)) Q H) : hq P (isAgg t >>= f) Q H := by
  rw [hq_bind]
  unfold isAgg
  refine hq_under h ?_
  cases d <;> exact hh

theorem pickL_out {cs : Array Value} : ∀ {l : List Sh} {off i : Nat} {K : List Value → Prop}, pickL cs l off i K → ∃ vs, K vs ∧ vs.length = l.length ∧ ∀ j v, vs[j]? = some v → cs[off + (i + j)]? = some v
  | [], _, _, _, h => ⟨[], h, rfl, fun j v hv => by simp at hv⟩
  | _ :: _, off, i, K, h => by
    obtain ⟨v, hR, h⟩ := exA_out h
    obtain ⟨vs, hK, hl, hall⟩ := pickL_out h
    refine ⟨v :: vs, hK, by simp [hl], fun j u hu => ?_⟩
    cases j with
    | zero => simp at hu; subst hu; exact hR
    | succ j => have := hall j u (by simpa using hu); rwa [show i + 1 + j = i + (j + 1) by omega] at this

theorem extract_eq {cs : Array Value} {vs : List Value} {off : Nat} (h : ∀ j v, vs[j]? = some v → cs[off + j]? = some v) : cs.extract off (off + vs.length) = ⟨vs⟩ := by
  apply Array.ext_getElem?
  intro j
  rw [Array.getElem?_extract]
  by_cases hj : j < vs.length
  · have h1 := h j _ (List.getElem?_eq_getElem hj)
    have h2 : off + j < cs.size := (Array.getElem?_eq_some_iff.1 h1).1
    rw [if_pos (by omega), h1]; simp [hj]
  · rw [if_neg (by omega)]; simp; omega

theorem partF_out {P : Program} {e : TypeId} {cs : Array Value} {n : Nat} {K : Value → Prop} (h : partF P e cs n K) : ∃ v, K v ∧ ∃ inf, P.info? e = some inf ∧ ∀ H, hq P (part e cs (n * inf.size)) (fun u => u = v) H := by
  unfold partF at h
  split at h
  · exact h.elim
  next d hd =>
    split at h
    · exact h.elim
    next inf hinf =>
      have one : ∀ s : Sh, aggD d = false → (exA s fun v => cs[n * inf.size]? = some v ∧ K v) → ∃ v, K v ∧ ∃ inf, P.info? e = some inf ∧ ∀ H, hq P (part e cs (n * inf.size)) (fun u => u = v) H := fun s hf hs => by
        obtain ⟨v, hv, hk⟩ := exA_out hs
        refine ⟨v, hk, inf, hinf, fun H => ?_⟩
        unfold part
        refine hq_isAgg hd ?_
        rw [hf]
        simp only [Bool.false_eq_true, if_false, hv]
        rfl
      have many : ∀ l : List Sh, aggD d = true → (match Nat.beq l.length inf.size with
          | true => pickL cs l (n * inf.size) 0 fun vs => K (.agg ⟨vs⟩)
          | false => False) → ∃ v, K v ∧ ∃ inf, P.info? e = some inf ∧ ∀ H, hq P (part e cs (n * inf.size)) (fun u => u = v) H := fun l hf hs => by
        split at hs
        next hb =>
          obtain ⟨vs, hk, hl, hall⟩ := pickL_out hs
          refine ⟨_, hk, inf, hinf, fun H => ?_⟩
          unfold part
          refine hq_isAgg hd ?_
          rw [hf]
          simp only [if_true]
          refine hq_size hinf ?_
          have hlen : inf.size = vs.length := by rw [hl]; exact (Nat.eq_of_beq_eq_true hb).symm
          show Value.agg _ = Value.agg _
          congr 1
          rw [hlen]
          exact extract_eq (fun j v hv => by have := hall j v hv; rw [hlen] at this; simpa using this)
        next => exact hs.elim
      unfold shOf at h
      rw [hd] at h
      cases d
      case struct fs => exact many _ rfl h
      case array m e' => exact many _ rfl h
      all_goals exact one _ rfl h
  

theorem pureF_out {P : Program} {o : Oper} {ρ : Operand → Value} {K : Value → Prop} (h : pureF P o ρ K) : ∃ v, K v ∧ Pures P o ρ v := by
  unfold pureF at h
  split at h
  next x ho => exact ⟨_, h, fun H => by unfold execOp; simp only [ho]; rfl⟩
  next x ho => exact ⟨_, h, fun H => by unfold execOp; simp only [ho]; rfl⟩
  next c x y ho =>
    split at h
    next b hb =>
      refine ⟨_, h, fun H => ?_⟩
      unfold execOp; simp only [ho, hb]
      show (Next.value (if b = true then ρ x else ρ y)) = _
      rfl
    next => exact h.elim
  next x ho =>
    split at h
    next a ha =>
      unfold optK at h
      split at h
      next ad =>
        refine ⟨_, h, fun H => ?_⟩
        unfold execOp; simp only [ho, ha]; rfl
      next => exact h.elim
    next => exact pv_pures h
  next t x i ho =>
    split at h
    next e base len _c _k n hu hx hi =>
      split at h
      next inf hinf =>
        unfold optK at h
        split at h
        next b =>
          refine ⟨_, h.2.2, fun H => ?_⟩
          unfold execOp; simp only [ho]
          rw [hq_bind]
          unfold Instr.indexAt
          rw [hi]
          rw [hq_bind]
          refine hq_under hu ?_
          simp only [hx]
          rw [hq_bind]
          show hq P _ _ H
          refine hq_under hu ?_
          show hq P (if 0 ≤ n ∧ n < (len : Int) then _ else _) _ H
          rw [if_pos ⟨h.1, h.2.1⟩]
          exact hq_size hinf rfl
        next => exact h.elim
      next => exact h.elim
    next len e b _k n hu hx hi =>
      split at h
      next inf hinf =>
        refine ⟨_, h.2.2, fun H => ?_⟩
        unfold execOp; simp only [ho]
        rw [hq_bind]
        unfold Instr.indexAt
        rw [hi]
        rw [hq_bind]
        refine hq_under hu ?_
        simp only [hx]
        refine hq_under hu ?_
        show hq P (if 0 ≤ n ∧ n < (len : Int) then _ else _) _ H
        rw [if_pos ⟨h.1, h.2.1⟩]
        exact hq_size hinf rfl
      next => exact h.elim
    next => exact h.elim
  next t x i ho =>
    split at h
    next s _k n hu hx hi =>
      obtain ⟨h0, b, hb, h⟩ := h
      refine ⟨_, h, fun H => ?_⟩
      unfold execOp; simp only [ho]
      rw [hq_bind]
      unfold Instr.index
      rw [hi]
      refine hq_under hu ?_
      simp only [hx, if_pos h0, hb]
      rfl
    next len e cs _k n hu hx hi =>
      split at h
      next hc =>
        obtain ⟨h0, h1, h⟩ := h
        obtain ⟨v, hk, inf, hinf, hp⟩ := partF_out h
        refine ⟨v, hk, fun H => ?_⟩
        unfold execOp; simp only [ho]
        rw [hq_bind]
        unfold Instr.index
        rw [hi]
        rw [hq_bind]
        refine hq_under hu ?_
        simp only [hx]
        rw [if_pos ⟨h0, h1⟩]
        refine hq_size hinf ?_
        have := hp H
        have mono : ∀ {e : Sem Value} {Q Q' : Value → Prop}, (∀ v, Q v → Q' v) → hq P e Q H → hq P e Q' H := by
          intro e
          induction e with
          | pure a => intro Q Q' hm h; exact hm _ h
          | program k ih => intro Q Q' hm h; exact ih P hm h
          | mark m k ih => intro Q Q' hm h; exact ih hm h
          | load m a k ih => intro Q Q' hm h; obtain ⟨v, hv, h⟩ := h; exact ⟨v, hv, ih v hm h⟩
          | shape r k ih => intro Q Q' hm h; exact ih _ hm h
          | frozen a k ih => intro Q Q' hm h; exact ih _ hm h
          | getObj r k ih => intro Q Q' hm h; obtain ⟨v, hv, hc, h⟩ := h; exact ⟨v, hv, hc, ih v hm h⟩
          | store m a v k ih => intro Q Q' hm h; exact h.elim
          | new o k ih => intro Q Q' hm h; exact h.elim
          | freeze a n k ih => intro Q Q' hm h; exact h.elim
          | setObj r o k ih => intro Q Q' hm h; exact h.elim
          | choose q k ih => intro Q Q' hm h; exact h.elim
          | sys c k ih => intro Q Q' hm h; exact h.elim
          | halt x => intro Q Q' hm h; exact h.elim
        exact mono (fun u hu => by subst hu; rfl) this
      next => exact pv_pures h
    next => exact pv_pures h
  next t x y yt ho =>
    split at h
    next _ k a k' b hc hx hy =>
      obtain ⟨rfl, hb, h⟩ := h
      refine ⟨_, h, fun H => ?_⟩
      unfold execOp; simp only [ho, hx, hy]
      show hq P ((if k ≠ k then _ else Op.intDiv .quo k a b) >>= fun v => pure (Next.value v)) _ H
      rw [if_neg (by simp)]
      unfold Op.intDiv
      rw [if_neg hb]
      rfl
    next => exact pv_pures h
  next t x y yt ho =>
    split at h
    next _ k a k' b hc hx hy =>
      obtain ⟨rfl, hb, h⟩ := h
      refine ⟨_, h, fun H => ?_⟩
      unfold execOp; simp only [ho, hx, hy]
      show hq P ((if k ≠ k then _ else Op.intDiv .rem k a b) >>= fun v => pure (Next.value v)) _ H
      rw [if_neg (by simp)]
      unfold Op.intDiv
      rw [if_neg hb]
      rfl
    next => exact pv_pures h
  next t x y yt ho =>
    split at h
    next _ k a k' b hc hx hy =>
      refine ⟨_, h.2, fun H => ?_⟩
      unfold execOp; simp only [ho, hx, hy]
      show hq P (Op.shift .shl k a k' b >>= fun v => pure (Next.value v)) _ H
      unfold Op.shift
      rw [if_neg (by omega)]
      rfl
    next => exact pv_pures h
  next t x y yt ho =>
    split at h
    next _ k a k' b hc hx hy =>
      refine ⟨_, h.2, fun H => ?_⟩
      unfold execOp; simp only [ho, hx, hy]
      show hq P (Op.shift .shr k a k' b >>= fun v => pure (Next.value v)) _ H
      unfold Op.shift
      rw [if_neg (by omega)]
      rfl
    next => exact pv_pures h
  next t x y yt ho =>
    split at h
    next a b hx hy =>
      refine ⟨_, h.2, fun H => ?_⟩
      unfold execOp; simp only [ho, hx, hy]
      show hq P (Op.stringOp .add a b >>= fun v => pure (Next.value v)) _ H
      unfold Op.stringOp
      simp only
      rw [if_neg (by omega)]
      rfl
    next => exact pv_pures h
  next t x y yt ho =>
    split at h
    next e a hu hx hy =>
      refine ⟨_, h, fun H => ?_⟩
      unfold execOp; simp only [ho, hx, hy]
      show hq P ((Op.equal t (.pointer a) (.pointer none) >>= fun b => pure (Value.bool b)) >>= fun v => pure (Next.value v)) _ H
      rw [hq_bind, hq_bind]
      unfold Op.equal
      show hq P (Op.equalIn (9999 + 1) t (.pointer a) (.pointer none)) _ H
      unfold Op.equalIn
      refine hq_under hu ?_
      cases a <;> rfl
    next => exact pv_pures h
  next t x y yt ho =>
    split at h
    next e a hu hx hy =>
      refine ⟨_, h, fun H => ?_⟩
      unfold execOp; simp only [ho, hx, hy]
      show hq P ((Op.equal t (.pointer a) (.pointer none) >>= fun b => pure (Value.bool !b)) >>= fun v => pure (Next.value v)) _ H
      rw [hq_bind, hq_bind]
      unfold Op.equal
      show hq P (Op.equalIn (9999 + 1) t (.pointer a) (.pointer none)) _ H
      unfold Op.equalIn
      refine hq_under hu ?_
      cases a <;> rfl
    next => exact pv_pures h
  next t x lo hi mx ho =>
    split at h
    next s l hh hu hx hl hhi hm =>
      obtain ⟨h', hb, hh'⟩ := bnd_out h
      obtain ⟨l', hb, hl'⟩ := bnd_out hb
      refine ⟨_, hb, fun H => ?_⟩
      have hmx : mx = none := by
        rcases optI_map hm with ⟨h1, _⟩ | ⟨k, n, _, h1⟩
        · exact h1
        · cases h1
      subst hmx
      unfold execOp; simp only [ho]
      rw [hq_bind]
      unfold Instr.sliceAt
      refine hq_under hu ?_
      simp only
      unfold Instr.slice
      refine hq_under hu ?_
      simp only [hx]
      show hq P (Instr.sliceBounds false s.size s.size (lo.map ρ) (hi.map ρ) ((none : Option Operand).map ρ) >>= _) _ H
      rw [hq_bind]
      refine hq_bounds (l := l) (h := hh) (m := none) hl hhi rfl (by simp) ?_
      refine bnd_in (n := s.size) rfl (bnd_in hh' (bnd_in hl' ?_))
      rfl
    next e a len cap l hh m hu hx hl hhi hm =>
      split at h
      · exact h.elim
      next hmh =>
      have hmh : (mx.isSome && !hi.isSome) = false := Bool.eq_false_iff.2 hmh
      split at h
      next inf hinf =>
        obtain ⟨m', hb, hm'⟩ := bnd_out h
        obtain ⟨h', hb, hh'⟩ := bnd_out hb
        obtain ⟨l', hb, hl'⟩ := bnd_out hb
        refine ⟨_, hb, fun H => ?_⟩
        unfold execOp; simp only [ho]
        rw [hq_bind]
        unfold Instr.sliceAt
        refine hq_under hu ?_
        simp only
        unfold Instr.slice
        refine hq_under hu ?_
        simp only [hx]
        rw [hq_bind]
        refine hq_bounds (l := l) (h := hh) (m := m) hl hhi hm hmh ?_
        have fin : hq P ((fun x : Nat × Nat × Nat => do let size ← sizeOf e; pure (Value.slice (if x.2.2 = x.1 then a else a.map (·.add (x.1 * size))) (x.2.1 - x.1) (x.2.2 - x.1))) (l', h', m')) (fun a_1 => hq P (pure (Next.value a_1)) (fun n => n = Next.value (Value.slice (slA a m' l' inf.size) (h' - l') (m' - l'))) H) H :=
          hq_size hinf rfl
        exact bnd_in hm' (bnd_in hh' (bnd_in hl' fin))
      next => exact h.elim
    next => exact h.elim
  next => exact pv_pures h

end Go.EV
