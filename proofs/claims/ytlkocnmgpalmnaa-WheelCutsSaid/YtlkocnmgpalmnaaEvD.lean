/- Loads, stores, calls as formulas; the operations of a region one behind the other. -/
import Derived.Test.YtlkocnmgpalmnaaEvC
namespace Go.EV
open Go

/-! ### Loads -/

def ldL (R : Addr → Value → Prop) : List Sh → Addr → Nat → (List Value → Prop) → Prop
  | [], _, _, K => K []
  | s :: r, a, i, K => exA s fun v => R (a.add i) v ∧ ldL R r a (i + 1) fun vs => K (v :: vs)

def loadF (P : Program) (t : TypeId) (av : Value) (R : Addr → Value → Prop) (K : Value → Prop) : Prop :=
  match av with
  | .pointer (some ad) =>
    match P.underlying t with
    | none => False
    | some _ =>
      match shOf P t with
      | .agg l =>
        match P.info? t with
        | some inf =>
          match Nat.beq l.length inf.size with
          | true => ldL R l ad 0 fun vs => K (.agg ⟨vs⟩)
          | false => False
        | none => False
      | s => exA s fun v => R ad v ∧ K v
  | _ => False

theorem ldL_out {R : Addr → Value → Prop} : ∀ {l : List Sh} {a : Addr} {i : Nat} {K : List Value → Prop}, ldL R l a i K → ∃ vs, K vs ∧ vs.length = l.length ∧ ∀ j v, vs[j]? = some v → R (a.add (i + j)) v
  | [], _, _, _, h => ⟨[], h, rfl, fun j v hv => by simp at hv⟩
  | _ :: _, a, i, K, h => by
    obtain ⟨v, hR, h⟩ := exA_out h
    obtain ⟨vs, hK, hl, hall⟩ := ldL_out h
    refine ⟨v :: vs, hK, by simp [hl], fun j u hu => ?_⟩
    cases j with
    | zero => simp at hu; subst hu; exact hR
    | succ j => have := hall j u (by simpa using hu); rwa [show i + 1 + j = i + (j + 1) by omega] at this

theorem hq_load {P : Program} {a : Addr} {v : Value} {H : Hp} {Q : Value → Prop} (h : cellH H a = some v) (hq' : Q v) : hq P (load a) Q H := ⟨v, h, hq'⟩

theorem hq_loadCells {P : Program} {a : Addr} {H : Hp} : ∀ (vs : List Value) (i : Nat) (acc : Array Value) (Q : Array Value → Prop),
    (∀ j v, vs[j]? = some v → cellH H (a.add (i + j)) = some v) → Q (acc ++ vs.toArray) → hq P (loadCellsFrom a i vs.length acc) Q H
  | [], _, acc, Q, _, hQ => by
    have : acc ++ ([] : List Value).toArray = acc := by simp
    rw [this] at hQ; exact hQ
  | v :: vs, i, acc, Q, hc, hQ => by
    show hq P (load (a.add i) >>= fun v => loadCellsFrom a (i + 1) vs.length (acc.push v)) Q H
    rw [hq_bind]
    refine hq_load (v := v) (by have := hc 0 v rfl; simpa using this) ?_
    refine hq_loadCells vs (i + 1) (acc.push v) Q (fun j u hu => ?_) ?_
    · have := hc (j + 1) u (by simpa using hu)
      rwa [show i + (j + 1) = i + 1 + j by omega] at this
    · have e : acc.push v ++ vs.toArray = acc ++ (v :: vs).toArray := by
        apply Array.ext'
        simp
      rw [e]; exact hQ

theorem loadF_out {P : Program} {t : TypeId} {av : Value} {R : Addr → Value → Prop} {K : Value → Prop} {D : Hp → Prop} (hR : ∀ a v, R a v → ∀ H, D H → cellH H a = some v)
    (h : loadF P t av R K) : ∃ v, K v ∧ ∀ H, D H → hq P (Instr.loadAt t av) (fun u => u = v) H := by
  unfold loadF at h
  split at h
  next ad =>
    have hat : Instr.loadAt t (.pointer (some ad)) = loadVar t ad := rfl
    rw [hat]
    have one : ∀ (s : Sh) (d : TypeDesc), P.underlying t = some d → aggD d = false → (exA s fun v => R ad v ∧ K v) →
        ∃ v, K v ∧ ∀ H, D H → hq P (loadVar t ad) (fun u => u = v) H := fun s d hd hf hs => by
      obtain ⟨v, hr, hk⟩ := exA_out hs
      refine ⟨v, hk, fun H hD => ?_⟩
      unfold loadVar
      exact hq_isAgg hd (by rw [hf]; exact hq_load (hR _ _ hr H hD) rfl)
    split at h
    · exact h.elim
    next d hu =>
      unfold shOf at h
      rw [hu] at h
      cases d
      case struct fs =>
        simp only at h
        split at h
        next inf hinf =>
          split at h
          next hb =>
            obtain ⟨vs, hK, hl, hall⟩ := ldL_out h
            refine ⟨_, hK, fun H hD => ?_⟩
            unfold loadVar
            refine hq_isAgg hu ?_
            simp only [aggD, if_true]
            refine hq_size hinf ?_
            rw [hq_bind]
            unfold loadCells
            have hlen : inf.size = vs.length := by rw [hl]; exact (Nat.eq_of_beq_eq_true hb).symm
            rw [hlen]
            exact hq_loadCells vs 0 #[] _ (fun j v hv => hR _ _ (hall j v hv) H hD) (by simp; rfl)
          next => exact h.elim
        next => exact h.elim
      case array n e =>
        simp only at h
        split at h
        next inf hinf =>
          split at h
          next hb =>
            obtain ⟨vs, hK, hl, hall⟩ := ldL_out h
            refine ⟨_, hK, fun H hD => ?_⟩
            unfold loadVar
            refine hq_isAgg hu ?_
            simp only [aggD, if_true]
            refine hq_size hinf ?_
            rw [hq_bind]
            unfold loadCells
            have hlen : inf.size = vs.length := by rw [hl]; exact (Nat.eq_of_beq_eq_true hb).symm
            rw [hlen]
            exact hq_loadCells vs 0 #[] _ (fun j v hv => hR _ _ (hall j v hv) H hD) (by simp; rfl)
          next => exact h.elim
        next => exact h.elim
      all_goals exact one _ _ hu rfl h
  next => exact h.elim

end Go.EV
