/- The operations of a region over what is known of the temporaries: the model does just so. -/
import Derived.Test.YtlkocnmgpalmnaaEvF
namespace Go.EV
open Go

variable {P : Program} {n : Nat} {ent : Nat → Bool} {ops : Array Oper} {amb : List Nat} {C : Hp → Prop}

/-- What one environment has more than another. -/
def Ext (e0 e : Env) : Prop := ∀ t v, look e0 t = some v → look e t = some v

theorem Ext.refl (e : Env) : Ext e e := fun _ _ h => h

theorem Ext.put {e0 e : Env} {o : Oper} {v : Value} (h : Ext e0 e) (hf : freshD e0 o = true) : Ext e0 (putE e o.dst v) := by
  unfold freshD at hf
  cases hd : o.dst with
  | none => exact h
  | some d =>
    rw [hd] at hf
    intro t u ht
    simp only [putE, look]
    split
    · rename_i hb
      have : d = t := Nat.eq_of_beq_eq_true hb
      subst this
      simp only [ht] at hf; cases hf
    · exact h t u ht

theorem Agree.down {e0 e : Env} {a : Act} (h : Agree n e a) (hx : Ext e0 e) : Agree n e0 a :=
  ⟨h.size, h.defers, fun t v ht => h.get t v (hx t v ht)⟩

def KnOk (ops : Array Oper) (kn : List (Nat × Bool)) (a : Act) : Prop := ∀ x ∈ kn, ∃ t, dstOf ops x.1 = some t ∧ a.tmps[t]? = some (.bool x.2)

theorem notDst_ne {d : Option Tmp} {t : Tmp} (h : notDst d (some t) = true) : d ≠ some t := by
  intro hd; subst hd
  simp [notDst] at h

theorem put_other {a : Act} {d : Option Tmp} {t : Tmp} {v : Value} (h : d ≠ some t) : (a.put d v).tmps[t]? = a.tmps[t]? := by
  cases d with
  | none => rfl
  | some s => exact Array.getElem?_setIfInBounds_ne (fun e => h (by rw [e]))

theorem KnOk.put {kn : List (Nat × Bool)} {a : Act} {o : Oper} {v : Value} (h : KnOk ops kn a) (hk : keeps ops kn o = true) : KnOk ops kn (a.put o.dst v) := by
  intro x hx
  obtain ⟨t, ht, hv⟩ := h x hx
  have := List.all_eq_true.1 hk x hx
  rw [ht] at this
  exact ⟨t, ht, by rw [put_other (notDst_ne this)]; exact hv⟩

theorem yielded_eq {a : Act} {j : Nat} {t : Tmp} {b : Bool} (ht : dstOf ops j = some t) (hv : a.tmps[t]? = some (.bool b)) : yielded ops a.tmps j = some b := by
  unfold yielded dstOf at *
  rw [ht]
  simp [hv]

theorem wanted_of_runs {kn : List (Nat × Bool)} {a : Act} {o : Oper} (h : KnOk ops kn a) (hr : runs kn o.guard = true) : Region.wanted o (yielded ops a.tmps) = true := by
  unfold Region.wanted
  cases hg : o.guard with
  | none => rfl
  | some g =>
    rw [hg] at hr
    obtain ⟨x, hx, hb⟩ := List.any_eq_true.1 hr
    simp only [Bool.and_eq_true] at hb
    obtain ⟨t, ht, hv⟩ := h x hx
    have h1 : x.1 = g.1 := Nat.eq_of_beq_eq_true hb.1
    have h2 : x.2 = g.2 := by simpa using hb.2
    obtain ⟨j, w⟩ := g
    simp only at h1 h2 ⊢
    rw [← h1, yielded_eq ht hv, h2]
    simp

theorem splitPick_spec {c : Nat} : ∀ {l grp rest : List Oper} {p : Oper}, splitPick c l = some (grp, p, rest) → l = grp ++ p :: rest ∧ isPick c p.op = true
  | [], _, _, _, h => by simp [splitPick] at h
  | o :: l, grp, rest, p, h => by
    simp only [splitPick] at h
    split at h
    · rename_i hp
      simp at h
      obtain ⟨rfl, rfl, rfl⟩ := h
      exact ⟨rfl, hp⟩
    · split at h
      · rename_i g p' r hs
        simp at h
        obtain ⟨rfl, rfl, rfl⟩ := h
        obtain ⟨rfl, hp⟩ := splitPick_spec hs
        exact ⟨rfl, hp⟩
      · cases h

theorem wT_append {kd : Nat → Nat} {need : Nat → Bool} {KQ : Act → Hp → Prop} : ∀ (l1 l2 : List Oper) (k : Nat), wT P ops C kd need KQ (l1 ++ l2) k = wT P ops C kd need (wT P ops C kd need KQ l2 (k + l1.length)) l1 k
  | [], _, _ => rfl
  | o :: l1, l2, k => by
    simp only [List.cons_append, wT, wT_append l1 l2 (k + 1), List.length_cons]
    rw [show k + 1 + l1.length = k + (l1.length + 1) by omega]

/-- A group that is passed over. -/
theorem skip_sound {kd : Nat → Nat} {need : Nat → Bool} {env : Env} {kn : List (Nat × Bool)} {j c k : Nat} {w b : Bool} {H : Hp} (hc : dstOf ops j = some c) (hbw : b ≠ w) :
    ∀ (l : List Oper) (i : Nat) (a : Act) (KQ : Act → Hp → Prop), (∀ m, m < l.length → l[m]? = ops[i + m]?) → k ≤ i → skipOk j w k i l = true → a.tmps[c]? = some (.bool b) → (∀ m, k ≤ m → m < i → yielded ops a.tmps m = none) →
      Agree n env a → KnOk ops kn a → (l.all fun o => freshD env o && notDst o.dst (some c) && keeps ops kn o) = true →
      (∀ a', Agree n env a' → KnOk ops kn a' → a'.tmps[c]? = some (.bool b) → KQ a' H) → wT P ops C kd need KQ l i a H
  | [], i, a, KQ, _, _, _, hb, _, hag, hkn, _, hK => hK a hag hkn hb
  | o :: l, i, a, KQ, hl, hki, hs, hb, hy, hag, hkn, hall, hK => by
    simp only [skipOk, Bool.and_eq_true] at hs
    simp only [List.all_cons, Bool.and_eq_true] at hall
    obtain ⟨⟨⟨hf, hnc⟩, hkp⟩, hall⟩ := hall
    have h0 : ops[i]? = some o := by simpa using (hl 0 (by simp)).symm
    have hw : Region.wanted o (yielded ops a.tmps) = false := by
      unfold Region.wanted
      cases hg : o.guard with
      | none => rw [hg] at hs; simp at hs
      | some g =>
        rw [hg] at hs
        obtain ⟨j', w'⟩ := g
        have h1 := hs.1
        simp only [Bool.or_eq_true, Bool.and_eq_true] at h1
        rcases h1 with ⟨h1, h2⟩ | ⟨h1, h2⟩
        · have : j' = j := Nat.eq_of_beq_eq_true h1
          subst this
          have : w' = w := by simpa using h2
          subst this
          simp only
          rw [yielded_eq hc hb]
          simp [hbw]
        · simp only
          rw [hy j' (by simpa using h1) (by simpa using h2)]
          rfl
    refine ⟨o, h0, .inr ⟨undef, .inr ⟨hw, rfl⟩, ?_⟩⟩
    have hag' : Agree n env (a.put o.dst undef) := by
      refine ⟨?_, ?_, fun t v ht => ?_⟩
      · cases o.dst <;> simp [Act.put, hag.size]
      · cases o.dst <;> exact hag.defers
      · have hne : o.dst ≠ some t := fun he => by
          unfold freshD at hf
          rw [he] at hf
          simp only [ht] at hf
          cases hf
        have := hag.get t v ht
        simpa [put_other hne] using this
    refine skip_sound hc hbw l (i + 1) _ KQ (fun m hm => ?_) (by omega) hs.2 (by rw [put_other (notDst_ne hnc)]; exact hb) (fun m hm1 hm2 => ?_) hag' (hkn.put hkp) hall hK
    · have := hl (m + 1) (by simp; omega)
      rw [show i + (m + 1) = i + 1 + m by omega] at this
      simpa using this
    · -- nothing yields there
      unfold yielded
      cases hd : (ops[m]?).bind (·.dst) with
      | none => rfl
      | some d =>
        simp only [Option.bind_some]
        by_cases he : o.dst = some d
        · rw [he]
          by_cases hlt : d < a.tmps.size
          · simp [Act.put, hlt, undef]
          · have : (a.tmps.setIfInBounds d undef)[d]? = none := Array.getElem?_eq_none (by simpa using hlt)
            simp [Act.put, this]
        · rw [put_other he]
          rcases Nat.lt_or_ge m i with h | h
          · have := hy m hm1 h
            unfold yielded at this
            rw [hd] at this
            exact this
          · have : m = i := by omega
            subst this
            rw [h0] at hd
            exact absurd hd he

theorem pickArg_spec {w : Bool} {op : Op} {y : Operand} (h : pickArg w op = some y) :
    (w = true ∧ ∃ c, op = .pick c y (.const (.bool false))) ∨ (w = false ∧ ∃ c, op = .pick c (.const (.bool true)) y) := by
  unfold pickArg at h
  split at h
  · have := Option.some.inj h; subst this; exact .inl ⟨rfl, _, rfl⟩
  · have := Option.some.inj h; subst this; exact .inr ⟨rfl, _, rfl⟩
  · cases h

theorem evOps_sound (hent : ∀ f, ent f = true → Enters P f) : ∀ (f : Nat) (kn : List (Nat × Bool)) (k : Nat) (l : List Oper) (K : Env → Hp → Prop) (env : Env) (H : Hp), evOps P n ent ops amb C f kn k l K env H →
    ∀ (e0 : Env) (a : Act) (KQ : Act → Hp → Prop), (∀ m, m < l.length → l[m]? = ops[k + m]?) → Agree n env a → KnOk ops kn a → Ext e0 env → (l.all (freshD e0)) = true →
      (∀ env' a' H', Agree n env' a' → KnOk ops kn a' → Ext e0 env' → K env' H' → KQ a' H') → wT P ops C (kdOf P ops amb) (needB ops amb) KQ l k a H := by
  intro f
  induction f with
  | zero =>
    intro kn k l K env H h e0 a KQ hl hag hkn hx hfr hK
    cases l with
    | nil => exact hK env a H hag hkn hx h
    | cons o l => exact h.elim
  | succ f ih =>
    intro kn k l K env H h e0 a KQ hl hag hkn hx hfr hK
    cases l with
    | nil => exact hK env a H hag hkn hx h
    | cons o l =>
      have h0 : ops[k]? = some o := by simpa using (hl 0 (by simp)).symm
      have hl' : ∀ m, m < l.length → l[m]? = ops[k + 1 + m]? := fun m hm => by
        have := hl (m + 1) (by simp; omega)
        rw [show k + (m + 1) = k + 1 + m by omega] at this
        simpa using this
      simp only [List.all_cons, Bool.and_eq_true] at hfr
      simp only [evOps] at h
      split at h
      next hr =>
        split at h
        next hkp =>
          have hw := wanted_of_runs hkn hr
          refine opF_sound hent h0 hag hw (fun v H' hd hv => ?_) h
          exact ih kn (k + 1) l K _ H' hv e0 _ KQ hl' (hag.put hd) (hkn.put hkp) (hx.put hfr.1) hfr.2 hK
        next => exact h.elim
      next hr =>
        split at h
        · exact h.elim
        next j w hg =>
          split at h
          next b c hgv hc =>
            split at h
            next grp p rest hsp =>
              split at h
              next y hpa hok =>
                obtain ⟨heq, hip⟩ := splitPick_spec hsp
                have hfr' : ((grp ++ p :: rest).all (freshD e0)) = true := by rw [← heq]; simp [hfr.1]; simpa using hfr.2
                have hlg : ∀ m, m < (grp ++ p :: rest).length → (grp ++ p :: rest)[m]? = ops[k + m]? := fun m hm => by rw [← heq] at hm ⊢; exact hl m hm
                simp only [List.all_append, List.all_cons, Bool.and_eq_true] at hfr'
                obtain ⟨hfg, hfp, hfrest⟩ := hfr'
                simp only [grpOk, Bool.and_eq_true] at hok
                obtain ⟨⟨⟨⟨hso, hrp⟩, hkpp⟩, hdp⟩, hgall⟩ := hok
                -- the guard's own value
                have hval : a.tmps[c]? = some (.bool b) := by
                  unfold gval at hgv
                  rw [hc] at hgv
                  simp only at hgv
                  split at hgv
                  next b' hlk =>
                    have hb' : b' = b := Option.some.inj hgv
                    subst hb'
                    have := hag.get c _ hlk
                    rcases Nat.lt_or_ge c a.tmps.size with hlt | hge
                    · simpa [hlt] using this
                    · simp [Array.getElem?_eq_none hge, undef] at this
                  next => cases hgv
                have hop : ops[k + grp.length]? = some p := by
                  have := hlg grp.length (by simp)
                  simpa using this.symm
                have hkdp : kdOf P ops amb (k + grp.length) = 0 := by
                  unfold kdOf
                  rw [hop]
                  unfold isPick at hip
                  split at hip
                  next t x y hpo => simp [kind0, hpo]
                  next => cases hip
                have hlr : ∀ m, m < rest.length → rest[m]? = ops[k + grp.length + 1 + m]? := fun m hm => by
                  have := hlg (grp.length + 1 + m) (by simp; omega)
                  rw [List.getElem?_append_right (by omega)] at this
                  rw [show grp.length + 1 + m - grp.length = m + 1 by omega] at this
                  rw [show k + (grp.length + 1 + m) = k + grp.length + 1 + m by omega] at this
                  simpa using this
                -- behind the group: the pick, and the rest
                have after : ∀ (a' : Act) (H' : Hp) (r : Bool), Agree n env a' → KnOk ops kn a' → (∀ H'', hq P (execOp a'.eval p) (fun nx => nx = .value (.bool r)) H'') →
                    evOps P n ent ops amb C f kn (k + grp.length + 1) rest K (putE env p.dst (.bool r)) H' → wT P ops C (kdOf P ops amb) (needB ops amb) KQ (p :: rest) (k + grp.length) a' H' := fun a' H' r hag' hkn' hex hev => by
                  refine ⟨p, hop, .inr ⟨.bool r, .inl ⟨wanted_of_runs hkn' hrp, by rw [hkdp]; decide, ?_⟩, ?_⟩⟩
                  · unfold Yld
                    rw [hkdp]
                    exact hex
                  · exact ih kn _ rest K _ H' hev e0 _ KQ hlr (hag'.put hdp) (hkn'.put hkpp) (hx.put hfp) hfrest hK
                have pick : ∀ (a' : Act) (b' r : Bool), a'.tmps[c]? = some (.bool b') → (b' = w → a'.eval y = .bool r) → (b' ≠ w → r = !w) →
                    ∀ H'', hq P (execOp a'.eval p) (fun nx => nx = .value (.bool r)) H'' := fun a' b' r hc' h1 h2 H'' => by
                  unfold isPick at hip
                  split at hip
                  next t x z hpo =>
                    have : t = c := Nat.eq_of_beq_eq_true hip
                    subst this
                    have hev : a'.eval (.tmp t) = .bool b' := by simp [Act.eval, hc']
                    have hexec : execOp a'.eval p = (do pure (.value (if ← asBool (a'.eval (.tmp t)) then a'.eval x else a'.eval z))) := by unfold execOp; simp only [hpo]
                    rw [hexec, hev]
                    show (Next.value (if b' = true then a'.eval x else a'.eval z)) = .value (.bool r)
                    rcases pickArg_spec hpa with ⟨rfl, c', hc2⟩ | ⟨rfl, c', hc2⟩
                    · rw [hpo] at hc2
                      injection hc2 with _ e1 e2
                      subst e1; subst e2
                      cases b' with
                      | true => simp only [if_true]; rw [h1 rfl]
                      | false => simp only [Bool.false_eq_true, if_false]; rw [h2 (by simp)]; rfl
                    · rw [hpo] at hc2
                      injection hc2 with _ e1 e2
                      subst e1; subst e2
                      cases b' with
                      | true => simp only [if_true]; rw [h2 (by simp)]; rfl
                      | false => simp only [Bool.false_eq_true, if_false]; rw [h1 rfl]
                  next => cases hip
                rw [heq, wT_append]
                unfold guardM at h
                split at h
                next hbw =>
                  subst hbw
                  have hkn2 : KnOk ops ((j, b) :: kn) a := fun z hz => by
                    rcases List.mem_cons.1 hz with rfl | hz
                    · exact ⟨c, hc, hval⟩
                    · exact hkn z hz
                  refine ih ((j, b) :: kn) k grp _ env H h env a _ (fun m hm => ?_) hag hkn2 (Ext.refl env) ?_ fun env' a' H' hag' hkn' hx' hb => ?_
                  · have := hlg m (by simp; omega)
                    rwa [List.getElem?_append_left hm] at this
                  · refine List.all_eq_true.2 fun z hz => ?_
                    have := List.all_eq_true.1 hgall z hz
                    simp only [Bool.and_eq_true] at this
                    exact this.1.1
                  · unfold boolK at hb
                    split at hb
                    next hhas =>
                      split at hb
                      next r hr' =>
                        have hknk : KnOk ops kn a' := fun z hz => hkn' z (List.mem_cons_of_mem _ hz)
                        obtain ⟨c', hc', hcv⟩ := hkn' (j, b) List.mem_cons_self
                        have : c = c' := Option.some.inj (hc.symm.trans hc')
                        subst this
                        exact after a' H' r (hag'.down hx') hknk (pick a' b r hcv (fun _ => by rw [hag'.eval hhas, hr']) (fun hne => absurd rfl hne)) hb
                      next => exact hb.elim
                    next => exact hb.elim
                next hbw =>
                  refine skip_sound (n := n) (env := env) (kn := kn) hc hbw grp k a _ (fun m hm => ?_) (Nat.le_refl _) hso hval (fun m h1 h2 => by omega) hag hkn hgall fun a' hag' hkn' hcv => ?_
                  · have := hlg m (by simp; omega)
                    rwa [List.getElem?_append_left hm] at this
                  · exact after a' H (!w) hag' hkn' (pick a' b (!w) hcv (fun he => absurd he hbw) (fun _ => rfl)) h
              next => exact h.elim
            next => exact h.elim
          next => exact h.elim

end Go.EV
