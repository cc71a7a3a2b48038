/- A region in which two operations that do something may change places: each order that they may come in is walked. -/
import Derived.Test.YtlkocnmgpalmnaaEvG
namespace Go.EV
open Go

inductive Tr where
  | done | stop
  | q (i : Nat) (t : Tr)
  | alt (i : Nat) (t or : Tr)

section
variable (P : Program) (ops : Array Oper) (C : Hp → Prop) (kd : Nat → Nat) (need : Nat → Bool) (KQ : Act → Hp → Prop)

def wTr : Tr → Act → Hp → Prop
  | .done => KQ
  | .stop => fun _ _ => True
  | .q i t => fun a H => ∃ o v, ops[i]? = some o ∧ QY P ops C kd i o a v H ∧ wTr t (a.put o.dst v) H
  | .alt i t r => fun a H => (∃ o, ops[i]? = some o ∧ EY P ops C kd need i o a (wTr t) H) ∧ wTr r a H
end

def heads : Tr → List Nat
  | .alt i _ r => i :: heads r
  | _ => []

def del (j : Nat) : Tr → Tr
  | .done => .done
  | .stop => .stop
  | .q i t => if i = j then t else .q i (del j t)
  | .alt i t r => .alt i (del j t) (del j r)

def pick (j : Nat) : Tr → Tr
  | .done => .done
  | .stop => .stop
  | .q i t => .q i (pick j t)
  | .alt i t r => if i = j then t else pick j r

/-- No one of these waits for the other. -/
def loose (_ops : Array Oper) (M : List Nat) (i : Nat) (rem : List Nat) : Prop := ∀ m ∈ rem, (M.getD i 0).testBit m = false

def VT (ops : Array Oper) (kd : Nat → Nat) (M : List Nat) : Tr → List Nat → List Nat → Prop
  | .done, rem, hs => rem = [] ∧ hs = []
  | .stop, rem, hs => hs ≠ [] ∧ ∀ e ∈ rem, kd e = 3 → e ∈ hs ∨ ∃ e' ∈ rem, kd e' = 3 ∧ (M.getD e 0).testBit e' = true
  | .q i t, rem, hs => hs = [] ∧ i ∈ rem ∧ kd i ≠ 3 ∧ loose ops M i rem ∧ VT ops kd M t (rem.erase i) []
  | .alt i t r, rem, hs => i ∈ rem ∧ kd i = 3 ∧ loose ops M i rem ∧ VT ops kd M t (rem.erase i) [] ∧ VT ops kd M r rem (i :: hs)

/-- What may change places does not touch one another. -/
structure TrOk (ops : Array Oper) (kd : Nat → Nat) (need : Nat → Bool) : Prop where
  sel : ∀ (j : Nat) (o : Oper) cs b, ops[j]? = some o → o.op ≠ .select cs b
  pair : ∀ (i j : Nat) (oi oj : Oper), i < j → ops[i]? = some oi → ops[j]? = some oj → ((masks ops.toList []).getD j 0).testBit i = true ∨ (kd i = 3 ∧ kd j = 3) ∨ (oi.apart ops oj = true ∧ kindsOk (kd i) (kd j) = true)
  edge : ∀ (j : Nat) (o : Oper), ops[j]? = some o → ∀ e ∈ o.after, Region.binds .any e = true → e.on < j
  low : ∀ (i j : Nat), i < ops.size → ((masks ops.toList []).getD i 0).testBit j = true → j < i
  need : ∀ i m : Nat, m < ops.size → kd m = 1 → need i = false → ((masks ops.toList []).getD i 0).testBit m = true

variable {P : Program} {ops : Array Oper} {C : Hp → Prop} {kd : Nat → Nat} {need : Nat → Bool} {KQ : Act → Hp → Prop}

theorem Act.put_comm' (a : Act) {x y : Option Tmp} (v u : Value) (h : ∀ d, x = some d → y ≠ some d) : (a.put x v).put y u = (a.put y u).put x v := Act.put_comm a v u h

/-- Two that may change places: what the one makes of the other's. -/
structure Free (ops : Array Oper) (oi oj : Oper) : Prop where
  ej : ∀ (a : Act) v, execOp (a.put oi.dst v).eval oj = execOp a.eval oj
  wj : ∀ (a : Act) v, Region.wanted oj (yielded ops (a.put oi.dst v).tmps) = Region.wanted oj (yielded ops a.tmps)
  put : ∀ (a : Act) v u, (a.put oi.dst v).put oj.dst u = (a.put oj.dst u).put oi.dst v

theorem Oper.apart_flip {oi oj : Oper} (h : oi.apart ops oj = true) : oj.apart ops oi = true := by
  obtain ⟨p1, p2, p3⟩ := Oper.apart_spec h
  unfold Oper.apart
  simp only [Bool.and_eq_true]
  refine ⟨?_, ?_⟩
  · cases hd : oj.dst with
    | none => rfl
    | some d =>
      simp only [Bool.and_eq_true, Bool.not_eq_true', bne_iff_ne, ne_eq]
      exact ⟨by simpa using p3 d hd, fun e => p2 d e hd⟩
  · cases hd : oi.dst with
    | none => rfl
    | some d => simpa using p1 d hd

theorem free_of (ok : TrOk ops kd need) {i j : Nat} {oi oj : Oper} (hi : ops[i]? = some oi) (hj : ops[j]? = some oj) (hne : i ≠ j) (h1 : ((masks ops.toList []).getD i 0).testBit j = false) (h2 : ((masks ops.toList []).getD j 0).testBit i = false)
    (h3 : kd i ≠ 3 ∨ kd j ≠ 3) : Free ops oi oj ∧ Free ops oj oi ∧ kindsOk (kd i) (kd j) = true ∧ kindsOk (kd j) (kd i) = true := by
  have base : oi.apart ops oj = true ∧ kindsOk (kd i) (kd j) = true := by
    rcases Nat.lt_or_ge i j with h | h
    · rcases ok.pair i j oi oj h hi hj with h' | ⟨h', h''⟩ | h'
      · rw [h2] at h'; cases h'
      · rcases h3 with h3 | h3
        · exact absurd h' h3
        · exact absurd h'' h3
      · exact h'
    · rcases ok.pair j i oj oi (by omega) hj hi with h' | ⟨h', h''⟩ | ⟨h', h''⟩
      · rw [h1] at h'; cases h'
      · rcases h3 with h3 | h3
        · exact absurd h'' h3
        · exact absurd h' h3
      · refine ⟨Oper.apart_flip h', ?_⟩
        unfold kindsOk at h'' ⊢
        revert h''
        simp only [Bool.not_eq_true', Bool.or_eq_false_iff, Bool.and_eq_false_iff]
        rintro ⟨⟨a, b⟩, c⟩
        exact ⟨⟨a.symm, c.symm⟩, b.symm⟩
  obtain ⟨ha, hk⟩ := base
  have ha' := Oper.apart_flip ha
  have mk : ∀ {x y : Oper}, (∀ cs b, y.op ≠ .select cs b) → x.apart ops y = true → Free ops x y := fun hs h => by
    obtain ⟨p1, p2, p3⟩ := Oper.apart_spec h
    exact ⟨fun a v => execOp_put _ hs a _ v p1, fun a v => wanted_put _ a _ v p1, fun a v u => Act.put_comm a v u p2⟩
  refine ⟨mk (fun cs b => ok.sel j oj cs b hj) ha, mk (fun cs b => ok.sel i oi cs b hi) ha', hk, ?_⟩
  unfold kindsOk at hk ⊢
  revert hk
  simp only [Bool.not_eq_true', Bool.or_eq_false_iff, Bool.and_eq_false_iff]
  rintro ⟨⟨a, b⟩, c⟩
  exact ⟨⟨a.symm, c.symm⟩, b.symm⟩

theorem erase_mem {l : List Nat} {i m : Nat} (h : m ∈ l.erase i) : m ∈ l := List.mem_of_mem_erase h

theorem del_valid {M : List Nat} {j : Nat} (hj3 : kd j ≠ 3) : ∀ {t : Tr} {rem hs : List Nat}, VT ops kd M t rem hs → j ∈ rem → VT ops kd M (del j t) (rem.erase j) hs
  | .done, rem, hs, h, hj => by rw [h.1] at hj; cases hj
  | .stop, rem, hs, h, hj => by
    refine ⟨h.1, fun e he h3 => ?_⟩
    rcases h.2 e (erase_mem he) h3 with h' | ⟨e', he', h3', hb⟩
    · exact .inl h'
    · exact .inr ⟨e', (List.mem_erase_of_ne (fun e => by subst e; exact hj3 h3')).2 he', h3', hb⟩
  | .q i t, rem, hs, h, hj => by
    obtain ⟨h0, h1, h2, h3, h4⟩ := h
    unfold del
    split
    next hij => subst hij; subst h0; exact h4
    next hij =>
      refine ⟨h0, (List.mem_erase_of_ne hij).2 h1, h2, fun m hm => h3 m (erase_mem hm), ?_⟩
      rw [List.erase_comm]
      exact del_valid hj3 h4 ((List.mem_erase_of_ne (Ne.symm hij)).2 hj)
  | .alt i t r, rem, hs, h, hj => by
    obtain ⟨h1, h2, h3, h4, h5⟩ := h
    have hij : i ≠ j := fun e => by subst e; exact hj3 h2
    refine ⟨(List.mem_erase_of_ne hij).2 h1, h2, fun m hm => h3 m (erase_mem hm), ?_, del_valid hj3 h5 hj⟩
    rw [List.erase_comm]
    exact del_valid hj3 h4 ((List.mem_erase_of_ne (Ne.symm hij)).2 hj)

theorem no_self {ok : TrOk ops kd need} {i : Nat} (h : i < ops.size) : ((masks ops.toList []).getD i 0).testBit i = false := by
  cases hb : ((masks ops.toList []).getD i 0).testBit i with
  | false => rfl
  | true => have := ok.low i i h hb; omega

/-- An operation that only yields, and waits for nothing that is left, may be taken first. -/
theorem pullQ (ok : TrOk ops kd need) (hkd : ∀ i, kd i ≤ 3) {j : Nat} {oj : Oper} (hoj : ops[j]? = some oj) (hj3 : kd j ≠ 3) : ∀ {t : Tr} {rem hs : List Nat} {a : Act} {H : Hp}, (∀ m ∈ rem, m < ops.size) → rem.Nodup → VT ops kd (masks ops.toList []) t rem hs → j ∈ rem → loose ops (masks ops.toList []) j rem →
    (∀ m ∈ rem, kd m = 1 → C H) → wTr P ops C kd need KQ t a H → (t = .stop ∧ hs ≠ []) ∨ ∃ v, QY P ops C kd j oj a v H ∧ wTr P ops C kd need KQ (del j t) (a.put oj.dst v) H
  | .done, rem, hs, a, H, hlt, hn, hv, hj, hl, hC, h => by rw [hv.1] at hj; cases hj
  | .stop, rem, hs, a, H, hlt, hn, hv, hj, hl, hC, h => .inl ⟨rfl, hv.1⟩
  | .q i t, rem, hs, a, H, hlt, hn, hv, hj, hl, hC, h => by
    obtain ⟨h0, h1, h2, h3, h4⟩ := hv
    obtain ⟨o, v, ho, hq, ht⟩ := h
    refine .inr ?_
    unfold del
    split
    next hij =>
      subst hij
      obtain rfl : o = oj := Option.some.inj (ho.symm.trans hoj)
      exact ⟨v, hq, ht⟩
    next hij =>
      have hj' : j ∈ rem.erase i := (List.mem_erase_of_ne (Ne.symm hij)).2 hj
      rcases pullQ ok hkd hoj hj3 (fun m hm => hlt m (erase_mem hm)) (hn.erase i) h4 hj' (fun m hm => hl m (erase_mem hm)) (fun m hm => hC m (erase_mem hm)) ht with ⟨_, h⟩ | ⟨u, hu, hw⟩
      · exact absurd rfl h
      · obtain ⟨f1, f2, _, _⟩ := free_of ok ho hoj hij (h3 j hj) (hl i h1) (.inl h2)
        refine ⟨u, hu.of_same (f1.ej a v).symm (f1.wj a v).symm, o, v, ho, hq.of_same (f2.ej a u) (f2.wj a u), ?_⟩
        rw [← f1.put]; exact hw
  | .alt i t r, rem, hs, a, H, hlt, hn, hv, hj, hl, hC, h => by
    obtain ⟨h1, h2, h3, h4, h5⟩ := hv
    obtain ⟨⟨o, ho, hw, h33, he⟩, hr⟩ := h
    have hij : i ≠ j := fun e => by subst e; exact hj3 h2
    obtain ⟨f1, f2, hk1, hk2⟩ := free_of ok ho hoj hij (h3 j hj) (hl i h1) (.inr hj3)
    have jn2 : kd j ≠ 2 := fun h => by simp [kindsOk, h, h2] at hk1
    have j01 : kd j ≠ 3 → kd j = 0 ∨ kd j = 1 := fun _ => by have := hkd j; omega
    have hj' : j ∈ rem.erase i := (List.mem_erase_of_ne (Ne.symm hij)).2 hj
    refine .inr ?_
    have each : ∀ v H', ((need i = true → C H') ∧ wTr P ops C kd need KQ t (a.put o.dst v) H') → ∃ u, QY P ops C kd j oj a u H ∧ wTr P ops C kd need KQ (del j t) ((a.put oj.dst u).put o.dst v) H' := fun v H' hm => by
      have hC' : ∀ m ∈ rem.erase i, kd m = 1 → C H' := fun m hm1 hm2 => by
        cases hnd : need i with
        | true => exact hm.1 hnd
        | false =>
          have := ok.need i m (hlt m (erase_mem hm1)) hm2 hnd
          rw [h3 m (erase_mem hm1)] at this; cases this
      rcases pullQ ok hkd hoj hj3 (fun m hm => hlt m (erase_mem hm)) (hn.erase i) h4 hj' (fun m hm => hl m (erase_mem hm)) hC' hm.2 with ⟨_, h⟩ | ⟨u, hu, hw⟩
      · exact absurd rfl h
      · exact ⟨u, (hu.of_same (f1.ej a v).symm (f1.wj a v).symm).later jn2 j01 (fun hj1 => hC j hj hj1), by rw [← f1.put]; exact hw⟩
    obtain ⟨v0, H0, hm0⟩ := eV_some he
    obtain ⟨u0, hu0, _⟩ := each v0 H0 hm0
    refine ⟨u0, hu0, ⟨o, ho, by rw [f2.wj]; exact hw, h33, ?_⟩, ?_⟩
    · unfold eV
      rw [f2.ej]
      refine eV_mono (fun v H' hm => ⟨hm.1, ?_⟩) he
      obtain ⟨u, hu, hw'⟩ := each v H' hm
      rw [hu0.unique hu]; exact hw'
    · rcases pullQ ok hkd hoj hj3 hlt hn h5 hj hl hC hr with ⟨rfl, _⟩ | ⟨u, hu, hw'⟩
      · trivial
      · rw [hu0.unique hu]; exact hw'

theorem pick_valid {M : List Nat} {j : Nat} (hj3 : kd j = 3) : ∀ {t : Tr} {rem hs : List Nat}, rem.Nodup → VT ops kd M t rem hs → j ∈ rem → j ∉ hs → loose ops M j rem → VT ops kd M (pick j t) (rem.erase j) []
  | .done, rem, hs, hn, h, hj, _, _ => by rw [h.1] at hj; cases hj
  | .stop, rem, hs, hn, h, hj, hjh, hl => by
    rcases h.2 j hj hj3 with h' | ⟨e', he', _, hb⟩
    · exact absurd h' hjh
    · rw [hl e' he'] at hb; cases hb
  | .q i t, rem, hs, hn, h, hj, hjh, hl => by
    obtain ⟨h0, h1, h2, h3, h4⟩ := h
    have hij : i ≠ j := fun e => by subst e; exact h2 hj3
    refine ⟨rfl, (List.mem_erase_of_ne hij).2 h1, h2, fun m hm => h3 m (erase_mem hm), ?_⟩
    rw [List.erase_comm]
    exact pick_valid hj3 (hn.erase i) h4 ((List.mem_erase_of_ne (Ne.symm hij)).2 hj) (by simp) fun m hm => hl m (erase_mem hm)
  | .alt i t r, rem, hs, hn, h, hj, hjh, hl => by
    obtain ⟨h1, h2, h3, h4, h5⟩ := h
    unfold pick
    split
    next hij => subst hij; exact h4
    next hij => exact pick_valid hj3 hn h5 hj (by simp [hjh, Ne.symm hij]) hl

/-- What does something, and waits for nothing that is left, may come up first. -/
theorem pullE (ok : TrOk ops kd need) (hkd : ∀ i, kd i ≤ 3) {j : Nat} {oj : Oper} (hoj : ops[j]? = some oj) (hj3 : kd j = 3) : ∀ {t : Tr} {rem hs : List Nat} {a : Act} {H : Hp}, (∀ m ∈ rem, m < ops.size) → rem.Nodup → VT ops kd (masks ops.toList []) t rem hs → j ∈ rem → j ∉ hs → loose ops (masks ops.toList []) j rem →
    (∀ m ∈ rem, kd m = 1 → C H) → wTr P ops C kd need KQ t a H → EY P ops C kd need j oj a (wTr P ops C kd need KQ (pick j t)) H
  | .done, rem, hs, a, H, hlt, hn, hv, hj, hjh, hl, hC, h => by rw [hv.1] at hj; cases hj
  | .stop, rem, hs, a, H, hlt, hn, hv, hj, hjh, hl, hC, h => by
    rcases hv.2 j hj hj3 with h' | ⟨e', he', _, hb⟩
    · exact absurd h' hjh
    · rw [hl e' he'] at hb; cases hb
  | .q i t, rem, hs, a, H, hlt, hn, hv, hj, hjh, hl, hC, h => by
    obtain ⟨h0, h1, h2, h3, h4⟩ := hv
    obtain ⟨o, v, ho, hq, ht⟩ := h
    have hij : i ≠ j := fun e => by subst e; exact h2 hj3
    obtain ⟨f1, f2, hk1, hk2⟩ := free_of ok ho hoj hij (h3 j hj) (hl i h1) (.inl h2)
    have in2 : kd i ≠ 2 := fun h => by simp [kindsOk, h, hj3] at hk1
    have hj' : j ∈ rem.erase i := (List.mem_erase_of_ne (Ne.symm hij)).2 hj
    obtain ⟨g1, g2, g3⟩ := pullE ok hkd hoj hj3 (fun m hm => hlt m (erase_mem hm)) (hn.erase i) h4 hj' (by simp) (fun m hm => hl m (erase_mem hm)) (fun m hm => hC m (erase_mem hm)) ht
    refine ⟨by rw [← f1.wj a v]; exact g1, g2, ?_⟩
    unfold eV at g3 ⊢
    rw [f1.ej] at g3
    refine eV_mono (fun u H' hm => ⟨hm.1, ?_⟩) g3
    refine ⟨o, v, ho, (hq.of_same (f2.ej a u) (f2.wj a u)).later in2 (fun _ => by have := hkd i; omega) (fun hi1 => ?_), ?_⟩
    · cases hnd : need j with
      | true => exact hm.1 hnd
      | false =>
        have := ok.need j i (hlt i h1) hi1 hnd
        rw [hl i h1] at this; cases this
    · rw [← f1.put]; exact hm.2
  | .alt i t r, rem, hs, a, H, hlt, hn, hv, hj, hjh, hl, hC, h => by
    obtain ⟨h1, h2, h3, h4, h5⟩ := hv
    obtain ⟨⟨o, ho, he⟩, hr⟩ := h
    unfold pick
    split
    next hij =>
      subst hij
      obtain rfl : o = oj := Option.some.inj (ho.symm.trans hoj)
      exact he
    next hij => exact pullE ok hkd hoj hj3 hlt hn h5 hj (by simp [hjh, Ne.symm hij]) hl hC hr

theorem wM_of_tree (ok : TrOk ops kd need) (hkd : ∀ i, kd i ≤ 3) : ∀ (f : Nat) (rem : List Nat) (t : Tr) (listed : Array Bool) (a : Act) (H : Hp), rem.length = f → rem.Nodup → (∀ m ∈ rem, m < ops.size) → (∀ m, m < ops.size → (m ∈ rem ↔ listed.getD m true = false)) → Down ops listed →
    VT ops kd (masks ops.toList []) t rem [] → (∀ m ∈ rem, kd m = 1 → C H) → wTr P ops C kd need KQ t a H → wM P ops C kd need KQ f listed a H := by
  intro f
  induction f with
  | zero =>
    intro rem t listed a H hlen hn hlt hun hd hv hC h
    have : rem = [] := List.length_eq_zero_iff.1 hlen
    subst this
    have hnr : Region.ready .any ops listed = [] := by
      rw [List.eq_nil_iff_forall_not_mem]
      intro j hj
      obtain ⟨hjun, oj, hoj, _⟩ := mem_ready.1 hj
      have := (hun j (Array.getElem?_eq_some_iff.1 hoj).1).2 hjun
      cases this
    refine ⟨hnr, ?_⟩
    cases t with
    | done => exact h
    | stop => exact absurd rfl hv.1
    | q i t => cases hv.2.1
    | alt i t r => cases hv.1
  | succ f ih =>
    intro rem t listed a H hlen hn hlt hun hd hv hC h
    have step : ∀ j ∈ Region.ready .any ops listed, stepM P ops C kd need j (wM P ops C kd need KQ f (listed.setIfInBounds j true)) a H := by
      intro j hj
      obtain ⟨hjun, oj, hoj, hall⟩ := mem_ready.1 hj
      have hjlt := (Array.getElem?_eq_some_iff.1 hoj).1
      have hjr : j ∈ rem := (hun j hjlt).2 hjun
      have hl : loose ops (masks ops.toList []) j rem := fun m hm => by
        cases hb : ((masks ops.toList []).getD j 0).testBit m with
        | false => rfl
        | true =>
          have h1 := dep_listed hd j j (Nat.le_refl _) oj m hoj hall hb
          have h2 := (hun m (hlt m hm)).1 hm
          rw [unlisted_false h2] at h1; cases h1
      have next : ∀ t' a' H', VT ops kd (masks ops.toList []) t' (rem.erase j) [] → (∀ m ∈ rem.erase j, kd m = 1 → C H') → wTr P ops C kd need KQ t' a' H' → wM P ops C kd need KQ f (listed.setIfInBounds j true) a' H' := fun t' a' H' hv' hC' h' =>
        ih (rem.erase j) t' _ a' H' (by rw [List.length_erase_of_mem hjr, hlen]; rfl) (hn.erase j) (fun m hm => hlt m (erase_mem hm)) (fun m hm => by
          by_cases hjm : j = m
          · subst hjm
            constructor
            · intro h1; exact absurd h1 (List.Nodup.not_mem_erase hn)
            · intro h1; rw [hd.1.symm] at hm; simp [hm] at h1
          · rw [getD_set_ne true hjm, List.mem_erase_of_ne (Ne.symm hjm)]; exact hun m hm) (ready_down hd hj) hv' hC' h'
      refine ⟨oj, hoj, ?_⟩
      by_cases hj3 : kd j = 3
      · obtain ⟨g1, g2, g3⟩ := pullE ok hkd hoj hj3 hlt hn hv hjr (by simp) hl hC h
        refine .inl ⟨g1, g2, eV_mono (fun v H' hm => ⟨hm.1, next _ _ _ (pick_valid hj3 hn hv hjr (by simp) hl) (fun m hm1 hm2 => ?_) hm.2⟩) g3⟩
        cases hnd : need j with
        | true => exact hm.1 hnd
        | false =>
          have := ok.need j m (hlt m (erase_mem hm1)) hm2 hnd
          rw [hl m (erase_mem hm1)] at this; cases this
      · rcases pullQ ok hkd hoj hj3 hlt hn hv hjr hl hC h with ⟨_, h'⟩ | ⟨v, hq, hw⟩
        · exact absurd rfl h'
        · exact .inr ⟨v, hq, next _ _ _ (del_valid hj3 hv hjr) (fun m hm1 hm2 => hC m (erase_mem hm1) hm2) hw⟩
    refine ⟨fun h0 => ?_, step⟩
    -- something is ready: the least that is left
    exfalso
    have hne : rem ≠ [] := fun e => by subst e; simp at hlen
    obtain ⟨k, hk, hmin⟩ : ∃ k ∈ rem, ∀ m ∈ rem, k ≤ m := by
      have : ∀ (l : List Nat), l ≠ [] → ∃ k ∈ l, ∀ m ∈ l, k ≤ m := by
        intro l
        induction l with
        | nil => intro h; exact absurd rfl h
        | cons x l ihl =>
          intro _
          by_cases hl : l = []
          · subst hl; exact ⟨x, List.mem_cons_self, fun m hm => by simp at hm; omega⟩
          · obtain ⟨k, hk, hm⟩ := ihl hl
            by_cases hxk : x ≤ k
            · exact ⟨x, List.mem_cons_self, fun m h => by rcases List.mem_cons.1 h with rfl | h; exact Nat.le_refl _; exact Nat.le_trans hxk (hm m h)⟩
            · exact ⟨k, List.mem_cons_of_mem _ hk, fun m h => by rcases List.mem_cons.1 h with rfl | h; omega; exact hm m h⟩
      exact this rem hne
    have hklt := hlt k hk
    have : k ∈ Region.ready .any ops listed := mem_ready.2 ⟨(hun k hklt).1 hk, ops[k], Array.getElem?_eq_getElem hklt, fun e he hb => by
      have hek := ok.edge k _ (Array.getElem?_eq_getElem hklt) e he hb
      have hlt' : e.on < ops.size := by omega
      have hnr : e.on ∉ rem := fun h' => by have := hmin e.on h'; omega
      have : listed.getD e.on true ≠ false := fun h' => hnr ((hun e.on hlt').2 h')
      have hsz : e.on < listed.size := by rw [hd.1]; exact hlt'
      simp [hsz] at this ⊢
      exact this⟩
    rw [h0] at this; cases this

/-! ### By computation -/

def vtB (kd : Nat → Nat) (M : List Nat) : Tr → List Nat → List Nat → Bool
  | .done, rem, hs => rem.isEmpty && hs.isEmpty
  | .stop, rem, hs => !hs.isEmpty && rem.all fun e => !(kd e == 3) || hs.contains e || rem.any fun e' => kd e' == 3 && (M.getD e 0).testBit e'
  | .q i t, rem, hs => hs.isEmpty && rem.contains i && !(kd i == 3) && rem.all (fun m => !(M.getD i 0).testBit m) && vtB kd M t (rem.erase i) []
  | .alt i t r, rem, hs => rem.contains i && kd i == 3 && rem.all (fun m => !(M.getD i 0).testBit m) && vtB kd M t (rem.erase i) [] && vtB kd M r rem (i :: hs)

theorem vtB_spec {ops : Array Oper} {kd : Nat → Nat} {M : List Nat} : ∀ {t : Tr} {rem hs : List Nat}, vtB kd M t rem hs = true → VT ops kd M t rem hs
  | .done, rem, hs, h => by
    simp only [vtB, Bool.and_eq_true, List.isEmpty_iff] at h
    exact h
  | .stop, rem, hs, h => by
    simp only [vtB, Bool.and_eq_true, Bool.not_eq_true', List.isEmpty_eq_false_iff] at h
    refine ⟨h.1, fun e he h3 => ?_⟩
    have := List.all_eq_true.1 h.2 e he
    simp only [h3, beq_self_eq_true, Bool.not_true, Bool.false_or, Bool.or_eq_true] at this
    rcases this with h' | h'
    · exact .inl (by simpa using h')
    · obtain ⟨e', he', hb⟩ := List.any_eq_true.1 h'
      simp only [Bool.and_eq_true, beq_iff_eq] at hb
      exact .inr ⟨e', he', hb.1, hb.2⟩
  | .q i t, rem, hs, h => by
    simp only [vtB, Bool.and_eq_true, Bool.not_eq_true', beq_eq_false_iff_ne, List.isEmpty_iff] at h
    obtain ⟨⟨⟨⟨h1, h2⟩, h3⟩, h4⟩, h5⟩ := h
    exact ⟨h1, by simpa using h2, h3, fun m hm => by have := List.all_eq_true.1 h4 m hm; simpa using this, vtB_spec h5⟩
  | .alt i t r, rem, hs, h => by
    simp only [vtB, Bool.and_eq_true, beq_iff_eq] at h
    obtain ⟨⟨⟨⟨h1, h2⟩, h3⟩, h4⟩, h5⟩ := h
    exact ⟨by simpa using h1, h2, fun m hm => by have := List.all_eq_true.1 h3 m hm; simpa using this, vtB_spec h4, vtB_spec h5⟩

def chkRowT (P : Program) (ops : Array Oper) (amb : List Nat) (mj kj : Nat) (oj : Oper) : List Oper → Nat → Bool
  | [], _ => true
  | oi :: l, i => (mj.testBit i || (kind0 P amb i oi == 3 && kj == 3) || (oi.apart ops oj && kindsOk (kind0 P amb i oi) kj)) && chkRowT P ops amb mj kj oj l (i + 1)

def chkAllT (P : Program) (ops : Array Oper) (amb : List Nat) (M : List Nat) (all : List Oper) : List Oper → Nat → Bool
  | [], _ => true
  | o :: l, j => notSelect o.op && o.after.toList.all (fun e => !Region.binds .any e || Nat.blt e.on j) && Nat.blt (M.getD j 0) (2 ^ j) && chkRowT P ops amb (M.getD j 0) (kind0 P amb j o) o (all.take j) 0 && chkAllT P ops amb M all l (j + 1)

def needT (ops : Array Oper) (amb : List Nat) (i : Nat) : Bool := amb.any fun m => !((masks ops.toList []).getD i 0).testBit m

def treeB (P : Program) (ops : Array Oper) (amb : List Nat) (t : Tr) : Bool :=
  chkAllT P ops amb (masks ops.toList []) ops.toList ops.toList 0 && vtB (kdOf P ops amb) (masks ops.toList []) t (List.range ops.toList.length) []

theorem chkRowT_spec {P : Program} {ops : Array Oper} {amb : List Nat} {mj kj : Nat} {oj : Oper} : ∀ {l : List Oper} {i : Nat}, chkRowT P ops amb mj kj oj l i = true → ∀ m oi, l[m]? = some oi →
    (mj.testBit (i + m) || (kind0 P amb (i + m) oi == 3 && kj == 3) || (oi.apart ops oj && kindsOk (kind0 P amb (i + m) oi) kj)) = true
  | [], _, _, m, oi, hm => by simp at hm
  | o :: l, i, h, m, oi, hm => by
    simp only [chkRowT, Bool.and_eq_true] at h
    cases m with
    | zero => simp at hm; subst hm; exact h.1
    | succ m =>
      have := chkRowT_spec h.2 m oi (by simpa using hm)
      rwa [show i + 1 + m = i + (m + 1) by omega] at this

theorem chkAllT_spec {P : Program} {ops : Array Oper} {amb : List Nat} {M : List Nat} {all : List Oper} : ∀ {l : List Oper} {j : Nat}, chkAllT P ops amb M all l j = true → ∀ m o, l[m]? = some o →
    notSelect o.op = true ∧ (∀ e ∈ o.after, Region.binds .any e = true → e.on < j + m) ∧ M.getD (j + m) 0 < 2 ^ (j + m) ∧ chkRowT P ops amb (M.getD (j + m) 0) (kind0 P amb (j + m) o) o (all.take (j + m)) 0 = true
  | [], _, _, m, o, hm => by simp at hm
  | x :: l, j, h, m, o, hm => by
    simp only [chkAllT, Bool.and_eq_true] at h
    obtain ⟨⟨⟨⟨h1, h2⟩, h2'⟩, h3⟩, h4⟩ := h
    cases m with
    | zero =>
      simp at hm; subst hm
      refine ⟨h1, fun e he hb => ?_, by simpa using h2', h3⟩
      have := List.all_eq_true.1 h2 e (by simpa using he)
      rw [hb] at this
      simpa using this
    | succ m =>
      have := chkAllT_spec h4 m o (by simpa using hm)
      rwa [show j + 1 + m = j + (m + 1) by omega] at this

theorem amb_of_kind {P : Program} {ops : Array Oper} {amb : List Nat} {m : Nat} (hm1 : kdOf P ops amb m = 1) : amb.any (Nat.beq m) = true := by
  unfold kdOf at hm1
  cases hb : amb.any (Nat.beq m) with
  | true => rfl
  | false =>
    exfalso
    revert hm1
    split
    · unfold kind0
      rw [hb]
      (repeat' split) <;> first | (simp; done) | (rename_i hx; cases hx)
    · simp

theorem treeB_spec {P : Program} {ops : Array Oper} {amb : List Nat} {t : Tr} (h : treeB P ops amb t = true) : TrOk ops (kdOf P ops amb) (needT ops amb) ∧ VT ops (kdOf P ops amb) (masks ops.toList []) t (List.range ops.toList.length) [] := by
  simp only [treeB, Bool.and_eq_true] at h
  refine ⟨?_, vtB_spec h.2⟩
  have key := fun j o (ho : ops[j]? = some o) => chkAllT_spec h.1 j o (by simpa using ho)
  refine ⟨fun j o cs b ho hs => ?_, fun i j oi oj hij hi hj => ?_, fun j o ho e he hb => ?_, fun i j hi hb => ?_, fun i m hm hm1 hn => ?_⟩
  · have := (key j o ho).1
    rw [hs] at this
    simp [notSelect] at this
  · have := chkRowT_spec (key j oj hj).2.2.2 i oi (by rw [List.getElem?_take_of_lt (by omega)]; simpa using hi)
    simp only [Nat.zero_add, Bool.or_eq_true, Bool.and_eq_true, beq_iff_eq] at this
    unfold kdOf
    rw [hi, hj]
    rcases this with (h1 | h1) | h1
    · exact .inl h1
    · exact .inr (.inl h1)
    · exact .inr (.inr h1)
  · have := (key j o ho).2.1 e he hb
    omega
  · have := (key i _ (Array.getElem?_eq_getElem hi)).2.2.1
    simp only [Nat.zero_add] at this
    rcases Nat.lt_or_ge j i with h' | h'
    · exact h'
    · rw [Nat.testBit_lt_two_pow (Nat.lt_of_lt_of_le this (Nat.pow_le_pow_right (by omega) h'))] at hb
      cases hb
  · obtain ⟨x, hx, he⟩ := List.any_eq_true.1 (amb_of_kind hm1)
    have : m = x := Nat.eq_of_beq_eq_true he
    subst this
    have := List.any_eq_false.1 hn m hx
    simpa using this

theorem wp_region_tree {P : Program} {ops : Array Oper} {C : Hp → Prop} {kd : Nat → Nat} {need : Nat → Bool} {KQ : Act → Hp → Prop} {id : Nat} {Q : Exit → Act → World → Prop} {a : Act} {w w0 : World} {t : Tr} (hm : P.follows .mixedOrders = true) (ok : TrOk ops kd need) (hkd : ∀ i, kd i ≤ 3)
    (hv : VT ops kd (masks ops.toList []) t (List.range ops.toList.length) []) (hw0 : Same w0 w)
    (hC : ∀ m, m < ops.size → kd m = 1 → C w.heap) (hQ : ∀ a w, Same w0 w → KQ a w.heap → Q .normal a w)
    (h : wTr P ops C kd need KQ t a w.heap) : (Code.region id ops true).wp P Q a w := by
  refine wp_region_any hm (wM_sound (w0 := w0) (C := C) (kd := kd) (need := need) (KQ := KQ) hQ _ _ _ { w with drawn := w.drawn + 1 } ⟨hw0.tape, hw0.os, hw0.output, Nat.le_succ_of_le hw0.drawn⟩ ?_)
  refine wM_of_tree ok hkd ops.size (List.range ops.toList.length) t _ a w.heap (by simp) List.nodup_range (fun m hm' => by simpa using hm') (fun m hm' => by simp [hm']) ?_ hv (fun m hm' hm1 => hC m (by simpa using hm') hm1) h
  exact ⟨by simp, fun j oj _ hl => by
    rcases Nat.lt_or_ge j ops.size with h' | h'
    · simp [h'] at hl
    · simp [h'] at hl⟩

/-! ### Over what is known of the temporaries -/

def evTree (P : Program) (n : Nat) (ent : Nat → Bool) (ops : Array Oper) (amb : List Nat) (C : Hp → Prop) : Tr → (Env → Hp → Prop) → Env → Hp → Prop
  | .done, K, env, H => K env H
  | .stop, _, _, _ => True
  | .q i t, K, env, H => match ops[i]? with
    | some o => match o.guard with
      | none => opF P n ent ops amb C i o env (fun v H' => evTree P n ent ops amb C t K (putE env o.dst v) H') H
      | some _ => False
    | none => False
  | .alt i t r, K, env, H => (match ops[i]? with
    | some o => match o.guard with
      | none => opF P n ent ops amb C i o env (fun v H' => evTree P n ent ops amb C t K (putE env o.dst v) H') H
      | some _ => False
    | none => False) ∧ evTree P n ent ops amb C r K env H

theorem evTree_sound {P : Program} {n : Nat} {ent : Nat → Bool} {ops : Array Oper} {amb : List Nat} {C : Hp → Prop} (hent : ∀ f, ent f = true → Enters P f) {KQ : Act → Hp → Prop} {M : List Nat} {e0 : Env} (hfr : ∀ (i : Nat) (o : Oper), ops[i]? = some o → freshD e0 o = true) :
    ∀ (t : Tr) (K : Env → Hp → Prop) (env : Env) (H : Hp), evTree P n ent ops amb C t K env H → ∀ (a : Act) (rem hs : List Nat), VT ops (kdOf P ops amb) M t rem hs → Agree n env a → Ext e0 env →
      (∀ env' a' H', Agree n env' a' → Ext e0 env' → K env' H' → KQ a' H') → wTr P ops C (kdOf P ops amb) (needT ops amb) KQ t a H := by
  have wanted : ∀ {o : Oper} {a : Act}, o.guard = none → Region.wanted o (yielded ops a.tmps) = true := fun hg => by unfold Region.wanted; rw [hg]
  intro t
  induction t with
  | done => intro K env H h a rem hs hv hag hx hK; exact hK env a H hag hx h
  | stop => intro K env H h a rem hs hv hag hx hK; trivial
  | q i t ih =>
    intro K env H h a rem hs hv hag hx hK
    unfold evTree at h
    split at h
    next o ho =>
      split at h
      next hg =>
        have hs' := opF_sound hent ho hag (wanted hg) (K := wTr P ops C (kdOf P ops amb) (needT ops amb) KQ t) (fun v H' hd hv' => ih _ _ _ hv' _ _ _ hv.2.2.2.2 (hag.put hd) (hx.put (hfr i o ho)) hK) h
        obtain ⟨o', ho', hs'⟩ := hs'
        obtain rfl : o = o' := Option.some.inj (ho.symm.trans ho')
        rcases hs' with ⟨_, h3, _⟩ | ⟨v, hq, hw⟩
        · exact absurd h3 hv.2.2.1
        · exact ⟨o, v, ho, hq, hw⟩
      next => exact h.elim
    next => exact h.elim
  | alt i t r iht ihr =>
    intro K env H h a rem hs hv hag hx hK
    obtain ⟨h, hr⟩ := h
    obtain ⟨v1, v2, v3, v4, v5⟩ := hv
    refine ⟨?_, ihr K env H hr a rem _ v5 hag hx hK⟩
    split at h
    next o ho =>
      split at h
      next hg =>
        have hs' := opF_sound hent ho hag (wanted hg) (K := wTr P ops C (kdOf P ops amb) (needT ops amb) KQ t) (fun v H' hd hv' => iht _ _ _ hv' _ _ _ v4 (hag.put hd) (hx.put (hfr i o ho)) hK) h
        obtain ⟨o', ho', hs'⟩ := hs'
        obtain rfl : o = o' := Option.some.inj (ho.symm.trans ho')
        refine ⟨o, ho, ?_⟩
        rcases hs' with ⟨h1, h3, h4⟩ | ⟨v, ⟨_, h3, _⟩ | ⟨h3, _⟩, _⟩
        · refine ⟨h1, h3, eV_mono (fun v H' hm => ⟨fun hn => hm.1 ?_, hm.2⟩) h4⟩
          obtain ⟨m, hm1, hm2⟩ := List.any_eq_true.1 hn
          exact List.any_eq_true.2 ⟨m, hm1, by simp only [Bool.or_eq_true]; exact .inr hm2⟩
        · exact absurd v2 h3
        · rw [wanted hg] at h3; cases h3
      next => exact h.elim
    next => exact h.elim

end Go.EV
