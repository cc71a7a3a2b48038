/- append and make, in memory by parts. -/
import Derived.Test.YtlkocnmgpalmnaaEvS
namespace Go.EV
open Go

theorem hw_pure {α : Type} {P : Program} {a : α} {Q : α → Hp → Prop} {H : Hp} (h : Q a H) : hw P (pure a) Q H := h

theorem hw_under {P : Program} {t : TypeId} {d : TypeDesc} {α : Type} {f : TypeDesc → Sem α} {Q : α → Hp → Prop} {H : Hp} (h : P.underlying t = some d) (hh : hw P (f d) Q H) : hw P (underlying t >>= f) Q H := by
  rw [hw_bind]
  show hw P (match P.underlying t with | some d => pure d | none => stuck "no such type") _ H
  rw [h]; exact hh

theorem hw_info {P : Program} {t : TypeId} {i : TypeInfo} {α : Type} {f : TypeInfo → Sem α} {Q : α → Hp → Prop} {H : Hp} (h : P.info? t = some i) (hh : hw P (f i) Q H) : hw P (typeInfo t >>= f) Q H := by
  rw [hw_bind]
  show hw P (match P.info? t with | some d => pure d | none => stuck "no such type") _ H
  rw [h]; exact hh

theorem hw_zero {P : Program} {t : TypeId} {i : TypeInfo} {z : Value} {α : Type} {f : Value → Sem α} {Q : α → Hp → Prop} {H : Hp} (h : P.info? t = some i) (hz : i.zero = some z) (hh : hw P (f z) Q H) : hw P (zeroValue t >>= f) Q H := by
  rw [hw_bind]
  unfold zeroValue
  refine hw_info h ?_
  rw [hz]; exact hh

theorem hw_room {P : Program} {n : Nat} {α : Type} {f : Unit → Sem α} {Q : α → Hp → Prop} {H : Hp} (hh : hw P (f ()) Q H) : hw P (askRoom n >>= f) Q H := by
  rw [hw_bind]
  unfold askRoom
  split
  · exact hh
  · exact hh

theorem hw_loadFrom {P : Program} {a : Addr} {H : Hp} : ∀ (vs : List Value) (i : Nat) (acc : Array Value) (Q : Array Value → Hp → Prop),
    (∀ j v, vs[j]? = some v → cellH H (a.add (i + j)) = some v) → Q (acc ++ vs.toArray) H → hw P (loadCellsFrom a i vs.length acc) Q H
  | vs, i, acc, Q, hc, hQ => hq_hw P _ (hq_loadCells vs i acc (fun r => r = acc ++ vs.toArray) hc rfl) fun r hr => by subst hr; exact hQ

/-- Whence what is appended comes. -/
def Src (H : Hp) (size : Nat) (x : Value) (m : Nat) (vs : List Value) : Prop :=
  vs.length = m * size ∧ match x with
    | .slice (some ad) m' _ => m' = m ∧ ∀ j v, vs[j]? = some v → cellH H (ad.add j) = some v
    | .slice none m' _ => m' = m ∧ m = 0
    | _ => False

/-- A slice that owns its memory. -/
def own (a : Option Addr) (n c size : Nat) (cs : List Value) : Asr := fun h =>
  cs.length = n * size ∧ match a with
    | none => n = 0 ∧ c = 0
    | some ad => ∃ b spare, ad = ⟨b, 0, none⟩ ∧ (cs ++ spare).length = c * size ∧ blk b (cs ++ spare) h

theorem growBy_le (need : Nat) : ∀ (r c : Nat), c ≤ need + need / 4 + 192 → Builtin.growBy need r c ≤ need + need / 4 + 192
  | 0, c, h => h
  | r + 1, c, h => by
    unfold Builtin.growBy
    split
    · exact h
    · exact growBy_le need r _ (by omega)

theorem nextcap_le {need cap : Nat} (h : cap < need) : Builtin.nextslicecap need cap ≤ 2 * need + 192 := by
  unfold Builtin.nextslicecap
  split
  · omega
  · split
    · omega
    · have := growBy_le need 4 cap (by omega)
      omega

theorem hw_lenOf {P : Program} {H : Hp} {size m : Nat} {x : Value} {vs : List Value} (hs : Src H size x m vs) {α : Type} {f : Nat → Sem α} {Q : α → Hp → Prop} (hh : hw P (f m) Q H) : hw P (Builtin.lenOf x >>= f) Q H := by
  unfold Src at hs
  obtain ⟨_, hs⟩ := hs
  split at hs
  · obtain ⟨rfl, _⟩ := hs; exact hh
  · obtain ⟨rfl, _⟩ := hs; exact hh
  · exact hs.elim

theorem hw_first {P : Program} {H : Hp} {size m : Nat} {x : Value} {vs : List Value} (hs : Src H size x m vs) {α : Type} {f : Array Value → Sem α} {Q : α → Hp → Prop} (hh : hw P (f vs.toArray) Q H) : hw P (Builtin.firstCells size m x >>= f) Q H := by
  unfold Src at hs
  obtain ⟨hlen, hs⟩ := hs
  rw [hw_bind]
  split at hs
  · obtain ⟨_, hc⟩ := hs
    show hw P (loadCellsFrom _ 0 (m * size) #[]) _ H
    rw [← hlen]
    exact hw_loadFrom vs 0 #[] _ (fun j v hv => by rw [Nat.zero_add]; exact hc j v hv) (by simpa using hh)
  · obtain ⟨_, rfl⟩ := hs
    have : vs = [] := List.length_eq_zero_iff.1 (by omega)
    subst this
    exact hh
  · exact hs.elim

theorem own_cells {H : Hp} {l : List Asr} {i : Nat} {a : Option Addr} {n c size : Nat} {cs : List Value} (h : Sat H (sep l)) (hi : l[i]? = some (own a n c size cs)) : Src H size (.slice a n c) n cs := by
  obtain ⟨x, hx, hl⟩ := h.pull i
  obtain ⟨h1, h2, _, l1, _, ho, _⟩ := hx
  rw [getD_of_get? hi] at ho
  refine ⟨ho.1, ?_⟩
  cases a with
  | none => exact ⟨rfl, ho.2.1⟩
  | some ad =>
    obtain ⟨b, spare, rfl, hlen, T, hb⟩ := ho.2
    refine ⟨rfl, fun j v hv => ?_⟩
    have hb' := hl b _ (l1 b _ hb)
    rw [add_mk]
    have hj : j < cs.length := (List.getElem?_eq_some_iff.1 hv).1
    unfold cellH World.cell? wof
    simp [hb', List.getElem?_append_left hj, hv]

theorem own_len {H : Hp} {l : List Asr} {i : Nat} {a : Option Addr} {n c size : Nat} {cs : List Value} (h : Sat H (sep l)) (hi : l[i]? = some (own a n c size cs)) : cs.length = n * size := (own_cells h hi).1

theorem set_pull {l : List Asr} {i : Nat} {A B : Asr} (hi : l[i]? = some A) : (l.set i B).eraseIdx i = l.eraseIdx i ∧ (l.set i B)[i]? = some B := by
  have hlt : i < l.length := (List.getElem?_eq_some_iff.1 hi).1
  refine ⟨?_, List.getElem?_set_self hlt⟩
  apply List.ext_getElem?
  intro j
  rw [List.getElem?_eraseIdx, List.getElem?_eraseIdx]
  split
  · rw [List.getElem?_set_ne (by omega)]
  · rw [List.getElem?_set_ne (by omega)]

/-- The i-th part is laid anew, all else stands. -/
theorem Sat.replace {H : Hp} {l : List Asr} {i : Nat} {A B : Asr} (hi : l[i]? = some A) (h : Sat H (sep (B :: l.eraseIdx i))) : Sat H (sep (l.set i B)) := by
  have hlt : i < l.length := (List.getElem?_eq_some_iff.1 hi).1
  exact h.mono fun _ x => sep_push i l B hlt x

theorem Sat.front {H : Hp} {l : List Asr} {i : Nat} {A : Asr} (h : Sat H (sep l)) (hi : l[i]? = some A) : Sat H (sep (A :: l.eraseIdx i)) := by
  have := h.pull i
  rwa [getD_of_get? hi] at this

theorem append_at {P : Program} {t ty e : TypeId} {inf : TypeInfo} {z : Value} (ht : P.underlying t = some (.slice e)) (hi : P.info? e = some inf) (hz : inf.zero = some z) (hzc : z.cells.size = inf.size)
    {H : Hp} {l : List Asr} (h : Sat H (sep l)) (i : Nat) {a : Option Addr} {n c m : Nat} {cs vs : List Value} {x : Value} (hio : l[i]? = some (own a n c inf.size cs)) (hs : Src H inf.size x m vs) (ho : vs.all one1 = true)
    (hb : (2 * (n + m) + 192) * inf.bytes ≤ 281474976710656) (hb0 : 0 < inf.bytes) {K : Value → Hp → Prop}
    (k : ∀ a' c' H', Sat H' (sep (l.set i (own a' (n + m) c' inf.size (cs ++ vs)))) → K (.slice a' (n + m) c') H') :
    hw P (Builtin.append_ #[t, t] ty #[.slice a n c, x]) K H := by
  have hlen := own_len h hio
  have hvl : vs.length = m * inf.size := hs.1
  unfold Builtin.append_
  show hw P (underlying t >>= _) K H
  refine hw_under ht ?_
  refine hw_size hi ?_
  refine hw_under ht ?_
  dsimp only
  refine hw_lenOf hs ?_
  split
  next hfit =>
    -- within its room
    refine hw_first hs ?_
    cases a with
    | none =>
      obtain ⟨x', hx, hl⟩ := h.pull i
      obtain ⟨_, _, _, _, _, hoo, _⟩ := hx
      rw [getD_of_get? hio] at hoo
      obtain ⟨hn, hc⟩ := hoo.2
      subst hn; subst hc
      have hm : m = 0 := by omega
      subst hm
      have : vs = [] := List.length_eq_zero_iff.1 (by omega)
      subst this
      refine k none 0 H ?_
      have e : l.set i (own none (0 + 0) 0 inf.size (cs ++ [])) = l := by
        have hlt : i < l.length := (List.getElem?_eq_some_iff.1 hio).1
        apply List.ext_getElem?
        intro j
        by_cases hj : i = j
        · subst hj; rw [List.getElem?_set_self hlt, hio]; simp
        · rw [List.getElem?_set_ne hj]
      rw [e]; exact h
    | some ad =>
      have hf := h.front hio
      obtain ⟨y, ⟨h1, h2, ap, l1, l2, hoo, hrest⟩, hle⟩ := hf
      obtain ⟨b, spare, rfl, hcl, hblk⟩ := hoo.2
      have hS : Sat H (sep (blk b (cs ++ spare) :: l.eraseIdx i)) := ⟨y, ⟨h1, h2, ap, l1, l2, hblk, hrest⟩, hle⟩
      rw [hw_bind, add_mk]
      have hsp : vs.length ≤ spare.length := by
        rw [List.length_append, hlen] at hcl
        have := Nat.mul_le_mul_right inf.size hfit
        rw [Nat.add_mul] at this
        omega
      refine hw_storeCells (K := fun H' => K (.slice (some ⟨b, 0, none⟩) (n + m) c) H') (fun H' hk => hk) _ 0 H (by simpa using ho) ?_
      have : vs.toArray.toList = vs := by simp
      rw [this, Nat.zero_add]
      refine wr hS 0 rfl (by rw [List.length_append, hlen]; omega) fun H' hS' => k _ _ H' ?_
      refine Sat.replace hio ?_
      obtain ⟨y', ⟨g1, g2, gap, gl1, gl2, gb, grest⟩, gle⟩ := hS'
      have hset : setMany (cs ++ spare) (n * inf.size) vs = (cs ++ vs) ++ spare.drop vs.length := by
        apply List.ext_getElem?
        intro j
        rw [setMany_get]
        rw [List.length_append, hlen]
        by_cases hj1 : j < cs.length
        · rw [if_neg (by omega), List.getElem?_append_left hj1, List.append_assoc, List.getElem?_append_left hj1]
        · rw [List.append_assoc, List.getElem?_append_right (by omega), List.getElem?_append_right (by omega)]
          by_cases hj2 : j < cs.length + vs.length
          · rw [if_pos (by omega), List.getElem?_append_left (by omega), hlen]
          · rw [if_neg (by omega), List.getElem?_append_right (by omega), List.getElem?_drop]
            congr 1; omega
      rw [hset] at gb
      refine ⟨y', ⟨g1, g2, gap, gl1, gl2, ⟨by rw [List.length_append, hlen, hvl, Nat.add_mul], b, spare.drop vs.length, rfl, ?_, gb⟩, grest⟩, gle⟩
      rw [List.length_append] at hcl
      simp only [List.length_append, List.length_drop]
      omega
  next hfit =>
    have hcap : c < n + m := by omega
    refine hw_info hi ?_
    have hsmall : ¬ (((n + m : Nat) : Int) > IntKind.i64.max ∧ (false = true ∨ inf.bytes = 0)) := by
      rintro ⟨_, h | h⟩
      · cases h
      · omega
    rw [if_neg hsmall]
    refine hw_info hi ?_
    have hnc := nextcap_le hcap
    rw [if_neg (by have := Nat.mul_le_mul_right inf.bytes hnc; omega)]
    rw [hw_bind]
    show hw P (choose (.appendCap (n + m) c e)) _ H
    show (if (Question.appendCap (n + m) c e).forced then _ else _)
    rw [if_neg (by simp [Question.forced])]
    intro tt
    refine hw_info hi ?_
    refine hw_room ?_
    refine hw_first (own_cells h hio) ?_
    refine hw_first hs ?_
    refine hw_zero hi hz ?_
    generalize hnew : (Question.appendCap (n + m) c e).cut tt = nc
    have hge : n + m ≤ nc := by subst hnew; simp [Question.cut]
    rw [hw_bind]
    show K _ _
    have hcells : (cs.toArray ++ vs.toArray ++ Builtin.zeroCells z.cells (nc - (n + m))) = ((cs ++ vs) ++ (Builtin.zeroCells z.cells (nc - (n + m))).toList).toArray := by
      apply Array.ext'
      simp
    rw [hcells]
    refine k _ _ _ (Sat.replace hio ?_)
    have hS' := (h.front hio).drop.new ((cs ++ vs) ++ (Builtin.zeroCells z.cells (nc - (n + m))).toList) e
    obtain ⟨y', ⟨g1, g2, gap, gl1, gl2, gb, grest⟩, gle⟩ := hS'
    refine ⟨y', ⟨g1, g2, gap, gl1, gl2, ⟨by rw [List.length_append, hlen, hvl, Nat.add_mul], H.size, _, rfl, ?_, gb⟩, grest⟩, gle⟩
    have hzl : (Builtin.zeroCells z.cells (nc - (n + m))).toList.length = (nc - (n + m)) * inf.size := by
      unfold Builtin.zeroCells; simp [hzc]
    rw [List.length_append, List.length_append, hlen, hvl, hzl, ← Nat.add_mul, ← Nat.add_mul]
    congr 1; omega

theorem Sat.add {H : Hp} {A : Asr} {l : List Asr} (hA : ∀ h, A h) (h : Sat H (sep l)) : Sat H (sep (A :: l)) := by
  obtain ⟨x, a, hl⟩ := h
  exact ⟨x, ⟨fun _ => none, x, fun _ => .inl rfl, fun _ _ e => (by cases e), Ph.le_refl x, hA _, a⟩, hl⟩

theorem own_none (size : Nat) (h : Ph) : own none 0 0 size [] h := ⟨by simp, rfl, rfl⟩

def ints (q : List Nat) : List Value := q.map fun k : Nat => .int .i64 (k : Int)

/-- make of a row of records. -/
theorem make_at {P : Program} {t e : TypeId} {inf : TypeInfo} {z : Value} {α : Type} {enc : α → List Value} (x0 : α) (ht : P.underlying t = some (.slice e)) (hi : P.info? e = some inf) (hz : inf.zero = some z) (hw' : ∀ x, (enc x).length = inf.size) (hz0 : z.cells.toList = enc x0)
    {H : Hp} {l : List Asr} (h : Sat H (sep l)) {n : Int} (h0 : 0 ≤ n) (h1 : n ≤ 9223372036854775807) (hb : (inf.bytes : Int) * n ≤ 281474976710656) {K : Value → Hp → Prop}
    (k : ∀ b H', Sat H' (sep (blk b (flat enc n.toNat fun _ => x0) :: l)) → K (.slice (some ⟨b, 0, none⟩) n.toNat n.toNat) H') :
    hw P (Instr.makeSlice t (.int .i64 n) (.int .i64 n)) K H := by
  unfold Instr.makeSlice
  refine hw_under ht ?_
  rw [hw_bind]
  show hw P _ K H
  rw [hw_bind]
  show hw P (typeInfo e >>= _) K H
  refine hw_info hi ?_
  dsimp only
  rw [wrap64_id (by omega) h1]
  have hbig : ¬ ((decide (n < 0) || decide ((inf.bytes : Int) * n > 2 ^ 48) || decide (n < 0) || decide (n > n)) = true) := by
    simp only [Bool.or_eq_true, decide_eq_true_eq]
    have : (2 : Int) ^ 48 = 281474976710656 := by decide
    omega
  have e1 : ((decide (n < 0) || decide ((inf.bytes : Int) * n > 2 ^ 48) || decide (n < 0) || decide (n > n))) = false := Bool.eq_false_iff.2 hbig
  rw [if_neg hbig]
  refine hw_room ?_
  refine hw_size hi ?_
  have hzs : z.cells.size = inf.size := by have := congrArg List.length hz0; simpa [hw'] using this
  have fin : ∀ zc : Array Value, ((List.range (n.toNat * inf.size)).map (fun i => zc[i % zc.size]!)) = flat enc n.toNat (fun _ => x0) → hw P (newRow e ((Array.range (n.toNat * inf.size)).map (zc[· % zc.size]!)) >>= fun a => pure (Value.slice (some a) n.toNat n.toNat)) K H := fun zc hc => by
    rw [hw_bind]
    show K _ _
    have : ((Array.range (n.toNat * inf.size)).map (zc[· % zc.size]!)) = (flat enc n.toNat (fun _ => x0)).toArray := by
      apply Array.ext'
      rw [← hc]
      simp
    rw [this]
    exact k _ _ (h.new _ e)
  split
  next hn0 =>
    refine fin #[] ?_
    rw [hn0]
    have : (flat enc n.toNat fun _ => x0).length = 0 := by rw [flat_length hw', hn0]
    rw [List.length_eq_zero_iff.1 this]; rfl
  next hn0 =>
    rw [hw_bind]
    unfold zeroValue
    refine hw_info hi ?_
    rw [hz]
    refine fin z.cells (flat_ext hw' _ _ _ (by simp) fun i j hi hj => ?_)
    have hb' : i * inf.size + j < n.toNat * inf.size := by have := Nat.mul_le_mul_right inf.size (show i + 1 ≤ n.toNat by omega); rw [Nat.succ_mul] at this; omega
    rw [List.getElem?_map, List.getElem?_range hb']
    simp only [Option.map_some]
    rw [hzs, show (i * inf.size + j) % inf.size = j by rw [Nat.mul_comm, Nat.mul_add_mod]; exact Nat.mod_eq_of_lt hj, ← hz0]
    have hjz : j < z.cells.size := by omega
    simp [hjz]

end Go.EV
