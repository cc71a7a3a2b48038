/- What the functions of the wheel do, as formulas over the heap; printed by a program of this work. -/
import Derived.Test.YtlkocnmgpalmnaaEvP
namespace Go.Proofs.Ytlkocnmgpalmnaa
open Go Go.EV

/-- nightjar/wheel.New -/
def wNew (n0 : Int) (n1 : Int) (R : Value → Hp → Prop) (H : Hp) : Prop :=
 (CallV Try.prog 19 #[(.int .i64 (imax (0 : Int) (imin n0 (4096 : Int)))), (.int .i64 (258 : Int))] H (fun v2 H3 => ∃ (p4 : Option Addr), v2 = (.pointer p4) ∧
 (hw Try.prog (Instr.makeSlice 47 (.int .i64 (imax (0 : Int) (imin n0 (4096 : Int)))) (.int .i64 (imax (0 : Int) (imin n0 (4096 : Int))))) (fun v9 H8 => ∃ (a5 : Option Addr) (l6 : Nat) (c7 : Nat), v9 = (.slice a5 l6 c7) ∧ (nw 50 #[(.pointer p4), (.slice a5 l6 c7), (.int .u64 n1), (.int .i64 (0 : Int)), (.int .i64 (0 : Int)), (.int .i64 (0 : Int)), (.int .i64 (0 : Int))] (fun r10 H11 =>
 R (.pointer (some (⟨r10, 0, none⟩ : Addr))) H11) H8) ∧
 True) H3) ∧
 True)) ∧
 (hw Try.prog (Instr.makeSlice 47 (.int .i64 (imax (0 : Int) (imin n0 (4096 : Int)))) (.int .i64 (imax (0 : Int) (imin n0 (4096 : Int))))) (fun v16 H15 => ∃ (a12 : Option Addr) (l13 : Nat) (c14 : Nat), v16 = (.slice a12 l13 c14) ∧ (CallV Try.prog 19 #[(.int .i64 (imax (0 : Int) (imin n0 (4096 : Int)))), (.int .i64 (258 : Int))] H15 (fun v17 H18 => ∃ (p19 : Option Addr), v17 = (.pointer p19) ∧
 (nw 50 #[(.pointer p19), (.slice a12 l13 c14), (.int .u64 n1), (.int .i64 (0 : Int)), (.int .i64 (0 : Int)), (.int .i64 (0 : Int)), (.int .i64 (0 : Int))] (fun r20 H21 =>
 R (.pointer (some (⟨r20, 0, none⟩ : Addr))) H21) H18) ∧
 True)) ∧
 True) H) ∧
 True

def wNew.hint : Hint := ⟨fun _ => [], fun _ => [], fun _ => none, fun i => bif Nat.beq i 2 then some (.q 0 (.q 2 (.q 4 (.alt 1 (.alt 3 (.q 5 (.alt 6 (.q 7 .done) .stop)) .stop) (.alt 3 (.alt 1 (.q 5 (.alt 6 (.q 7 .done) .stop)) .stop) .stop))))) else none⟩

theorem wNew.calls (n0 : Int) (n1 : Int) (R : Value → Hp → Prop) (H : Hp) (h : wNew n0 n1 R H) : CallV Try.prog 10 #[(.int .i64 n0), (.int .u64 n1)] H R :=
  evFn_calls (hi := wNew.hint) mixed hent (cast (by kernel_rfl : wNew n0 n1 R H = evFn Try.prog ent wNew.hint 10 #[(.int .i64 n0), (.int .u64 n1)] R H) h)

/-- (*nightjar/wheel.Wheel).Set -/
def wSet (p0 : Option Addr) (n1 : Int) (n2 : Int) (n3 : Int) (R : Value → Hp → Prop) (H : Hp) : Prop :=
 guardM (decide ((n1 : Int) < (0 : Int))) false (fun kk4 H5 => optK p0 (fun q6 => ∃ (a7 : Option Addr) (l8 : Nat) (c9 : Nat), cellH H5 (Addr.add q6 1) = some (.slice a7 l8 c9) ∧ kk4 (decide ((n1 : Int) ≥ ((l8 : Nat) : Int))) H5))
 (fun r10 H11 => ((r10) = true → R (.bool false) H11) ∧
 ((r10) = false → optK p0 (fun q12 => ∃ (p13 : Option Addr), cellH H11 q12 = some (.pointer p13) ∧ CallV Try.prog 20 #[(.pointer p13), (.int .i64 n1)] H11 (fun v14 H15 => ∃ (n16 : Int) (b17 : Bool), v14 = (.tuple #[(.int .i64 n16), (.bool b17)]) ∧
 ((b17) = true → R (.bool false) H15) ∧
 ((b17) = false → optK p0 (fun q18 => ∃ (a19 : Option Addr) (l20 : Nat) (c21 : Nat), cellH H15 (Addr.add q18 1) = some (.slice a19 l20 c21) ∧ optK a19 (fun q22 => (0 : Int) ≤ n1 ∧ n1 < ((l20 : Nat) : Int) ∧ wrK (Addr.add q22 (Int.toNat n1 * 2)) [(.int .u64 n2), (.int .u64 n3)] 0 (fun H23 =>
 CallV Try.prog 21 #[(.pointer p0), (.int .i64 n1)] H23 (fun v24 H25 => v24 = (.tuple #[]) ∧
 R (.bool true) H25)) H15))))))) H

def wSet.hint : Hint := ⟨fun _ => [], fun _ => [], fun _ => none, fun _ => none⟩

theorem wSet.calls (p0 : Option Addr) (n1 : Int) (n2 : Int) (n3 : Int) (R : Value → Hp → Prop) (H : Hp) (h : wSet p0 n1 n2 n3 R H) : CallV Try.prog 11 #[(.pointer p0), (.int .i64 n1), (.int .u64 n2), (.int .u64 n3)] H R :=
  evFn_calls (hi := wSet.hint) mixed hent (cast (by kernel_rfl : wSet p0 n1 n2 n3 R H = evFn Try.prog ent wSet.hint 11 #[(.pointer p0), (.int .i64 n1), (.int .u64 n2), (.int .u64 n3)] R H) h)

/-- (*nightjar/wheel.Wheel).To -/
def wTo (p0 : Option Addr) (n1 : Int) (R : Value → Hp → Prop) (H : Hp) : Prop :=
 nw 25 #[(.pointer p0)] (fun r2 H3 =>
 ∃ J4 : List Value → Hp → Prop, (∃ (I5 : List Value → Hp → Prop) (μ6 : List Value → Hp → Nat), I5 [] H3 ∧
 (∀ H7, I5 [] H7 →
 ∃ (p8 : Option Addr), cellH H7 (⟨r2, 0, none⟩ : Addr) = some (.pointer p8) ∧ optK p8 (fun q9 => ∃ (n10 : Int), cellH H7 (Addr.add q9 2) = some (.int .u64 n10) ∧ (((decide ((n10 : Int) < n1))) = true → ∃ C11 : Hp → Prop, C11 H7 ∧ ∃ (p12 : Option Addr), cellH H7 (⟨r2, 0, none⟩ : Addr) = some (.pointer p12) ∧ CallV Try.prog 13 #[(.pointer p12)] H7 (fun v13 H14 => ∃ (n15 : Int), v13 = (.int .i64 n15) ∧
 C11 H14 ∧ C11 H14 ∧ ∃ (p16 : Option Addr), (∀ H17, C11 H17 → cellH H17 (⟨r2, 0, none⟩ : Addr) = some (.pointer p16)) ∧ optK p16 (fun q18 => C11 H14 ∧ ∃ (p19 : Option Addr), (∀ H20, C11 H20 → cellH H20 q18 = some (.pointer p19)) ∧ CallV Try.prog 22 #[(.pointer p19), (.int .i64 (256 : Int))] H14 (fun v21 H22 => ∃ (n23 : Int), v21 = (.int .i64 n23) ∧
 ((((n15 : Int) == n23)) = true → ∃ (p24 : Option Addr), cellH H22 (⟨r2, 0, none⟩ : Addr) = some (.pointer p24) ∧ optK p24 (fun q25 => wrK (Addr.add q25 2) [(.int .u64 n1)] 0 (fun H26 =>
 J4 [] H26) H22)) ∧
 ((((n15 : Int) == n23)) = false → ∃ C27 : Hp → Prop, C27 H22 ∧ C27 H22 ∧ ∃ (p28 : Option Addr), (∀ H29, C27 H29 → cellH H29 (⟨r2, 0, none⟩ : Addr) = some (.pointer p28)) ∧ ∃ (p30 : Option Addr), cellH H22 (⟨r2, 0, none⟩ : Addr) = some (.pointer p30) ∧ CallV Try.prog 24 #[(.pointer p30), (.int .u64 n1)] H22 (fun v31 H32 => ∃ (n33 : Int), v31 = (.int .u64 n33) ∧
 C27 H32 ∧ CallV Try.prog 23 #[(.pointer p28), (.int .u64 n33)] H32 (fun v34 H35 => v34 = (.tuple #[]) ∧
 I5 [] H35 ∧ μ6 [] H35 < μ6 [] H7))))))) ∧
 (((decide ((n10 : Int) < n1))) = false → J4 [] H7)))) ∧
 (∀ H36, J4 [] H36 →
 ∃ (p37 : Option Addr), cellH H36 (⟨r2, 0, none⟩ : Addr) = some (.pointer p37) ∧ optK p37 (fun q38 => ∃ (p39 : Option Addr), cellH H36 q38 = some (.pointer p39) ∧ CallV Try.prog 25 #[(.pointer p39), (.int .i64 (256 : Int))] H36 (fun v40 H41 => ∃ (a42 : Option Addr) (l43 : Nat) (c44 : Nat), v40 = (.slice a42 l43 c44) ∧
 ∃ (I45 : List Value → Hp → Prop) (μ46 : List Value → Hp → Nat), I45 [(.int .i64 (0 : Int))] H41 ∧
 (∀ (n47 : Int), ∀ H48, I45 [(.int .i64 n47)] H48 →
 (((decide ((n47 : Int) < ((l43 : Nat) : Int)))) = true → optK a42 (fun q49 => (0 : Int) ≤ n47 ∧ n47 < ((l43 : Nat) : Int) ∧ ∃ (n50 : Int), cellH H48 (Addr.add q49 (Int.toNat n47 * 1)) = some (.int .i64 n50) ∧ ∃ (p51 : Option Addr), cellH H48 (⟨r2, 0, none⟩ : Addr) = some (.pointer p51) ∧ optK p51 (fun q52 => ∃ (p53 : Option Addr), cellH H48 q52 = some (.pointer p53) ∧ CallV Try.prog 26 #[(.pointer p53), (.int .i64 n50)] H48 (fun v54 H55 => ∃ (b56 : Bool), v54 = (.bool b56) ∧
 I45 [(.int .i64 (IntKind.wrap .i64 (n47 + (1 : Int))))] H55 ∧ μ46 [(.int .i64 (IntKind.wrap .i64 (n47 + (1 : Int))))] H55 < μ46 [(.int .i64 n47)] H48)))) ∧
 (((decide ((n47 : Int) < ((l43 : Nat) : Int)))) = false → CallV Try.prog 27 #[(.slice a42 l43 c44), (.func (.func 28) #[] #[(.pointer (some (⟨r2, 0, none⟩ : Addr)))])] H48 (fun v57 H58 => v57 = (.tuple #[]) ∧
 R (.slice a42 l43 c44) H58))))))) H

def wTo.hint : Hint := ⟨fun i => bif Nat.beq i 2 then [2, 5] else bif Nat.beq i 4 then [0] else [], fun i => bif Nat.beq i 1 then [] else bif Nat.beq i 7 then [(38, .int .i64)] else [], fun i => bif Nat.beq i 5 then some [] else none, fun _ => none⟩

theorem wTo.calls (p0 : Option Addr) (n1 : Int) (R : Value → Hp → Prop) (H : Hp) (h : wTo p0 n1 R H) : CallV Try.prog 12 #[(.pointer p0), (.int .u64 n1)] H R :=
  evFn_calls (hi := wTo.hint) mixed hent (cast (by kernel_rfl : wTo p0 n1 R H = evFn Try.prog ent wTo.hint 12 #[(.pointer p0), (.int .u64 n1)] R H) h)

/-- (*nightjar/wheel.Wheel).To$1 -/
def wToCmp (n0 : Int) (n1 : Int) (q2 : Addr) (R : Value → Hp → Prop) (H : Hp) : Prop :=
 ∃ J3 : List Value → Hp → Prop, (∃ C4 : Hp → Prop, C4 H ∧ C4 H ∧ ∃ (p5 : Option Addr), (∀ H6, C4 H6 → cellH H6 q2 = some (.pointer p5)) ∧ optK p5 (fun q7 => C4 H ∧ ∃ (a8 : Option Addr) (l9 : Nat) (c10 : Nat), (∀ H11, C4 H11 → cellH H11 (Addr.add q7 1) = some (.slice a8 l9 c10)) ∧ optK a8 (fun q12 => (0 : Int) ≤ n0 ∧ n0 < ((l9 : Nat) : Int) ∧ C4 H ∧ ∃ (n13 : Int), (∀ H14, C4 H14 → cellH H14 (Addr.add q12 (Int.toNat n0 * 2)) = some (.int .u64 n13)) ∧ ∃ (n15 : Int), (∀ H16, C4 H16 → cellH H16 (Addr.add (Addr.add q12 (Int.toNat n0 * 2)) 1) = some (.int .u64 n15)) ∧ C4 H ∧ ∃ (p17 : Option Addr), (∀ H18, C4 H18 → cellH H18 q2 = some (.pointer p17)) ∧ optK p17 (fun q19 => C4 H ∧ ∃ (a20 : Option Addr) (l21 : Nat) (c22 : Nat), (∀ H23, C4 H23 → cellH H23 (Addr.add q19 1) = some (.slice a20 l21 c22)) ∧ optK a20 (fun q24 => (0 : Int) ≤ n1 ∧ n1 < ((l21 : Nat) : Int) ∧ C4 H ∧ ∃ (n25 : Int), (∀ H26, C4 H26 → cellH H26 (Addr.add q24 (Int.toNat n1 * 2)) = some (.int .u64 n25)) ∧ ∃ (n27 : Int), (∀ H28, C4 H28 → cellH H28 (Addr.add (Addr.add q24 (Int.toNat n1 * 2)) 1) = some (.int .u64 n27)) ∧ (nw 54 #[(.int .u64 (0 : Int)), (.int .u64 (0 : Int))] (fun r29 H30 =>
 C4 H30 ∧ (nw 54 #[(.int .u64 (0 : Int)), (.int .u64 (0 : Int))] (fun r31 H32 =>
 C4 H32 ∧ (wrK (⟨r29, 0, none⟩ : Addr) [(.int .u64 n13), (.int .u64 n15)] 0 (fun H33 =>
 C4 H33 ∧ (wrK (⟨r31, 0, none⟩ : Addr) [(.int .u64 n25), (.int .u64 n27)] 0 (fun H34 =>
 J3 [(.pointer (some (⟨r31, 0, none⟩ : Addr))), (.pointer (some (⟨r29, 0, none⟩ : Addr)))] H34) H33) ∧
 True) H32) ∧
 True) H30) ∧
 True) H) ∧
 (nw 54 #[(.int .u64 (0 : Int)), (.int .u64 (0 : Int))] (fun r35 H36 =>
 C4 H36 ∧ (nw 54 #[(.int .u64 (0 : Int)), (.int .u64 (0 : Int))] (fun r37 H38 =>
 C4 H38 ∧ (wrK (⟨r37, 0, none⟩ : Addr) [(.int .u64 n13), (.int .u64 n15)] 0 (fun H39 =>
 C4 H39 ∧ (wrK (⟨r35, 0, none⟩ : Addr) [(.int .u64 n25), (.int .u64 n27)] 0 (fun H40 =>
 J3 [(.pointer (some (⟨r35, 0, none⟩ : Addr))), (.pointer (some (⟨r37, 0, none⟩ : Addr)))] H40) H39) ∧
 True) H38) ∧
 True) H36) ∧
 True) H) ∧
 True))))) ∧
 (∀ (q42 : Addr) (q41 : Addr), ∀ H43, J3 [(.pointer (some q42)), (.pointer (some q41))] H43 →
 ∃ C44 : Hp → Prop, C44 H43 ∧ ∃ (n45 : Int), cellH H43 q41 = some (.int .u64 n45) ∧ ∃ (n46 : Int), cellH H43 q42 = some (.int .u64 n46) ∧ CallV Try.prog 30 #[(.int .u64 n45), (.int .u64 n46)] H43 (fun v47 H48 => ∃ (n49 : Int), v47 = (.int .i64 n49) ∧
 C44 H48 ∧ C44 H48 ∧ ∃ (n50 : Int), (∀ H51, C44 H51 → cellH H51 (Addr.add q41 1) = some (.int .u64 n50)) ∧ C44 H48 ∧ ∃ (n52 : Int), (∀ H53, C44 H53 → cellH H53 (Addr.add q42 1) = some (.int .u64 n52)) ∧ CallV Try.prog 30 #[(.int .u64 n50), (.int .u64 n52)] H48 (fun v54 H55 => ∃ (n56 : Int), v54 = (.int .i64 n56) ∧
 CallV Try.prog 31 #[(.int .i64 n0), (.int .i64 n1)] H55 (fun v57 H58 => ∃ (n59 : Int), v57 = (.int .i64 n59) ∧
 nw 3 #[(.int .i64 n49), (.int .i64 n56), (.int .i64 n59)] (fun r60 H61 =>
 CallV Try.prog 29 #[(.slice (some (⟨r60, 0, none⟩ : Addr)) 3 3)] H61 (fun v62 H63 => ∃ (n64 : Int), v62 = (.int .i64 n64) ∧
 R (.int .i64 n64) H63)) H58))))

def wToCmp.hint : Hint := ⟨fun i => bif Nat.beq i 1 then [0, 3, 6, 7, 10, 13] else bif Nat.beq i 2 then [6, 8] else [], fun _ => [], fun i => bif Nat.beq i 2 then some [(7, .ref), (6, .ref)] else none, fun i => bif Nat.beq i 1 then some (.q 0 (.q 1 (.q 2 (.q 3 (.q 4 (.q 5 (.q 6 (.q 7 (.q 8 (.q 9 (.q 10 (.q 11 (.q 12 (.q 13 (.alt 14 (.alt 15 (.alt 16 (.alt 17 .done .stop) .stop) .stop) (.alt 15 (.alt 14 (.alt 16 (.alt 17 .done .stop) .stop) .stop) .stop)))))))))))))))) else none⟩

theorem wToCmp.calls (n0 : Int) (n1 : Int) (q2 : Addr) (R : Value → Hp → Prop) (H : Hp) (h : wToCmp n0 n1 q2 R H) : CallV Try.prog 28 #[(.int .i64 n0), (.int .i64 n1), (.pointer (some q2))] H R :=
  evFn_calls (hi := wToCmp.hint) mixed hent (cast (by kernel_rfl : wToCmp n0 n1 q2 R H = evFn Try.prog ent wToCmp.hint 28 #[(.int .i64 n0), (.int .i64 n1), (.pointer (some q2))] R H) h)

/-- (*nightjar/wheel.Wheel).Len -/
def wLen (p0 : Option Addr) (R : Value → Hp → Prop) (H : Hp) : Prop :=
 ∃ C1 : Hp → Prop, C1 H ∧ optK p0 (fun q2 => ∃ (p3 : Option Addr), cellH H q2 = some (.pointer p3) ∧ CallV Try.prog 22 #[(.pointer p3), (.int .i64 (256 : Int))] H (fun v4 H5 => ∃ (n6 : Int), v4 = (.int .i64 n6) ∧
 C1 H5 ∧ optK p0 (fun q7 => C1 H5 ∧ ∃ (p8 : Option Addr), (∀ H9, C1 H9 → cellH H9 q7 = some (.pointer p8)) ∧ CallV Try.prog 22 #[(.pointer p8), (.int .i64 (257 : Int))] H5 (fun v10 H11 => ∃ (n12 : Int), v10 = (.int .i64 n12) ∧
 optK p0 (fun q13 => ∃ (n14 : Int), cellH H11 (Addr.add q13 3) = some (.int .i64 n14) ∧ ∃ (n15 : Int), cellH H11 (Addr.add (Addr.add q13 3) 1) = some (.int .i64 n15) ∧ ∃ (n16 : Int), cellH H11 (Addr.add (Addr.add q13 3) 2) = some (.int .i64 n16) ∧ ∃ (n17 : Int), cellH H11 (Addr.add (Addr.add q13 3) 3) = some (.int .i64 n17) ∧ ∃ (I18 : List Value → Hp → Prop) (μ19 : List Value → Hp → Nat), I18 [(.int .i64 (0 : Int)), (.int .i64 (IntKind.wrap .i64 (n6 + n12)))] H11 ∧
 (∀ (n21 : Int) (n20 : Int), ∀ H22, I18 [(.int .i64 n21), (.int .i64 n20)] H22 →
 (((decide ((n21 : Int) < (4 : Int)))) = true → (0 : Int) ≤ n21 ∧ n21 < ((4 : Nat) : Int) ∧ ∃ (n23 : Int), (#[(.int .i64 n14), (.int .i64 n15), (.int .i64 n16), (.int .i64 n17)] : Array Value)[(Int.toNat n21 * 1)]? = some (.int .i64 n23) ∧ I18 [(.int .i64 (IntKind.wrap .i64 (n21 + (1 : Int)))), (.int .i64 (IntKind.wrap .i64 (n20 + n23)))] H22 ∧ μ19 [(.int .i64 (IntKind.wrap .i64 (n21 + (1 : Int)))), (.int .i64 (IntKind.wrap .i64 (n20 + n23)))] H22 < μ19 [(.int .i64 n21), (.int .i64 n20)] H22) ∧
 (((decide ((n21 : Int) < (4 : Int)))) = false → R (.int .i64 n20) H22)))))))

def wLen.hint : Hint := ⟨fun i => bif Nat.beq i 1 then [8] else [], fun i => bif Nat.beq i 3 then [(21, .int .i64), (3, .int .i64)] else [], fun _ => none, fun _ => none⟩

theorem wLen.calls (p0 : Option Addr) (R : Value → Hp → Prop) (H : Hp) (h : wLen p0 R H) : CallV Try.prog 13 #[(.pointer p0)] H R :=
  evFn_calls (hi := wLen.hint) mixed hent (cast (by kernel_rfl : wLen p0 R H = evFn Try.prog ent wLen.hint 13 #[(.pointer p0)] R H) h)

/-- nightjar/nightjarref03.Same -/
def same3 (a0 : Option Addr) (l1 : Nat) (_c2 : Nat) (a3 : Option Addr) (l4 : Nat) (_c5 : Nat) (R : Value → Hp → Prop) (H : Hp) : Prop :=
 ((((((l1 : Nat) : Int) : Int) != ((l4 : Nat) : Int))) = true → R (.bool false) H) ∧
 ((((((l1 : Nat) : Int) : Int) != ((l4 : Nat) : Int))) = false → ∃ (I6 : List Value → Hp → Prop) (μ7 : List Value → Hp → Nat), I6 [(.int .i64 (0 : Int))] H ∧
 (∀ (n8 : Int), ∀ H9, I6 [(.int .i64 n8)] H9 →
 (((decide ((n8 : Int) < ((l1 : Nat) : Int)))) = true → optK a0 (fun q10 => (0 : Int) ≤ n8 ∧ n8 < ((l1 : Nat) : Int) ∧ ∃ (n11 : Int), cellH H9 (Addr.add q10 (Int.toNat n8 * 1)) = some (.int .i64 n11) ∧ optK a3 (fun q12 => (0 : Int) ≤ n8 ∧ n8 < ((l4 : Nat) : Int) ∧ ∃ (n13 : Int), cellH H9 (Addr.add q12 (Int.toNat n8 * 1)) = some (.int .i64 n13) ∧ ((((n11 : Int) != n13)) = true → R (.bool false) H9) ∧
 ((((n11 : Int) != n13)) = false → I6 [(.int .i64 (IntKind.wrap .i64 (n8 + (1 : Int))))] H9 ∧ μ7 [(.int .i64 (IntKind.wrap .i64 (n8 + (1 : Int))))] H9 < μ7 [(.int .i64 n8)] H9)))) ∧
 (((decide ((n8 : Int) < ((l1 : Nat) : Int)))) = false → R (.bool true) H9)))

def same3.hint : Hint := ⟨fun _ => [], fun i => bif Nat.beq i 4 then [(5, .int .i64)] else [], fun _ => none, fun _ => none⟩

theorem same3.calls (a0 : Option Addr) (l1 : Nat) (c2 : Nat) (a3 : Option Addr) (l4 : Nat) (c5 : Nat) (R : Value → Hp → Prop) (H : Hp) (h : same3 a0 l1 c2 a3 l4 c5 R H) : CallV Try.prog 14 #[(.slice a0 l1 c2), (.slice a3 l4 c5)] H R :=
  evFn_calls (hi := same3.hint) mixed hent (cast (by kernel_rfl : same3 a0 l1 c2 a3 l4 c5 R H = evFn Try.prog ent same3.hint 14 #[(.slice a0 l1 c2), (.slice a3 l4 c5)] R H) h)

/-- (*nightjar/wheel.Wheel).Now -/
def wNow (p0 : Option Addr) (R : Value → Hp → Prop) (H : Hp) : Prop :=
 optK p0 (fun q1 => ∃ (n2 : Int), cellH H (Addr.add q1 2) = some (.int .u64 n2) ∧ R (.int .u64 n2) H)

def wNow.hint : Hint := ⟨fun _ => [], fun _ => [], fun _ => none, fun _ => none⟩

theorem wNow.calls (p0 : Option Addr) (R : Value → Hp → Prop) (H : Hp) (h : wNow p0 R H) : CallV Try.prog 15 #[(.pointer p0)] H R :=
  evFn_calls (hi := wNow.hint) mixed hent (cast (by kernel_rfl : wNow p0 R H = evFn Try.prog ent wNow.hint 15 #[(.pointer p0)] R H) h)

/-- (*nightjar/wheel.Wheel).At -/
def wAt (p0 : Option Addr) (n1 : Int) (R : Value → Hp → Prop) (H : Hp) : Prop :=
 optK p0 (fun q2 => ∃ (p3 : Option Addr), cellH H q2 = some (.pointer p3) ∧ CallV Try.prog 20 #[(.pointer p3), (.int .i64 n1)] H (fun v4 H5 => ∃ (n6 : Int) (b7 : Bool), v4 = (.tuple #[(.int .i64 n6), (.bool b7)]) ∧
 (((!b7)) = true → R (.tuple #[(.int .u64 (0 : Int)), (.int .u64 (0 : Int)), (.bool false)]) H5) ∧
 (((!b7)) = false → optK p0 (fun q8 => ∃ (a9 : Option Addr) (l10 : Nat) (c11 : Nat), cellH H5 (Addr.add q8 1) = some (.slice a9 l10 c11) ∧ optK a9 (fun q12 => (0 : Int) ≤ n1 ∧ n1 < ((l10 : Nat) : Int) ∧ ∃ (n13 : Int), cellH H5 (Addr.add q12 (Int.toNat n1 * 2)) = some (.int .u64 n13) ∧ optK p0 (fun q14 => ∃ (a15 : Option Addr) (l16 : Nat) (c17 : Nat), cellH H5 (Addr.add q14 1) = some (.slice a15 l16 c17) ∧ optK a15 (fun q18 => (0 : Int) ≤ n1 ∧ n1 < ((l16 : Nat) : Int) ∧ ∃ (n19 : Int), cellH H5 (Addr.add (Addr.add q18 (Int.toNat n1 * 2)) 1) = some (.int .u64 n19) ∧ R (.tuple #[(.int .u64 n13), (.int .u64 n19), (.bool true)]) H5)))))))

def wAt.hint : Hint := ⟨fun _ => [], fun _ => [], fun _ => none, fun _ => none⟩

theorem wAt.calls (p0 : Option Addr) (n1 : Int) (R : Value → Hp → Prop) (H : Hp) (h : wAt p0 n1 R H) : CallV Try.prog 16 #[(.pointer p0), (.int .i64 n1)] H R :=
  evFn_calls (hi := wAt.hint) mixed hent (cast (by kernel_rfl : wAt p0 n1 R H = evFn Try.prog ent wAt.hint 16 #[(.pointer p0), (.int .i64 n1)] R H) h)

/-- (*nightjar/wheel.Wheel).Unset -/
def wUnset (p0 : Option Addr) (n1 : Int) (R : Value → Hp → Prop) (H : Hp) : Prop :=
 optK p0 (fun q2 => ∃ (p3 : Option Addr), cellH H q2 = some (.pointer p3) ∧ CallV Try.prog 20 #[(.pointer p3), (.int .i64 n1)] H (fun v4 H5 => ∃ (n6 : Int) (b7 : Bool), v4 = (.tuple #[(.int .i64 n6), (.bool b7)]) ∧
 (((!b7)) = true → R (.bool false) H5) ∧
 (((!b7)) = false → optK p0 (fun q8 => ∃ (p9 : Option Addr), cellH H5 q8 = some (.pointer p9) ∧ CallV Try.prog 26 #[(.pointer p9), (.int .i64 n1)] H5 (fun v10 H11 => ∃ (b12 : Bool), v10 = (.bool b12) ∧
 (((decide ((n6 : Int) < (256 : Int)))) = true → optK p0 (fun q13 => (0 : Int) ≤ (iquo .i64 n6 (64 : Int)) ∧ (iquo .i64 n6 (64 : Int)) < ((4 : Nat) : Int) ∧ ∃ (n14 : Int), cellH H11 (Addr.add (Addr.add q13 3) (Int.toNat (iquo .i64 n6 (64 : Int)) * 1)) = some (.int .i64 n14) ∧ optK p0 (fun q15 => (0 : Int) ≤ (iquo .i64 n6 (64 : Int)) ∧ (iquo .i64 n6 (64 : Int)) < ((4 : Nat) : Int) ∧ wrK (Addr.add (Addr.add q15 3) (Int.toNat (iquo .i64 n6 (64 : Int)) * 1)) [(.int .i64 (IntKind.wrap .i64 (n14 - (1 : Int))))] 0 (fun H16 =>
 R (.bool true) H16) H11))) ∧
 (((decide ((n6 : Int) < (256 : Int)))) = false → R (.bool true) H11))))))

def wUnset.hint : Hint := ⟨fun _ => [], fun _ => [], fun _ => none, fun _ => none⟩

theorem wUnset.calls (p0 : Option Addr) (n1 : Int) (R : Value → Hp → Prop) (H : Hp) (h : wUnset p0 n1 R H) : CallV Try.prog 17 #[(.pointer p0), (.int .i64 n1)] H R :=
  evFn_calls (hi := wUnset.hint) mixed hent (cast (by kernel_rfl : wUnset p0 n1 R H = evFn Try.prog ent wUnset.hint 17 #[(.pointer p0), (.int .i64 n1)] R H) h)

/-- (*nightjar/wheel.Wheel).First -/
def wFirst (p0 : Option Addr) (R : Value → Hp → Prop) (H : Hp) : Prop :=
 optK p0 (fun q1 => ∃ (a2 : Option Addr) (l3 : Nat) (c4 : Nat), cellH H (Addr.add q1 1) = some (.slice a2 l3 c4) ∧ ∃ (I5 : List Value → Hp → Prop) (μ6 : List Value → Hp → Nat), I5 [(.int .i64 (0 : Int)), (.int .u64 (0 : Int)), (.bool false)] H ∧
 (∀ (n9 : Int) (n8 : Int) (b7 : Bool), ∀ H10, I5 [(.int .i64 n9), (.int .u64 n8), (.bool b7)] H10 →
 (((decide ((n9 : Int) < ((l3 : Nat) : Int)))) = true → CallV Try.prog 16 #[(.pointer p0), (.int .i64 n9)] H10 (fun v11 H12 => ∃ (n13 : Int) (n14 : Int) (b15 : Bool), v11 = (.tuple #[(.int .u64 n13), (.int .u64 n14), (.bool b15)]) ∧
 guardM b15 true (fun kk16 H17 => guardM (!b7) false (fun kk18 H19 => kk18 (decide ((n13 : Int) < n8)) H19)
 (fun r20 H21 => kk16 r20 H21) H17)
 (fun r22 H23 => ((r22) = true → I5 [(.int .i64 (IntKind.wrap .i64 (n9 + (1 : Int)))), (.int .u64 n13), (.bool true)] H23 ∧ μ6 [(.int .i64 (IntKind.wrap .i64 (n9 + (1 : Int)))), (.int .u64 n13), (.bool true)] H23 < μ6 [(.int .i64 n9), (.int .u64 n8), (.bool b7)] H10) ∧
 ((r22) = false → I5 [(.int .i64 (IntKind.wrap .i64 (n9 + (1 : Int)))), (.int .u64 n8), (.bool b7)] H23 ∧ μ6 [(.int .i64 (IntKind.wrap .i64 (n9 + (1 : Int)))), (.int .u64 n8), (.bool b7)] H23 < μ6 [(.int .i64 n9), (.int .u64 n8), (.bool b7)] H10)) H12)) ∧
 (((decide ((n9 : Int) < ((l3 : Nat) : Int)))) = false → R (.tuple #[(.int .u64 n8), (.bool b7)]) H10)))

def wFirst.hint : Hint := ⟨fun _ => [], fun i => bif Nat.beq i 3 then [(15, .int .i64), (4, .int .u64), (5, .bool)] else [], fun _ => none, fun _ => none⟩

theorem wFirst.calls (p0 : Option Addr) (R : Value → Hp → Prop) (H : Hp) (h : wFirst p0 R H) : CallV Try.prog 18 #[(.pointer p0)] H R :=
  evFn_calls (hi := wFirst.hint) mixed hent (cast (by kernel_rfl : wFirst p0 R H = evFn Try.prog ent wFirst.hint 18 #[(.pointer p0)] R H) h)

/-- nightjar/chain.New -/
def cNew (n0 : Int) (n1 : Int) (R : Value → Hp → Prop) (H : Hp) : Prop :=
 ∃ J2 : List Value → Hp → Prop, ((hw Try.prog (Instr.makeSlice 64 (.int .i64 (imax (0 : Int) (imin n0 (4096 : Int)))) (.int .i64 (imax (0 : Int) (imin n0 (4096 : Int))))) (fun v7 H6 => ∃ (a3 : Option Addr) (l4 : Nat) (c5 : Nat), v7 = (.slice a3 l4 c5) ∧ (hw Try.prog (Instr.makeSlice 65 (.int .i64 (imax (0 : Int) (imin n1 (4096 : Int)))) (.int .i64 (imax (0 : Int) (imin n1 (4096 : Int))))) (fun v12 H11 => ∃ (a8 : Option Addr) (l9 : Nat) (c10 : Nat), v12 = (.slice a8 l9 c10) ∧ (nw 67 #[(.slice a3 l4 c5), (.slice a8 l9 c10)] (fun r13 H14 =>
 J2 [(.pointer (some (⟨r13, 0, none⟩ : Addr)))] H14) H11) ∧
 True) H6) ∧
 True) H) ∧
 (hw Try.prog (Instr.makeSlice 65 (.int .i64 (imax (0 : Int) (imin n1 (4096 : Int)))) (.int .i64 (imax (0 : Int) (imin n1 (4096 : Int))))) (fun v19 H18 => ∃ (a15 : Option Addr) (l16 : Nat) (c17 : Nat), v19 = (.slice a15 l16 c17) ∧ (hw Try.prog (Instr.makeSlice 64 (.int .i64 (imax (0 : Int) (imin n0 (4096 : Int)))) (.int .i64 (imax (0 : Int) (imin n0 (4096 : Int))))) (fun v24 H23 => ∃ (a20 : Option Addr) (l21 : Nat) (c22 : Nat), v24 = (.slice a20 l21 c22) ∧ (nw 67 #[(.slice a20 l21 c22), (.slice a15 l16 c17)] (fun r25 H26 =>
 J2 [(.pointer (some (⟨r25, 0, none⟩ : Addr)))] H26) H23) ∧
 True) H18) ∧
 True) H) ∧
 True) ∧
 (∀ (q27 : Addr), ∀ H28, J2 [(.pointer (some q27))] H28 →
 ∃ (a29 : Option Addr) (l30 : Nat) (c31 : Nat), cellH H28 q27 = some (.slice a29 l30 c31) ∧ ∃ (I32 : List Value → Hp → Prop) (μ33 : List Value → Hp → Nat), I32 [(.int .i64 (0 : Int))] H28 ∧
 (∀ (n34 : Int), ∀ H35, I32 [(.int .i64 n34)] H35 →
 (((decide ((n34 : Int) < ((l30 : Nat) : Int)))) = true → ∃ (a36 : Option Addr) (l37 : Nat) (c38 : Nat), cellH H35 q27 = some (.slice a36 l37 c38) ∧ optK a36 (fun q39 => (0 : Int) ≤ n34 ∧ n34 < ((l37 : Nat) : Int) ∧ wrK (Addr.add q39 (Int.toNat n34 * 3)) [(.int .i64 (-1 : Int)), (.int .i64 (-1 : Int)), (.int .i64 (-1 : Int))] 0 (fun H40 =>
 I32 [(.int .i64 (IntKind.wrap .i64 (n34 + (1 : Int))))] H40 ∧ μ33 [(.int .i64 (IntKind.wrap .i64 (n34 + (1 : Int))))] H40 < μ33 [(.int .i64 n34)] H35) H35)) ∧
 (((decide ((n34 : Int) < ((l30 : Nat) : Int)))) = false → ∃ (a41 : Option Addr) (l42 : Nat) (c43 : Nat), cellH H35 (Addr.add q27 1) = some (.slice a41 l42 c43) ∧ ∃ (I44 : List Value → Hp → Prop) (μ45 : List Value → Hp → Nat), I44 [(.int .i64 (0 : Int))] H35 ∧
 (∀ (n46 : Int), ∀ H47, I44 [(.int .i64 n46)] H47 →
 (((decide ((n46 : Int) < ((l42 : Nat) : Int)))) = true → ∃ (a48 : Option Addr) (l49 : Nat) (c50 : Nat), cellH H47 (Addr.add q27 1) = some (.slice a48 l49 c50) ∧ optK a48 (fun q51 => (0 : Int) ≤ n46 ∧ n46 < ((l49 : Nat) : Int) ∧ wrK (Addr.add q51 (Int.toNat n46 * 3)) [(.int .i64 (-1 : Int)), (.int .i64 (-1 : Int)), (.int .i64 (0 : Int))] 0 (fun H52 =>
 I44 [(.int .i64 (IntKind.wrap .i64 (n46 + (1 : Int))))] H52 ∧ μ45 [(.int .i64 (IntKind.wrap .i64 (n46 + (1 : Int))))] H52 < μ45 [(.int .i64 n46)] H47) H47)) ∧
 (((decide ((n46 : Int) < ((l42 : Nat) : Int)))) = false → R (.pointer (some q27)) H47)))))

def cNew.hint : Hint := ⟨fun _ => [], fun i => bif Nat.beq i 3 then [(23, .int .i64)] else bif Nat.beq i 8 then [(39, .int .i64)] else [], fun i => bif Nat.beq i 2 then some [(5, .ref)] else none, fun i => bif Nat.beq i 1 then some (.q 0 (.q 1 (.q 2 (.q 4 (.q 5 (.q 6 (.alt 3 (.alt 7 (.q 8 (.alt 9 (.q 10 .done) .stop)) .stop) (.alt 7 (.alt 3 (.q 8 (.alt 9 (.q 10 .done) .stop)) .stop) .stop)))))))) else none⟩

theorem cNew.calls (n0 : Int) (n1 : Int) (R : Value → Hp → Prop) (H : Hp) (h : cNew n0 n1 R H) : CallV Try.prog 19 #[(.int .i64 n0), (.int .i64 n1)] H R :=
  evFn_calls (hi := cNew.hint) mixed hent (cast (by kernel_rfl : cNew n0 n1 R H = evFn Try.prog ent cNew.hint 19 #[(.int .i64 n0), (.int .i64 n1)] R H) h)

/-- (*nightjar/chain.Links).On -/
def cOn (p0 : Option Addr) (n1 : Int) (R : Value → Hp → Prop) (H : Hp) : Prop :=
 guardM (decide ((n1 : Int) < (0 : Int))) false (fun kk2 H3 => optK p0 (fun q4 => ∃ (a5 : Option Addr) (l6 : Nat) (c7 : Nat), cellH H3 q4 = some (.slice a5 l6 c7) ∧ kk2 (decide ((n1 : Int) ≥ ((l6 : Nat) : Int))) H3))
 (fun r8 H9 => guardM r8 false (fun kk10 H11 => optK p0 (fun q12 => ∃ (a13 : Option Addr) (l14 : Nat) (c15 : Nat), cellH H11 q12 = some (.slice a13 l14 c15) ∧ optK a13 (fun q16 => (0 : Int) ≤ n1 ∧ n1 < ((l14 : Nat) : Int) ∧ ∃ (n17 : Int), cellH H11 (Addr.add q16 (Int.toNat n1 * 3)) = some (.int .i64 n17) ∧ kk10 ((n17 : Int) == (-1 : Int)) H11)))
 (fun r18 H19 => ((r18) = true → R (.tuple #[(.int .i64 (0 : Int)), (.bool false)]) H19) ∧
 ((r18) = false → optK p0 (fun q20 => ∃ (a21 : Option Addr) (l22 : Nat) (c23 : Nat), cellH H19 q20 = some (.slice a21 l22 c23) ∧ optK a21 (fun q24 => (0 : Int) ≤ n1 ∧ n1 < ((l22 : Nat) : Int) ∧ ∃ (n25 : Int), cellH H19 (Addr.add q24 (Int.toNat n1 * 3)) = some (.int .i64 n25) ∧ R (.tuple #[(.int .i64 n25), (.bool true)]) H19)))) H9) H

def cOn.hint : Hint := ⟨fun _ => [], fun _ => [], fun _ => none, fun _ => none⟩

theorem cOn.calls (p0 : Option Addr) (n1 : Int) (R : Value → Hp → Prop) (H : Hp) (h : cOn p0 n1 R H) : CallV Try.prog 20 #[(.pointer p0), (.int .i64 n1)] H R :=
  evFn_calls (hi := cOn.hint) mixed hent (cast (by kernel_rfl : cOn p0 n1 R H = evFn Try.prog ent cOn.hint 20 #[(.pointer p0), (.int .i64 n1)] R H) h)

/-- (*nightjar/wheel.Wheel).put -/
def wPut (p0 : Option Addr) (n1 : Int) (R : Value → Hp → Prop) (H : Hp) : Prop :=
 optK p0 (fun q2 => ∃ (a3 : Option Addr) (l4 : Nat) (c5 : Nat), cellH H (Addr.add q2 1) = some (.slice a3 l4 c5) ∧ optK a3 (fun q6 => (0 : Int) ≤ n1 ∧ n1 < ((l4 : Nat) : Int) ∧ ∃ (n7 : Int), cellH H (Addr.add q6 (Int.toNat n1 * 2)) = some (.int .u64 n7) ∧ CallV Try.prog 32 #[(.pointer p0), (.int .u64 n7)] H (fun v8 H9 => ∃ (n10 : Int), v8 = (.int .i64 n10) ∧
 optK p0 (fun q11 => ∃ (p12 : Option Addr), cellH H9 q11 = some (.pointer p12) ∧ CallV Try.prog 33 #[(.pointer p12), (.int .i64 n10), (.int .i64 n1)] H9 (fun v13 H14 => ∃ (b15 : Bool), v13 = (.bool b15) ∧
 (((decide ((n10 : Int) < (256 : Int)))) = true → optK p0 (fun q16 => (0 : Int) ≤ (iquo .i64 n10 (64 : Int)) ∧ (iquo .i64 n10 (64 : Int)) < ((4 : Nat) : Int) ∧ ∃ (n17 : Int), cellH H14 (Addr.add (Addr.add q16 3) (Int.toNat (iquo .i64 n10 (64 : Int)) * 1)) = some (.int .i64 n17) ∧ optK p0 (fun q18 => (0 : Int) ≤ (iquo .i64 n10 (64 : Int)) ∧ (iquo .i64 n10 (64 : Int)) < ((4 : Nat) : Int) ∧ wrK (Addr.add (Addr.add q18 3) (Int.toNat (iquo .i64 n10 (64 : Int)) * 1)) [(.int .i64 (IntKind.wrap .i64 (n17 + (1 : Int))))] 0 (fun H19 =>
 R (.tuple #[]) H19) H14))) ∧
 (((decide ((n10 : Int) < (256 : Int)))) = false → R (.tuple #[]) H14))))))

def wPut.hint : Hint := ⟨fun _ => [], fun _ => [], fun _ => none, fun _ => none⟩

theorem wPut.calls (p0 : Option Addr) (n1 : Int) (R : Value → Hp → Prop) (H : Hp) (h : wPut p0 n1 R H) : CallV Try.prog 21 #[(.pointer p0), (.int .i64 n1)] H R :=
  evFn_calls (hi := wPut.hint) mixed hent (cast (by kernel_rfl : wPut p0 n1 R H = evFn Try.prog ent wPut.hint 21 #[(.pointer p0), (.int .i64 n1)] R H) h)

/-- (*nightjar/chain.Links).Len -/
def cLen (p0 : Option Addr) (n1 : Int) (R : Value → Hp → Prop) (H : Hp) : Prop :=
 guardM (decide ((n1 : Int) < (0 : Int))) false (fun kk2 H3 => optK p0 (fun q4 => ∃ (a5 : Option Addr) (l6 : Nat) (c7 : Nat), cellH H3 (Addr.add q4 1) = some (.slice a5 l6 c7) ∧ kk2 (decide ((n1 : Int) ≥ ((l6 : Nat) : Int))) H3))
 (fun r8 H9 => ((r8) = true → R (.int .i64 (0 : Int)) H9) ∧
 ((r8) = false → optK p0 (fun q10 => ∃ (a11 : Option Addr) (l12 : Nat) (c13 : Nat), cellH H9 (Addr.add q10 1) = some (.slice a11 l12 c13) ∧ optK a11 (fun q14 => (0 : Int) ≤ n1 ∧ n1 < ((l12 : Nat) : Int) ∧ ∃ (n15 : Int), cellH H9 (Addr.add (Addr.add q14 (Int.toNat n1 * 3)) 2) = some (.int .i64 n15) ∧ R (.int .i64 n15) H9)))) H

def cLen.hint : Hint := ⟨fun _ => [], fun _ => [], fun _ => none, fun _ => none⟩

theorem cLen.calls (p0 : Option Addr) (n1 : Int) (R : Value → Hp → Prop) (H : Hp) (h : cLen p0 n1 R H) : CallV Try.prog 22 #[(.pointer p0), (.int .i64 n1)] H R :=
  evFn_calls (hi := cLen.hint) mixed hent (cast (by kernel_rfl : cLen p0 n1 R H = evFn Try.prog ent cLen.hint 22 #[(.pointer p0), (.int .i64 n1)] R H) h)

/-- (*nightjar/wheel.Wheel).step -/
def wStep (p0 : Option Addr) (n1 : Int) (R : Value → Hp → Prop) (H : Hp) : Prop :=
 optK p0 (fun q2 => wrK (Addr.add q2 2) [(.int .u64 n1)] 0 (fun H3 =>
 ∃ J4 : List Value → Hp → Prop, ((((((iand .u64 n1 (16777215 : Int)) : Int) == (0 : Int))) = true → CallV Try.prog 34 #[(.pointer p0), (.int .i64 (257 : Int))] H3 (fun v5 H6 => v5 = (.tuple #[]) ∧
 J4 [] H6)) ∧
 (((((iand .u64 n1 (16777215 : Int)) : Int) == (0 : Int))) = false → J4 [] H3)) ∧
 (∀ H7, J4 [] H7 →
 ∃ (I8 : List Value → Hp → Prop) (μ9 : List Value → Hp → Nat), I8 [(.int .i64 (3 : Int))] H7 ∧
 (∀ (n10 : Int), ∀ H11, I8 [(.int .i64 n10)] H11 →
 (((decide ((n10 : Int) ≥ (0 : Int)))) = true → (0 : Int) ≤ (IntKind.wrap .i64 ((6 : Int) * n10)) ∧ (((((iand .u64 n1 (IntKind.wrap .u64 ((ishl .u64 (1 : Int) (IntKind.wrap .i64 ((6 : Int) * n10))) - (1 : Int)))) : Int) == (0 : Int))) = true → (0 : Int) ≤ (IntKind.wrap .i64 ((6 : Int) * n10)) ∧ CallV Try.prog 34 #[(.pointer p0), (.int .i64 (IntKind.wrap .i64 ((IntKind.wrap .i64 (n10 * (64 : Int))) + (IntKind.wrap .i64 (iand .u64 (ishr .u64 n1 (IntKind.wrap .i64 ((6 : Int) * n10))) (63 : Int))))))] H11 (fun v12 H13 => v12 = (.tuple #[]) ∧
 I8 [(.int .i64 (IntKind.wrap .i64 (n10 - (1 : Int))))] H13 ∧ μ9 [(.int .i64 (IntKind.wrap .i64 (n10 - (1 : Int))))] H13 < μ9 [(.int .i64 n10)] H11)) ∧
 (((((iand .u64 n1 (IntKind.wrap .u64 ((ishl .u64 (1 : Int) (IntKind.wrap .i64 ((6 : Int) * n10))) - (1 : Int)))) : Int) == (0 : Int))) = false → I8 [(.int .i64 (IntKind.wrap .i64 (n10 - (1 : Int))))] H11 ∧ μ9 [(.int .i64 (IntKind.wrap .i64 (n10 - (1 : Int))))] H11 < μ9 [(.int .i64 n10)] H11)) ∧
 (((decide ((n10 : Int) ≥ (0 : Int)))) = false → R (.tuple #[]) H11)))) H)

def wStep.hint : Hint := ⟨fun _ => [], fun i => bif Nat.beq i 4 then [(4, .int .i64)] else [], fun i => bif Nat.beq i 3 then some [] else none, fun _ => none⟩

theorem wStep.calls (p0 : Option Addr) (n1 : Int) (R : Value → Hp → Prop) (H : Hp) (h : wStep p0 n1 R H) : CallV Try.prog 23 #[(.pointer p0), (.int .u64 n1)] H R :=
  evFn_calls (hi := wStep.hint) mixed hent (cast (by kernel_rfl : wStep p0 n1 R H = evFn Try.prog ent wStep.hint 23 #[(.pointer p0), (.int .u64 n1)] R H) h)

/-- (*nightjar/wheel.Wheel).next -/
def wNext (p0 : Option Addr) (n1 : Int) (R : Value → Hp → Prop) (H : Hp) : Prop :=
 ∃ (I2 : List Value → Hp → Prop) (μ3 : List Value → Hp → Nat), I2 [(.int .i64 (3 : Int)), (.int .u64 (16777216 : Int))] H ∧
 (∀ (n5 : Int) (n4 : Int), ∀ H6, I2 [(.int .i64 n5), (.int .u64 n4)] H6 →
 (((decide ((n5 : Int) ≥ (0 : Int)))) = true → optK p0 (fun q7 => (0 : Int) ≤ n5 ∧ n5 < ((4 : Nat) : Int) ∧ ∃ (n8 : Int), cellH H6 (Addr.add (Addr.add q7 3) (Int.toNat n5 * 1)) = some (.int .i64 n8) ∧ (((decide ((n8 : Int) > (0 : Int)))) = true → (0 : Int) ≤ (IntKind.wrap .i64 ((6 : Int) * n5)) ∧ I2 [(.int .i64 (IntKind.wrap .i64 (n5 - (1 : Int)))), (.int .u64 (ishl .u64 (1 : Int) (IntKind.wrap .i64 ((6 : Int) * n5))))] H6 ∧ μ3 [(.int .i64 (IntKind.wrap .i64 (n5 - (1 : Int)))), (.int .u64 (ishl .u64 (1 : Int) (IntKind.wrap .i64 ((6 : Int) * n5))))] H6 < μ3 [(.int .i64 n5), (.int .u64 n4)] H6) ∧
 (((decide ((n8 : Int) > (0 : Int)))) = false → I2 [(.int .i64 (IntKind.wrap .i64 (n5 - (1 : Int)))), (.int .u64 n4)] H6 ∧ μ3 [(.int .i64 (IntKind.wrap .i64 (n5 - (1 : Int)))), (.int .u64 n4)] H6 < μ3 [(.int .i64 n5), (.int .u64 n4)] H6))) ∧
 (((decide ((n5 : Int) ≥ (0 : Int)))) = false → ((((n4 : Int) == (16777216 : Int))) = true → optK p0 (fun q9 => ∃ (p10 : Option Addr), cellH H6 q9 = some (.pointer p10) ∧ CallV Try.prog 25 #[(.pointer p10), (.int .i64 (257 : Int))] H6 (fun v11 H12 => ∃ (a13 : Option Addr) (l14 : Nat) (c15 : Nat), v11 = (.slice a13 l14 c15) ∧
 ∃ (I16 : List Value → Hp → Prop) (μ17 : List Value → Hp → Nat), I16 [(.int .i64 (0 : Int)), (.int .u64 (18446744073709551615 : Int))] H12 ∧
 (∀ (n19 : Int) (n18 : Int), ∀ H20, I16 [(.int .i64 n19), (.int .u64 n18)] H20 →
 (((decide ((n19 : Int) < ((l14 : Nat) : Int)))) = true → optK a13 (fun q21 => (0 : Int) ≤ n19 ∧ n19 < ((l14 : Nat) : Int) ∧ ∃ (n22 : Int), cellH H20 (Addr.add q21 (Int.toNat n19 * 1)) = some (.int .i64 n22) ∧ optK p0 (fun q23 => ∃ (a24 : Option Addr) (l25 : Nat) (c26 : Nat), cellH H20 (Addr.add q23 1) = some (.slice a24 l25 c26) ∧ optK a24 (fun q27 => (0 : Int) ≤ n22 ∧ n22 < ((l25 : Nat) : Int) ∧ ∃ (n28 : Int), cellH H20 (Addr.add q27 (Int.toNat n22 * 2)) = some (.int .u64 n28) ∧ I16 [(.int .i64 (IntKind.wrap .i64 (n19 + (1 : Int)))), (.int .u64 (imin n18 n28))] H20 ∧ μ17 [(.int .i64 (IntKind.wrap .i64 (n19 + (1 : Int)))), (.int .u64 (imin n18 n28))] H20 < μ17 [(.int .i64 n19), (.int .u64 n18)] H20)))) ∧
 (((decide ((n19 : Int) < ((l14 : Nat) : Int)))) = false → optK p0 (fun q29 => ∃ (n30 : Int), cellH H20 (Addr.add q29 2) = some (.int .u64 n30) ∧ R (.int .u64 (imin (imax (iandn .u64 n18 (16777215 : Int)) (IntKind.wrap .u64 (n30 + (1 : Int)))) n1)) H20)))))) ∧
 ((((n4 : Int) == (16777216 : Int))) = false → optK p0 (fun q31 => ∃ (n32 : Int), cellH H6 (Addr.add q31 2) = some (.int .u64 n32) ∧ optK p0 (fun q33 => ∃ (n34 : Int), cellH H6 (Addr.add q33 2) = some (.int .u64 n34) ∧ guardM (decide (((IntKind.wrap .u64 ((iandn .u64 n32 (IntKind.wrap .u64 (n4 - (1 : Int)))) + n4)) : Int) < n34)) false (fun kk35 H36 => kk35 (decide (((IntKind.wrap .u64 ((iandn .u64 n32 (IntKind.wrap .u64 (n4 - (1 : Int)))) + n4)) : Int) > n1)) H36)
 (fun r37 H38 => ((r37) = true → R (.int .u64 n1) H38) ∧
 ((r37) = false → R (.int .u64 (IntKind.wrap .u64 ((iandn .u64 n32 (IntKind.wrap .u64 (n4 - (1 : Int)))) + n4))) H38)) H6)))))

def wNext.hint : Hint := ⟨fun _ => [], fun i => bif Nat.beq i 3 then [(6, .int .i64), (5, .int .u64)] else bif Nat.beq i 10 then [(33, .int .i64), (7, .int .u64)] else [], fun _ => none, fun _ => none⟩

theorem wNext.calls (p0 : Option Addr) (n1 : Int) (R : Value → Hp → Prop) (H : Hp) (h : wNext p0 n1 R H) : CallV Try.prog 24 #[(.pointer p0), (.int .u64 n1)] H R :=
  evFn_calls (hi := wNext.hint) mixed hent (cast (by kernel_rfl : wNext p0 n1 R H = evFn Try.prog ent wNext.hint 24 #[(.pointer p0), (.int .u64 n1)] R H) h)

/-- (*nightjar/chain.Links).All -/
def cAll (p0 : Option Addr) (n1 : Int) (R : Value → Hp → Prop) (H : Hp) : Prop :=
 CallV Try.prog 35 #[(.pointer p0), (.int .i64 n1)] H (fun v2 H3 => ∃ (n4 : Int) (b5 : Bool), v2 = (.tuple #[(.int .i64 n4), (.bool b5)]) ∧
 ∃ (I6 : List Value → Hp → Prop) (μ7 : List Value → Hp → Nat), I6 [(.int .i64 n4), (.slice none 0 0)] H3 ∧
 (∀ (n11 : Int) (a8 : Option Addr) (l9 : Nat) (c10 : Nat), ∀ H12, I6 [(.int .i64 n11), (.slice a8 l9 c10)] H12 →
 guardM b5 true (fun kk13 H14 => kk13 ((n11 : Int) != (-1 : Int)) H14)
 (fun r15 H16 => ((r15) = true → nw 3 #[(.int .i64 n11)] (fun r17 H18 =>
 hw Try.prog (Builtin.append_ #[28, 28] 28 #[(.slice a8 l9 c10), (.slice (some (⟨r17, 0, none⟩ : Addr)) 1 1)]) (fun v23 H22 => ∃ (a19 : Option Addr) (l20 : Nat) (c21 : Nat), v23 = (.slice a19 l20 c21) ∧ optK p0 (fun q24 => ∃ (a25 : Option Addr) (l26 : Nat) (c27 : Nat), cellH H22 q24 = some (.slice a25 l26 c27) ∧ optK a25 (fun q28 => (0 : Int) ≤ n11 ∧ n11 < ((l26 : Nat) : Int) ∧ ∃ (n29 : Int), cellH H22 (Addr.add (Addr.add q28 (Int.toNat n11 * 3)) 2) = some (.int .i64 n29) ∧ I6 [(.int .i64 n29), (.slice a19 l20 c21)] H22 ∧ μ7 [(.int .i64 n29), (.slice a19 l20 c21)] H22 < μ7 [(.int .i64 n11), (.slice a8 l9 c10)] H12))) H18) H16) ∧
 ((r15) = false → R (.slice a8 l9 c10) H16)) H12))

def cAll.hint : Hint := ⟨fun _ => [], fun i => bif Nat.beq i 3 then [(6, .int .i64), (5, .slice)] else [], fun _ => none, fun _ => none⟩

theorem cAll.calls (p0 : Option Addr) (n1 : Int) (R : Value → Hp → Prop) (H : Hp) (h : cAll p0 n1 R H) : CallV Try.prog 25 #[(.pointer p0), (.int .i64 n1)] H R :=
  evFn_calls (hi := cAll.hint) mixed hent (cast (by kernel_rfl : cAll p0 n1 R H = evFn Try.prog ent cAll.hint 25 #[(.pointer p0), (.int .i64 n1)] R H) h)

/-- (*nightjar/chain.Links).Pull -/
def cPull (p0 : Option Addr) (n1 : Int) (R : Value → Hp → Prop) (H : Hp) : Prop :=
 CallV Try.prog 20 #[(.pointer p0), (.int .i64 n1)] H (fun v2 H3 => ∃ (n4 : Int) (b5 : Bool), v2 = (.tuple #[(.int .i64 n4), (.bool b5)]) ∧
 (((!b5)) = true → R (.bool false) H3) ∧
 (((!b5)) = false → ∃ C6 : Hp → Prop, C6 H3 ∧ optK p0 (fun q7 => C6 H3 ∧ ∃ (a8 : Option Addr) (l9 : Nat) (c10 : Nat), (∀ H11, C6 H11 → cellH H11 q7 = some (.slice a8 l9 c10)) ∧ optK a8 (fun q12 => (0 : Int) ≤ n1 ∧ n1 < ((l9 : Nat) : Int) ∧ C6 H3 ∧ ∃ (n13 : Int), (∀ H14, C6 H14 → cellH H14 (Addr.add q12 (Int.toNat n1 * 3)) = some (.int .i64 n13)) ∧ ∃ (n15 : Int), (∀ H16, C6 H16 → cellH H16 (Addr.add (Addr.add q12 (Int.toNat n1 * 3)) 1) = some (.int .i64 n15)) ∧ ∃ (n17 : Int), (∀ H18, C6 H18 → cellH H18 (Addr.add (Addr.add q12 (Int.toNat n1 * 3)) 2) = some (.int .i64 n17)) ∧ optK p0 (fun q19 => C6 H3 ∧ ∃ (a20 : Option Addr) (l21 : Nat) (c22 : Nat), (∀ H23, C6 H23 → cellH H23 (Addr.add q19 1) = some (.slice a20 l21 c22)) ∧ optK a20 (fun q24 => (0 : Int) ≤ n4 ∧ n4 < ((l21 : Nat) : Int) ∧ nw 69 #[(.int .i64 (0 : Int)), (.int .i64 (0 : Int)), (.int .i64 (0 : Int))] (fun r25 H26 =>
 C6 H26 ∧ wrK (⟨r25, 0, none⟩ : Addr) [(.int .i64 n13), (.int .i64 n15), (.int .i64 n17)] 0 (fun H27 =>
 C6 H27 ∧ ∃ J28 : List Value → Hp → Prop, (∃ (n29 : Int), cellH H27 (Addr.add (⟨r25, 0, none⟩ : Addr) 1) = some (.int .i64 n29) ∧ ((((n29 : Int) == (-1 : Int))) = true → ∃ (n30 : Int), cellH H27 (Addr.add (⟨r25, 0, none⟩ : Addr) 2) = some (.int .i64 n30) ∧ wrK (Addr.add q24 (Int.toNat n4 * 3)) [(.int .i64 n30)] 0 (fun H31 =>
 J28 [] H31) H27) ∧
 ((((n29 : Int) == (-1 : Int))) = false → optK p0 (fun q32 => ∃ (a33 : Option Addr) (l34 : Nat) (c35 : Nat), cellH H27 q32 = some (.slice a33 l34 c35) ∧ ∃ (n36 : Int), cellH H27 (Addr.add (⟨r25, 0, none⟩ : Addr) 1) = some (.int .i64 n36) ∧ ∃ (n37 : Int), cellH H27 (Addr.add (⟨r25, 0, none⟩ : Addr) 2) = some (.int .i64 n37) ∧ optK a33 (fun q38 => (0 : Int) ≤ n36 ∧ n36 < ((l34 : Nat) : Int) ∧ wrK (Addr.add (Addr.add q38 (Int.toNat n36 * 3)) 2) [(.int .i64 n37)] 0 (fun H39 =>
 J28 [] H39) H27)))) ∧
 (∀ H40, J28 [] H40 →
 ∃ J41 : List Value → Hp → Prop, (∃ (n42 : Int), cellH H40 (Addr.add (⟨r25, 0, none⟩ : Addr) 2) = some (.int .i64 n42) ∧ ((((n42 : Int) == (-1 : Int))) = true → ∃ (n43 : Int), cellH H40 (Addr.add (⟨r25, 0, none⟩ : Addr) 1) = some (.int .i64 n43) ∧ wrK (Addr.add (Addr.add q24 (Int.toNat n4 * 3)) 1) [(.int .i64 n43)] 0 (fun H44 =>
 J41 [] H44) H40) ∧
 ((((n42 : Int) == (-1 : Int))) = false → optK p0 (fun q45 => ∃ (a46 : Option Addr) (l47 : Nat) (c48 : Nat), cellH H40 q45 = some (.slice a46 l47 c48) ∧ ∃ (n49 : Int), cellH H40 (Addr.add (⟨r25, 0, none⟩ : Addr) 2) = some (.int .i64 n49) ∧ ∃ (n50 : Int), cellH H40 (Addr.add (⟨r25, 0, none⟩ : Addr) 1) = some (.int .i64 n50) ∧ optK a46 (fun q51 => (0 : Int) ≤ n49 ∧ n49 < ((l47 : Nat) : Int) ∧ wrK (Addr.add (Addr.add q51 (Int.toNat n49 * 3)) 1) [(.int .i64 n50)] 0 (fun H52 =>
 J41 [] H52) H40)))) ∧
 (∀ H53, J41 [] H53 →
 ∃ (n54 : Int), cellH H53 (Addr.add (Addr.add q24 (Int.toNat n4 * 3)) 2) = some (.int .i64 n54) ∧ wrK (Addr.add (Addr.add q24 (Int.toNat n4 * 3)) 2) [(.int .i64 (IntKind.wrap .i64 (n54 - (1 : Int))))] 0 (fun H55 =>
 optK p0 (fun q56 => ∃ (a57 : Option Addr) (l58 : Nat) (c59 : Nat), cellH H55 q56 = some (.slice a57 l58 c59) ∧ optK a57 (fun q60 => (0 : Int) ≤ n1 ∧ n1 < ((l58 : Nat) : Int) ∧ wrK (Addr.add q60 (Int.toNat n1 * 3)) [(.int .i64 (-1 : Int)), (.int .i64 (-1 : Int)), (.int .i64 (-1 : Int))] 0 (fun H61 =>
 R (.bool true) H61) H55))) H53))) H26) H3))))))

def cPull.hint : Hint := ⟨fun i => bif Nat.beq i 4 then [3, 6, 10] else [], fun _ => [], fun i => bif Nat.beq i 8 then some [] else bif Nat.beq i 11 then some [] else none, fun _ => none⟩

theorem cPull.calls (p0 : Option Addr) (n1 : Int) (R : Value → Hp → Prop) (H : Hp) (h : cPull p0 n1 R H) : CallV Try.prog 26 #[(.pointer p0), (.int .i64 n1)] H R :=
  evFn_calls (hi := cPull.hint) mixed hent (cast (by kernel_rfl : cPull p0 n1 R H = evFn Try.prog ent cPull.hint 26 #[(.pointer p0), (.int .i64 n1)] R H) h)

/-- cmp.Or[int] -/
def cmpOr (a0 : Option Addr) (l1 : Nat) (_c2 : Nat) (R : Value → Hp → Prop) (H : Hp) : Prop :=
 ∃ (I3 : List Value → Hp → Prop) (μ4 : List Value → Hp → Nat), I3 [(.int .i64 (0 : Int))] H ∧
 (∀ (n5 : Int), ∀ H6, I3 [(.int .i64 n5)] H6 →
 (((decide ((n5 : Int) < ((l1 : Nat) : Int)))) = true → optK a0 (fun q7 => (0 : Int) ≤ n5 ∧ n5 < ((l1 : Nat) : Int) ∧ ∃ (n8 : Int), cellH H6 (Addr.add q7 (Int.toNat n5 * 1)) = some (.int .i64 n8) ∧ ((((n8 : Int) != (0 : Int))) = true → R (.int .i64 n8) H6) ∧
 ((((n8 : Int) != (0 : Int))) = false → I3 [(.int .i64 (IntKind.wrap .i64 (n5 + (1 : Int))))] H6 ∧ μ4 [(.int .i64 (IntKind.wrap .i64 (n5 + (1 : Int))))] H6 < μ4 [(.int .i64 n5)] H6))) ∧
 (((decide ((n5 : Int) < ((l1 : Nat) : Int)))) = false → R (.int .i64 (0 : Int)) H6))

def cmpOr.hint : Hint := ⟨fun _ => [], fun i => bif Nat.beq i 3 then [(8, .int .i64)] else [], fun _ => none, fun _ => none⟩

theorem cmpOr.calls (a0 : Option Addr) (l1 : Nat) (c2 : Nat) (R : Value → Hp → Prop) (H : Hp) (h : cmpOr a0 l1 c2 R H) : CallV Try.prog 29 #[(.slice a0 l1 c2)] H R :=
  evFn_calls (hi := cmpOr.hint) mixed hent (cast (by kernel_rfl : cmpOr a0 l1 c2 R H = evFn Try.prog ent cmpOr.hint 29 #[(.slice a0 l1 c2)] R H) h)

/-- cmp.Compare[uint64] -/
def cmpU (n0 : Int) (n1 : Int) (R : Value → Hp → Prop) (H : Hp) : Prop :=
 CallV Try.prog 38 #[(.int .u64 n0)] H (fun v2 H3 => ∃ (b4 : Bool), v2 = (.bool b4) ∧
 CallV Try.prog 38 #[(.int .u64 n1)] H3 (fun v5 H6 => ∃ (b7 : Bool), v5 = (.bool b7) ∧
 ((b4) = true → ((b7) = true → R (.int .i64 (0 : Int)) H6) ∧
 ((b7) = false → R (.int .i64 (-1 : Int)) H6)) ∧
 ((b4) = false → ((b7) = true → R (.int .i64 (1 : Int)) H6) ∧
 ((b7) = false → (((decide ((n0 : Int) < n1))) = true → R (.int .i64 (-1 : Int)) H6) ∧
 (((decide ((n0 : Int) < n1))) = false → (((decide ((n0 : Int) > n1))) = true → R (.int .i64 (1 : Int)) H6) ∧
 (((decide ((n0 : Int) > n1))) = false → R (.int .i64 (0 : Int)) H6))))))

def cmpU.hint : Hint := ⟨fun _ => [], fun _ => [], fun _ => none, fun _ => none⟩

theorem cmpU.calls (n0 : Int) (n1 : Int) (R : Value → Hp → Prop) (H : Hp) (h : cmpU n0 n1 R H) : CallV Try.prog 30 #[(.int .u64 n0), (.int .u64 n1)] H R :=
  evFn_calls (hi := cmpU.hint) mixed hent (cast (by kernel_rfl : cmpU n0 n1 R H = evFn Try.prog ent cmpU.hint 30 #[(.int .u64 n0), (.int .u64 n1)] R H) h)

/-- cmp.Compare[int] -/
def cmpI (n0 : Int) (n1 : Int) (R : Value → Hp → Prop) (H : Hp) : Prop :=
 CallV Try.prog 39 #[(.int .i64 n0)] H (fun v2 H3 => ∃ (b4 : Bool), v2 = (.bool b4) ∧
 CallV Try.prog 39 #[(.int .i64 n1)] H3 (fun v5 H6 => ∃ (b7 : Bool), v5 = (.bool b7) ∧
 ((b4) = true → ((b7) = true → R (.int .i64 (0 : Int)) H6) ∧
 ((b7) = false → R (.int .i64 (-1 : Int)) H6)) ∧
 ((b4) = false → ((b7) = true → R (.int .i64 (1 : Int)) H6) ∧
 ((b7) = false → (((decide ((n0 : Int) < n1))) = true → R (.int .i64 (-1 : Int)) H6) ∧
 (((decide ((n0 : Int) < n1))) = false → (((decide ((n0 : Int) > n1))) = true → R (.int .i64 (1 : Int)) H6) ∧
 (((decide ((n0 : Int) > n1))) = false → R (.int .i64 (0 : Int)) H6))))))

def cmpI.hint : Hint := ⟨fun _ => [], fun _ => [], fun _ => none, fun _ => none⟩

theorem cmpI.calls (n0 : Int) (n1 : Int) (R : Value → Hp → Prop) (H : Hp) (h : cmpI n0 n1 R H) : CallV Try.prog 31 #[(.int .i64 n0), (.int .i64 n1)] H R :=
  evFn_calls (hi := cmpI.hint) mixed hent (cast (by kernel_rfl : cmpI n0 n1 R H = evFn Try.prog ent cmpI.hint 31 #[(.int .i64 n0), (.int .i64 n1)] R H) h)

/-- cmp.isNaN[uint64] -/
def nanU (n0 : Int) (R : Value → Hp → Prop) (H : Hp) : Prop :=
 R (.bool ((n0 : Int) != n0)) H

def nanU.hint : Hint := ⟨fun _ => [], fun _ => [], fun _ => none, fun _ => none⟩

theorem nanU.calls (n0 : Int) (R : Value → Hp → Prop) (H : Hp) (h : nanU n0 R H) : CallV Try.prog 38 #[(.int .u64 n0)] H R :=
  evFn_calls (hi := nanU.hint) mixed hent (cast (by kernel_rfl : nanU n0 R H = evFn Try.prog ent nanU.hint 38 #[(.int .u64 n0)] R H) h)

/-- cmp.isNaN[int] -/
def nanI (n0 : Int) (R : Value → Hp → Prop) (H : Hp) : Prop :=
 R (.bool ((n0 : Int) != n0)) H

def nanI.hint : Hint := ⟨fun _ => [], fun _ => [], fun _ => none, fun _ => none⟩

theorem nanI.calls (n0 : Int) (R : Value → Hp → Prop) (H : Hp) (h : nanI n0 R H) : CallV Try.prog 39 #[(.int .i64 n0)] H R :=
  evFn_calls (hi := nanI.hint) mixed hent (cast (by kernel_rfl : nanI n0 R H = evFn Try.prog ent nanI.hint 39 #[(.int .i64 n0)] R H) h)

/-- (*nightjar/wheel.Wheel).place -/
def wPlace (p0 : Option Addr) (n1 : Int) (R : Value → Hp → Prop) (H : Hp) : Prop :=
 optK p0 (fun q2 => ∃ (n3 : Int), cellH H (Addr.add q2 2) = some (.int .u64 n3) ∧ (((decide ((n1 : Int) ≤ n3))) = true → R (.int .i64 (256 : Int)) H) ∧
 (((decide ((n1 : Int) ≤ n3))) = false → optK p0 (fun q4 => ∃ (n5 : Int), cellH H (Addr.add q4 2) = some (.int .u64 n5) ∧ ∃ (I6 : List Value → Hp → Prop) (μ7 : List Value → Hp → Nat), I6 [(.int .i64 (0 : Int))] H ∧
 (∀ (n8 : Int), ∀ H9, I6 [(.int .i64 n8)] H9 →
 (((decide ((n8 : Int) < (4 : Int)))) = true → (0 : Int) ≤ (IntKind.wrap .i64 ((6 : Int) * (IntKind.wrap .i64 (n8 + (1 : Int))))) ∧ (((decide (((IntKind.wrap .u64 (n1 - n5)) : Int) < (ishl .u64 (1 : Int) (IntKind.wrap .i64 ((6 : Int) * (IntKind.wrap .i64 (n8 + (1 : Int))))))))) = true → (0 : Int) ≤ (IntKind.wrap .i64 ((6 : Int) * n8)) ∧ R (.int .i64 (IntKind.wrap .i64 ((IntKind.wrap .i64 (n8 * (64 : Int))) + (IntKind.wrap .i64 (iand .u64 (ishr .u64 n1 (IntKind.wrap .i64 ((6 : Int) * n8))) (63 : Int)))))) H9) ∧
 (((decide (((IntKind.wrap .u64 (n1 - n5)) : Int) < (ishl .u64 (1 : Int) (IntKind.wrap .i64 ((6 : Int) * (IntKind.wrap .i64 (n8 + (1 : Int))))))))) = false → I6 [(.int .i64 (IntKind.wrap .i64 (n8 + (1 : Int))))] H9 ∧ μ7 [(.int .i64 (IntKind.wrap .i64 (n8 + (1 : Int))))] H9 < μ7 [(.int .i64 n8)] H9)) ∧
 (((decide ((n8 : Int) < (4 : Int)))) = false → R (.int .i64 (257 : Int)) H9)))))

def wPlace.hint : Hint := ⟨fun _ => [], fun i => bif Nat.beq i 5 then [(19, .int .i64)] else [], fun _ => none, fun _ => none⟩

theorem wPlace.calls (p0 : Option Addr) (n1 : Int) (R : Value → Hp → Prop) (H : Hp) (h : wPlace p0 n1 R H) : CallV Try.prog 32 #[(.pointer p0), (.int .u64 n1)] H R :=
  evFn_calls (hi := wPlace.hint) mixed hent (cast (by kernel_rfl : wPlace p0 n1 R H = evFn Try.prog ent wPlace.hint 32 #[(.pointer p0), (.int .u64 n1)] R H) h)

/-- (*nightjar/chain.Links).Push -/
def cPush (p0 : Option Addr) (n1 : Int) (n2 : Int) (R : Value → Hp → Prop) (H : Hp) : Prop :=
 guardM (decide ((n1 : Int) < (0 : Int))) false (fun kk3 H4 => optK p0 (fun q5 => ∃ (a6 : Option Addr) (l7 : Nat) (c8 : Nat), cellH H4 (Addr.add q5 1) = some (.slice a6 l7 c8) ∧ kk3 (decide ((n1 : Int) ≥ ((l7 : Nat) : Int))) H4))
 (fun r9 H10 => guardM r9 false (fun kk11 H12 => kk11 (decide ((n2 : Int) < (0 : Int))) H12)
 (fun r13 H14 => guardM r13 false (fun kk15 H16 => optK p0 (fun q17 => ∃ (a18 : Option Addr) (l19 : Nat) (c20 : Nat), cellH H16 q17 = some (.slice a18 l19 c20) ∧ kk15 (decide ((n2 : Int) ≥ ((l19 : Nat) : Int))) H16))
 (fun r21 H22 => guardM r21 false (fun kk23 H24 => optK p0 (fun q25 => ∃ (a26 : Option Addr) (l27 : Nat) (c28 : Nat), cellH H24 q25 = some (.slice a26 l27 c28) ∧ optK a26 (fun q29 => (0 : Int) ≤ n2 ∧ n2 < ((l27 : Nat) : Int) ∧ ∃ (n30 : Int), cellH H24 (Addr.add q29 (Int.toNat n2 * 3)) = some (.int .i64 n30) ∧ kk23 ((n30 : Int) != (-1 : Int)) H24)))
 (fun r31 H32 => ((r31) = true → R (.bool false) H32) ∧
 ((r31) = false → optK p0 (fun q33 => ∃ (a34 : Option Addr) (l35 : Nat) (c36 : Nat), cellH H32 (Addr.add q33 1) = some (.slice a34 l35 c36) ∧ optK a34 (fun q37 => (0 : Int) ≤ n1 ∧ n1 < ((l35 : Nat) : Int) ∧ optK p0 (fun q38 => ∃ (a39 : Option Addr) (l40 : Nat) (c41 : Nat), cellH H32 q38 = some (.slice a39 l40 c41) ∧ ∃ (n42 : Int), cellH H32 (Addr.add (Addr.add q37 (Int.toNat n1 * 3)) 1) = some (.int .i64 n42) ∧ optK a39 (fun q43 => (0 : Int) ≤ n2 ∧ n2 < ((l40 : Nat) : Int) ∧ wrK (Addr.add q43 (Int.toNat n2 * 3)) [(.int .i64 n1), (.int .i64 n42), (.int .i64 (-1 : Int))] 0 (fun H44 =>
 ∃ J45 : List Value → Hp → Prop, (∃ (n46 : Int), cellH H44 (Addr.add (Addr.add q37 (Int.toNat n1 * 3)) 1) = some (.int .i64 n46) ∧ ((((n46 : Int) == (-1 : Int))) = true → wrK (Addr.add q37 (Int.toNat n1 * 3)) [(.int .i64 n2)] 0 (fun H47 =>
 J45 [] H47) H44) ∧
 ((((n46 : Int) == (-1 : Int))) = false → optK p0 (fun q48 => ∃ (a49 : Option Addr) (l50 : Nat) (c51 : Nat), cellH H44 q48 = some (.slice a49 l50 c51) ∧ ∃ (n52 : Int), cellH H44 (Addr.add (Addr.add q37 (Int.toNat n1 * 3)) 1) = some (.int .i64 n52) ∧ optK a49 (fun q53 => (0 : Int) ≤ n52 ∧ n52 < ((l50 : Nat) : Int) ∧ wrK (Addr.add (Addr.add q53 (Int.toNat n52 * 3)) 2) [(.int .i64 n2)] 0 (fun H54 =>
 J45 [] H54) H44)))) ∧
 (∀ H55, J45 [] H55 →
 wrK (Addr.add (Addr.add q37 (Int.toNat n1 * 3)) 1) [(.int .i64 n2)] 0 (fun H56 =>
 ∃ (n57 : Int), cellH H56 (Addr.add (Addr.add q37 (Int.toNat n1 * 3)) 2) = some (.int .i64 n57) ∧ wrK (Addr.add (Addr.add q37 (Int.toNat n1 * 3)) 2) [(.int .i64 (IntKind.wrap .i64 (n57 + (1 : Int))))] 0 (fun H58 =>
 R (.bool true) H58) H56) H55)) H32)))))) H22) H14) H10) H

def cPush.hint : Hint := ⟨fun _ => [], fun _ => [], fun i => bif Nat.beq i 8 then some [] else none, fun _ => none⟩

theorem cPush.calls (p0 : Option Addr) (n1 : Int) (n2 : Int) (R : Value → Hp → Prop) (H : Hp) (h : cPush p0 n1 n2 R H) : CallV Try.prog 33 #[(.pointer p0), (.int .i64 n1), (.int .i64 n2)] H R :=
  evFn_calls (hi := cPush.hint) mixed hent (cast (by kernel_rfl : cPush p0 n1 n2 R H = evFn Try.prog ent cPush.hint 33 #[(.pointer p0), (.int .i64 n1), (.int .i64 n2)] R H) h)

/-- (*nightjar/wheel.Wheel).again -/
def wAgain (p0 : Option Addr) (n1 : Int) (R : Value → Hp → Prop) (H : Hp) : Prop :=
 optK p0 (fun q2 => ∃ (p3 : Option Addr), cellH H q2 = some (.pointer p3) ∧ CallV Try.prog 25 #[(.pointer p3), (.int .i64 n1)] H (fun v4 H5 => ∃ (a6 : Option Addr) (l7 : Nat) (c8 : Nat), v4 = (.slice a6 l7 c8) ∧
 ∃ (I9 : List Value → Hp → Prop) (μ10 : List Value → Hp → Nat), I9 [(.int .i64 (0 : Int))] H5 ∧
 (∀ (n11 : Int), ∀ H12, I9 [(.int .i64 n11)] H12 →
 (((decide ((n11 : Int) < ((l7 : Nat) : Int)))) = true → optK a6 (fun q13 => (0 : Int) ≤ n11 ∧ n11 < ((l7 : Nat) : Int) ∧ ∃ (n14 : Int), cellH H12 (Addr.add q13 (Int.toNat n11 * 1)) = some (.int .i64 n14) ∧ CallV Try.prog 17 #[(.pointer p0), (.int .i64 n14)] H12 (fun v15 H16 => ∃ (b17 : Bool), v15 = (.bool b17) ∧
 CallV Try.prog 21 #[(.pointer p0), (.int .i64 n14)] H16 (fun v18 H19 => v18 = (.tuple #[]) ∧
 I9 [(.int .i64 (IntKind.wrap .i64 (n11 + (1 : Int))))] H19 ∧ μ10 [(.int .i64 (IntKind.wrap .i64 (n11 + (1 : Int))))] H19 < μ10 [(.int .i64 n11)] H12)))) ∧
 (((decide ((n11 : Int) < ((l7 : Nat) : Int)))) = false → R (.tuple #[]) H12))))

def wAgain.hint : Hint := ⟨fun _ => [], fun i => bif Nat.beq i 1 then [(13, .int .i64)] else [], fun _ => none, fun _ => none⟩

theorem wAgain.calls (p0 : Option Addr) (n1 : Int) (R : Value → Hp → Prop) (H : Hp) (h : wAgain p0 n1 R H) : CallV Try.prog 34 #[(.pointer p0), (.int .i64 n1)] H R :=
  evFn_calls (hi := wAgain.hint) mixed hent (cast (by kernel_rfl : wAgain p0 n1 R H = evFn Try.prog ent wAgain.hint 34 #[(.pointer p0), (.int .i64 n1)] R H) h)

/-- (*nightjar/chain.Links).First -/
def cFirst (p0 : Option Addr) (n1 : Int) (R : Value → Hp → Prop) (H : Hp) : Prop :=
 CallV Try.prog 22 #[(.pointer p0), (.int .i64 n1)] H (fun v2 H3 => ∃ (n4 : Int), v2 = (.int .i64 n4) ∧
 ((((n4 : Int) == (0 : Int))) = true → R (.tuple #[(.int .i64 (0 : Int)), (.bool false)]) H3) ∧
 ((((n4 : Int) == (0 : Int))) = false → optK p0 (fun q5 => ∃ (a6 : Option Addr) (l7 : Nat) (c8 : Nat), cellH H3 (Addr.add q5 1) = some (.slice a6 l7 c8) ∧ optK a6 (fun q9 => (0 : Int) ≤ n1 ∧ n1 < ((l7 : Nat) : Int) ∧ ∃ (n10 : Int), cellH H3 (Addr.add q9 (Int.toNat n1 * 3)) = some (.int .i64 n10) ∧ R (.tuple #[(.int .i64 n10), (.bool true)]) H3))))

def cFirst.hint : Hint := ⟨fun _ => [], fun _ => [], fun _ => none, fun _ => none⟩

theorem cFirst.calls (p0 : Option Addr) (n1 : Int) (R : Value → Hp → Prop) (H : Hp) (h : cFirst p0 n1 R H) : CallV Try.prog 35 #[(.pointer p0), (.int .i64 n1)] H R :=
  evFn_calls (hi := cFirst.hint) mixed hent (cast (by kernel_rfl : cFirst p0 n1 R H = evFn Try.prog ent cFirst.hint 35 #[(.pointer p0), (.int .i64 n1)] R H) h)

/-- nightjar/nightjarlaw07.alive -/
def l7alive  (R : Value → Hp → Prop) (H : Hp) : Prop :=
 CallV Try.prog 10 #[(.int .i64 (4 : Int)), (.int .u64 (100 : Int))] H (fun v0 H1 => ∃ (p2 : Option Addr), v0 = (.pointer p2) ∧
 guardM (Option.isNone p2) false (fun kk3 H4 => CallV Try.prog 11 #[(.pointer p2), (.int .i64 (0 : Int)), (.int .u64 (5000 : Int)), (.int .u64 (2 : Int))] H4 (fun v5 H6 => ∃ (b7 : Bool), v5 = (.bool b7) ∧
 kk3 (!b7) H6))
 (fun r8 H9 => guardM r8 false (fun kk10 H11 => CallV Try.prog 11 #[(.pointer p2), (.int .i64 (1 : Int)), (.int .u64 (5000 : Int)), (.int .u64 (1 : Int))] H11 (fun v12 H13 => ∃ (b14 : Bool), v12 = (.bool b14) ∧
 kk10 (!b14) H13))
 (fun r15 H16 => guardM r15 false (fun kk17 H18 => CallV Try.prog 11 #[(.pointer p2), (.int .i64 (2 : Int)), (.int .u64 (1099511627776 : Int)), (.int .u64 (0 : Int))] H18 (fun v19 H20 => ∃ (b21 : Bool), v19 = (.bool b21) ∧
 kk17 (!b21) H20))
 (fun r22 H23 => guardM r22 false (fun kk24 H25 => CallV Try.prog 11 #[(.pointer p2), (.int .i64 (2 : Int)), (.int .u64 (7 : Int)), (.int .u64 (0 : Int))] H25 (fun v26 H27 => ∃ (b28 : Bool), v26 = (.bool b28) ∧
 kk24 b28 H27))
 (fun r29 H30 => guardM r29 false (fun kk31 H32 => CallV Try.prog 11 #[(.pointer p2), (.int .i64 (3 : Int)), (.int .u64 (50 : Int)), (.int .u64 (9 : Int))] H32 (fun v33 H34 => ∃ (b35 : Bool), v33 = (.bool b35) ∧
 kk31 (!b35) H34))
 (fun r36 H37 => ((r36) = true → R (.bool false) H37) ∧
 ((r36) = false → CallV Try.prog 12 #[(.pointer p2), (.int .u64 (4999 : Int))] H37 (fun v38 H39 => ∃ (a40 : Option Addr) (l41 : Nat) (c42 : Nat), v38 = (.slice a40 l41 c42) ∧
 CallV Try.prog 12 #[(.pointer p2), (.int .u64 (5000 : Int))] H39 (fun v43 H44 => ∃ (a45 : Option Addr) (l46 : Nat) (c47 : Nat), v43 = (.slice a45 l46 c47) ∧
 CallV Try.prog 16 #[(.pointer p2), (.int .i64 (2 : Int))] H44 (fun v48 H49 => ∃ (n50 : Int) (n51 : Int) (b52 : Bool), v48 = (.tuple #[(.int .u64 n50), (.int .u64 n51), (.bool b52)]) ∧
 CallV Try.prog 18 #[(.pointer p2)] H49 (fun v53 H54 => ∃ (n55 : Int) (b56 : Bool), v53 = (.tuple #[(.int .u64 n55), (.bool b56)]) ∧
 CallV Try.prog 17 #[(.pointer p2), (.int .i64 (2 : Int))] H54 (fun v57 H58 => ∃ (b59 : Bool), v57 = (.bool b59) ∧
 nw 3 #[(.int .i64 (3 : Int))] (fun r60 H61 =>
 CallV Try.prog 14 #[(.slice a40 l41 c42), (.slice (some (⟨r60, 0, none⟩ : Addr)) 1 1)] H61 (fun v62 H63 => ∃ (b64 : Bool), v62 = (.bool b64) ∧
 guardM b64 true (fun kk65 H66 => nw 3 #[(.int .i64 (1 : Int)), (.int .i64 (0 : Int))] (fun r67 H68 =>
 CallV Try.prog 14 #[(.slice a45 l46 c47), (.slice (some (⟨r67, 0, none⟩ : Addr)) 2 2)] H68 (fun v69 H70 => ∃ (b71 : Bool), v69 = (.bool b71) ∧
 kk65 b71 H70)) H66)
 (fun r72 H73 => guardM r72 true (fun kk74 H75 => kk74 b52 H75)
 (fun r76 H77 => guardM r76 true (fun kk78 H79 => kk78 ((n50 : Int) == (1099511627776 : Int)) H79)
 (fun r80 H81 => guardM r80 true (fun kk82 H83 => kk82 ((n51 : Int) == (0 : Int)) H83)
 (fun r84 H85 => guardM r84 true (fun kk86 H87 => kk86 b56 H87)
 (fun r88 H89 => guardM r88 true (fun kk90 H91 => kk90 ((n55 : Int) == (1099511627776 : Int)) H91)
 (fun r92 H93 => guardM r92 true (fun kk94 H95 => kk94 b59 H95)
 (fun r96 H97 => guardM r96 true (fun kk98 H99 => CallV Try.prog 13 #[(.pointer p2)] H99 (fun v100 H101 => ∃ (n102 : Int), v100 = (.int .i64 n102) ∧
 kk98 ((n102 : Int) == (0 : Int)) H101))
 (fun r103 H104 => guardM r103 true (fun kk105 H106 => CallV Try.prog 15 #[(.pointer p2)] H106 (fun v107 H108 => ∃ (n109 : Int), v107 = (.int .u64 n109) ∧
 kk105 ((n109 : Int) == (5000 : Int)) H108))
 (fun r110 H111 => R (.bool r110) H111) H104) H97) H93) H89) H85) H81) H77) H73) H63)) H58))))))) H30) H23) H16) H9) H1)

def l7alive.hint : Hint := ⟨fun _ => [], fun _ => [], fun _ => none, fun _ => none⟩

theorem l7alive.calls  (R : Value → Hp → Prop) (H : Hp) (h : l7alive  R H) : CallV Try.prog 9 #[] H R :=
  evFn_calls (hi := l7alive.hint) mixed hent (cast (by kernel_rfl : l7alive  R H = evFn Try.prog ent l7alive.hint 9 #[] R H) h)

/-- nightjar/nightjarlaw07.WheelFar -/
def l7Far (n0 : Int) (n1 : Int) (a2 : Option Addr) (l3 : Nat) (_c4 : Nat) (R : Value → Hp → Prop) (H : Hp) : Prop :=
 CallV Try.prog 9 #[] H (fun v5 H6 => ∃ (b7 : Bool), v5 = (.bool b7) ∧
 (((!b7)) = true → R (.bool false) H6) ∧
 (((!b7)) = false → (((decide ((((l3 : Nat) : Int) : Int) > (40 : Int)))) = true → R (.bool true) H6) ∧
 (((decide ((((l3 : Nat) : Int) : Int) > (40 : Int)))) = false → CallV Try.prog 10 #[(.int .i64 (1 : Int)), (.int .u64 n0)] H6 (fun v8 H9 => ∃ (p10 : Option Addr), v8 = (.pointer p10) ∧
 CallV Try.prog 11 #[(.pointer p10), (.int .i64 (0 : Int)), (.int .u64 n1), (.int .u64 (0 : Int))] H9 (fun v11 H12 => ∃ (b13 : Bool), v11 = (.bool b13) ∧
 (((!b13)) = true → R (.bool false) H12) ∧
 (((!b13)) = false → ∃ (I14 : List Value → Hp → Prop) (μ15 : List Value → Hp → Nat), I14 [(.int .i64 (0 : Int)), (.bool false), (.int .u64 n0)] H12 ∧
 (∀ (n18 : Int) (b17 : Bool) (n16 : Int), ∀ H19, I14 [(.int .i64 n18), (.bool b17), (.int .u64 n16)] H19 →
 (((decide ((n18 : Int) < ((l3 : Nat) : Int)))) = true → optK a2 (fun q20 => (0 : Int) ≤ n18 ∧ n18 < ((l3 : Nat) : Int) ∧ ∃ (n21 : Int), cellH H19 (Addr.add q20 (Int.toNat n18 * 1)) = some (.int .u64 n21) ∧ CallV Try.prog 12 #[(.pointer p10), (.int .u64 n21)] H19 (fun v22 H23 => ∃ (a24 : Option Addr) (l25 : Nat) (c26 : Nat), v22 = (.slice a24 l25 c26) ∧
 guardM (decide ((n1 : Int) ≤ (imax n16 n21))) true (fun kk27 H28 => kk27 (!b17) H28)
 (fun r29 H30 => guardM (!((((((l25 : Nat) : Int) : Int) == (1 : Int)) : Bool) == r29)) false (fun kk31 H32 => CallV Try.prog 15 #[(.pointer p10)] H32 (fun v33 H34 => ∃ (n35 : Int), v33 = (.int .u64 n35) ∧
 kk31 ((n35 : Int) != (imax n16 n21)) H34))
 (fun r36 H37 => ((r36) = true → R (.bool false) H37) ∧
 ((r36) = false → guardM b17 false (fun kk38 H39 => kk38 (decide ((n1 : Int) ≤ (imax n16 n21))) H39)
 (fun r40 H41 => CallV Try.prog 16 #[(.pointer p10), (.int .i64 (0 : Int))] H41 (fun v42 H43 => ∃ (n44 : Int) (n45 : Int) (b46 : Bool), v42 = (.tuple #[(.int .u64 n44), (.int .u64 n45), (.bool b46)]) ∧
 ((((b46 : Bool) == r40)) = true → R (.bool false) H43) ∧
 ((((b46 : Bool) == r40)) = false → I14 [(.int .i64 (IntKind.wrap .i64 (n18 + (1 : Int)))), (.bool r40), (.int .u64 (imax n16 n21))] H43 ∧ μ15 [(.int .i64 (IntKind.wrap .i64 (n18 + (1 : Int)))), (.bool r40), (.int .u64 (imax n16 n21))] H43 < μ15 [(.int .i64 n18), (.bool b17), (.int .u64 n16)] H19))) H37)) H30) H23))) ∧
 (((decide ((n18 : Int) < ((l3 : Nat) : Int)))) = false → CallV Try.prog 12 #[(.pointer p10), (.int .u64 (18446744073709551615 : Int))] H19 (fun v47 H48 => ∃ (a49 : Option Addr) (l50 : Nat) (c51 : Nat), v47 = (.slice a49 l50 c51) ∧
 guardM ((((((l50 : Nat) : Int) : Int) == (1 : Int)) : Bool) == (!b17)) true (fun kk52 H53 => CallV Try.prog 13 #[(.pointer p10)] H53 (fun v54 H55 => ∃ (n56 : Int), v54 = (.int .i64 n56) ∧
 kk52 ((n56 : Int) == (0 : Int)) H55))
 (fun r57 H58 => R (.bool r57) H58) H48)))))))))

def l7Far.hint : Hint := ⟨fun _ => [], fun i => bif Nat.beq i 11 then [(32, .int .i64), (8, .bool), (9, .int .u64)] else [], fun _ => none, fun _ => none⟩

theorem l7Far.calls (n0 : Int) (n1 : Int) (a2 : Option Addr) (l3 : Nat) (c4 : Nat) (R : Value → Hp → Prop) (H : Hp) (h : l7Far n0 n1 a2 l3 c4 R H) : CallV Try.prog 8 #[(.int .u64 n0), (.int .u64 n1), (.slice a2 l3 c4)] H R :=
  evFn_calls (hi := l7Far.hint) mixed hent (cast (by kernel_rfl : l7Far n0 n1 a2 l3 c4 R H = evFn Try.prog ent l7Far.hint 8 #[(.int .u64 n0), (.int .u64 n1), (.slice a2 l3 c4)] R H) h)

/-- nightjar/nightjarlaw07.WheelOnce -/
def l7Once (n0 : Int) (a1 : Option Addr) (l2 : Nat) (_c3 : Nat) (a4 : Option Addr) (l5 : Nat) (c6 : Nat) (R : Value → Hp → Prop) (H : Hp) : Prop :=
 CallV Try.prog 9 #[] H (fun v7 H8 => ∃ (b9 : Bool), v7 = (.bool b9) ∧
 (((!b9)) = true → R (.bool false) H8) ∧
 (((!b9)) = false → guardM (decide ((((l2 : Nat) : Int) : Int) > (64 : Int))) false (fun kk10 H11 => kk10 (decide ((((l5 : Nat) : Int) : Int) > (60 : Int))) H11)
 (fun r12 H13 => guardM r12 false (fun kk14 H15 => kk14 (decide ((n0 : Int) > (4611686018427387904 : Int))) H15)
 (fun r16 H17 => ((r16) = true → R (.bool true) H17) ∧
 ((r16) = false → CallV Try.prog 10 #[(.int .i64 ((l2 : Nat) : Int)), (.int .u64 n0)] H17 (fun v18 H19 => ∃ (p20 : Option Addr), v18 = (.pointer p20) ∧
 ∃ (I21 : List Value → Hp → Prop) (μ22 : List Value → Hp → Nat), I21 [(.int .i64 (0 : Int))] H19 ∧
 (∀ (n23 : Int), ∀ H24, I21 [(.int .i64 n23)] H24 →
 (((decide ((n23 : Int) < ((l2 : Nat) : Int)))) = true → optK a1 (fun q25 => (0 : Int) ≤ n23 ∧ n23 < ((l2 : Nat) : Int) ∧ ∃ (n26 : Int), cellH H24 (Addr.add q25 (Int.toNat n23 * 1)) = some (.int .u64 n26) ∧ CallV Try.prog 11 #[(.pointer p20), (.int .i64 n23), (.int .u64 (IntKind.wrap .u64 (n0 + (iand .u64 n26 (4611686018427387903 : Int))))), (.int .u64 (IntKind.wrap .u64 n23))] H24 (fun v27 H28 => ∃ (b29 : Bool), v27 = (.bool b29) ∧
 (((!b29)) = true → R (.bool false) H28) ∧
 (((!b29)) = false → I21 [(.int .i64 (IntKind.wrap .i64 (n23 + (1 : Int))))] H28 ∧ μ22 [(.int .i64 (IntKind.wrap .i64 (n23 + (1 : Int))))] H28 < μ22 [(.int .i64 n23)] H24)))) ∧
 (((decide ((n23 : Int) < ((l2 : Nat) : Int)))) = false → hw Try.prog (Instr.makeSlice 28 (.int .i64 ((l2 : Nat) : Int)) (.int .i64 ((l2 : Nat) : Int))) (fun v34 H33 => ∃ (a30 : Option Addr) (l31 : Nat) (c32 : Nat), v34 = (.slice a30 l31 c32) ∧ nw 22 #[(.int .u64 (0 : Int))] (fun r35 H36 =>
 hw Try.prog (Builtin.append_ #[23, 23] 23 #[(.slice (some (⟨r35, 0, none⟩ : Addr)) 1 1), (.slice a4 l5 c6)]) (fun v41 H40 => ∃ (a37 : Option Addr) (l38 : Nat) (c39 : Nat), v41 = (.slice a37 l38 c39) ∧ nw 22 #[(.int .u64 (9223372036854775807 : Int))] (fun r42 H43 =>
 hw Try.prog (Builtin.append_ #[23, 23] 23 #[(.slice a37 l38 c39), (.slice (some (⟨r42, 0, none⟩ : Addr)) 1 1)]) (fun v48 H47 => ∃ (a44 : Option Addr) (l45 : Nat) (c46 : Nat), v48 = (.slice a44 l45 c46) ∧ ∃ (I49 : List Value → Hp → Prop) (μ50 : List Value → Hp → Nat), I49 [(.int .u64 n0), (.int .i64 (0 : Int))] H47 ∧
 (∀ (n52 : Int) (n51 : Int), ∀ H53, I49 [(.int .u64 n52), (.int .i64 n51)] H53 →
 (((decide ((n51 : Int) < ((l45 : Nat) : Int)))) = true → optK a44 (fun q54 => (0 : Int) ≤ n51 ∧ n51 < ((l45 : Nat) : Int) ∧ ∃ (n55 : Int), cellH H53 (Addr.add q54 (Int.toNat n51 * 1)) = some (.int .u64 n55) ∧ ∃ J56 : List Value → Hp → Prop, (((((n55 : Int) == (9223372036854775807 : Int))) = true → J56 [(.int .u64 (9223372036854775807 : Int))] H53) ∧
 ((((n55 : Int) == (9223372036854775807 : Int))) = false → J56 [(.int .u64 (IntKind.wrap .u64 (n52 + (iand .u64 n55 (144115188075855871 : Int)))))] H53)) ∧
 (∀ (n57 : Int), ∀ H58, J56 [(.int .u64 n57)] H58 →
 CallV Try.prog 12 #[(.pointer p20), (.int .u64 n57)] H58 (fun v59 H60 => ∃ (a61 : Option Addr) (l62 : Nat) (c63 : Nat), v59 = (.slice a61 l62 c63) ∧
 ∃ (I64 : List Value → Hp → Prop) (μ65 : List Value → Hp → Nat), I64 [(.int .i64 (0 : Int))] H60 ∧
 (∀ (n66 : Int), ∀ H67, I64 [(.int .i64 n66)] H67 →
 (((decide ((n66 : Int) < ((l62 : Nat) : Int)))) = true → optK a61 (fun q68 => (0 : Int) ≤ n66 ∧ n66 < ((l62 : Nat) : Int) ∧ ∃ (n69 : Int), cellH H67 (Addr.add q68 (Int.toNat n66 * 1)) = some (.int .i64 n69) ∧ guardM (decide ((n69 : Int) < (0 : Int))) false (fun kk70 H71 => kk70 (decide ((n69 : Int) ≥ ((l2 : Nat) : Int))) H71)
 (fun r72 H73 => guardM r72 false (fun kk74 H75 => optK a30 (fun q76 => (0 : Int) ≤ n69 ∧ n69 < ((l31 : Nat) : Int) ∧ ∃ (n77 : Int), cellH H75 (Addr.add q76 (Int.toNat n69 * 1)) = some (.int .i64 n77) ∧ kk74 (decide ((n77 : Int) > (0 : Int))) H75))
 (fun r78 H79 => ((r78) = true → R (.bool false) H79) ∧
 ((r78) = false → optK a30 (fun q80 => (0 : Int) ≤ n69 ∧ n69 < ((l31 : Nat) : Int) ∧ ∃ (n81 : Int), cellH H79 (Addr.add q80 (Int.toNat n69 * 1)) = some (.int .i64 n81) ∧ optK a30 (fun q82 => (0 : Int) ≤ n69 ∧ n69 < ((l31 : Nat) : Int) ∧ wrK (Addr.add q82 (Int.toNat n69 * 1)) [(.int .i64 (IntKind.wrap .i64 (n81 + (1 : Int))))] 0 (fun H83 =>
 optK a1 (fun q84 => (0 : Int) ≤ n69 ∧ n69 < ((l2 : Nat) : Int) ∧ ∃ (n85 : Int), cellH H83 (Addr.add q84 (Int.toNat n69 * 1)) = some (.int .u64 n85) ∧ guardM (decide (((IntKind.wrap .u64 (n0 + (iand .u64 n85 (4611686018427387903 : Int)))) : Int) > n57)) false (fun kk86 H87 => guardM (decide (((IntKind.wrap .u64 (n0 + (iand .u64 n85 (4611686018427387903 : Int)))) : Int) ≤ n52)) true (fun kk88 H89 => kk88 ((n52 : Int) != n0) H89)
 (fun r90 H91 => kk86 r90 H91) H87)
 (fun r92 H93 => ((r92) = true → R (.bool false) H93) ∧
 ((r92) = false → I64 [(.int .i64 (IntKind.wrap .i64 (n66 + (1 : Int))))] H93 ∧ μ65 [(.int .i64 (IntKind.wrap .i64 (n66 + (1 : Int))))] H93 < μ65 [(.int .i64 n66)] H67)) H83)) H79)))) H73) H67)) ∧
 (((decide ((n66 : Int) < ((l62 : Nat) : Int)))) = false → I49 [(.int .u64 (imax n52 n57)), (.int .i64 (IntKind.wrap .i64 (n51 + (1 : Int))))] H67 ∧ μ50 [(.int .u64 (imax n52 n57)), (.int .i64 (IntKind.wrap .i64 (n51 + (1 : Int))))] H67 < μ50 [(.int .u64 n52), (.int .i64 n51)] H53)))))) ∧
 (((decide ((n51 : Int) < ((l45 : Nat) : Int)))) = false → ∃ (I94 : List Value → Hp → Prop) (μ95 : List Value → Hp → Nat), I94 [(.int .i64 (0 : Int))] H53 ∧
 (∀ (n96 : Int), ∀ H97, I94 [(.int .i64 n96)] H97 →
 (((decide ((n96 : Int) < ((l31 : Nat) : Int)))) = true → optK a30 (fun q98 => (0 : Int) ≤ n96 ∧ n96 < ((l31 : Nat) : Int) ∧ ∃ (n99 : Int), cellH H97 (Addr.add q98 (Int.toNat n96 * 1)) = some (.int .i64 n99) ∧ ((((n99 : Int) != (1 : Int))) = true → R (.bool false) H97) ∧
 ((((n99 : Int) != (1 : Int))) = false → I94 [(.int .i64 (IntKind.wrap .i64 (n96 + (1 : Int))))] H97 ∧ μ95 [(.int .i64 (IntKind.wrap .i64 (n96 + (1 : Int))))] H97 < μ95 [(.int .i64 n96)] H97))) ∧
 (((decide ((n96 : Int) < ((l31 : Nat) : Int)))) = false → CallV Try.prog 13 #[(.pointer p20)] H97 (fun v100 H101 => ∃ (n102 : Int), v100 = (.int .i64 n102) ∧
 R (.bool ((n102 : Int) == (0 : Int))) H101)))))) H43) H40) H36) H33) H24))))) H13) H8))

def l7Once.hint : Hint := ⟨fun _ => [], fun i => bif Nat.beq i 7 then [(40, .int .i64)] else bif Nat.beq i 15 then [(11, .int .u64), (66, .int .i64)] else bif Nat.beq i 21 then [(80, .int .i64)] else bif Nat.beq i 33 then [(132, .int .i64)] else [], fun i => bif Nat.beq i 20 then some [(14, .int .u64)] else none, fun _ => none⟩

theorem l7Once.calls (n0 : Int) (a1 : Option Addr) (l2 : Nat) (c3 : Nat) (a4 : Option Addr) (l5 : Nat) (c6 : Nat) (R : Value → Hp → Prop) (H : Hp) (h : l7Once n0 a1 l2 c3 a4 l5 c6 R H) : CallV Try.prog 3 #[(.int .u64 n0), (.slice a1 l2 c3), (.slice a4 l5 c6)] H R :=
  evFn_calls (hi := l7Once.hint) mixed hent (cast (by kernel_rfl : l7Once n0 a1 l2 c3 a4 l5 c6 R H = evFn Try.prog ent l7Once.hint 3 #[(.int .u64 n0), (.slice a1 l2 c3), (.slice a4 l5 c6)] R H) h)

/-- nightjar/nightjarlaw07.WheelCuts -/
def l7Cuts (n0 : Int) (a1 : Option Addr) (l2 : Nat) (_c3 : Nat) (a4 : Option Addr) (l5 : Nat) (_c6 : Nat) (n7 : Int) (R : Value → Hp → Prop) (H : Hp) : Prop :=
 CallV Try.prog 9 #[] H (fun v8 H9 => ∃ (b10 : Bool), v8 = (.bool b10) ∧
 (((!b10)) = true → R (.bool false) H9) ∧
 (((!b10)) = false → guardM (decide ((((l2 : Nat) : Int) : Int) > (64 : Int))) false (fun kk11 H12 => kk11 (decide ((((l5 : Nat) : Int) : Int) > (60 : Int))) H12)
 (fun r13 H14 => guardM r13 false (fun kk15 H16 => kk15 (decide ((n0 : Int) > (4611686018427387904 : Int))) H16)
 (fun r17 H18 => ((r17) = true → R (.bool true) H18) ∧
 ((r17) = false → CallV Try.prog 10 #[(.int .i64 ((l2 : Nat) : Int)), (.int .u64 n0)] H18 (fun v19 H20 => ∃ (p21 : Option Addr), v19 = (.pointer p21) ∧
 CallV Try.prog 10 #[(.int .i64 ((l2 : Nat) : Int)), (.int .u64 n0)] H20 (fun v22 H23 => ∃ (p24 : Option Addr), v22 = (.pointer p24) ∧
 ∃ (I25 : List Value → Hp → Prop) (μ26 : List Value → Hp → Nat), I25 [(.int .i64 (0 : Int))] H23 ∧
 (∀ (n27 : Int), ∀ H28, I25 [(.int .i64 n27)] H28 →
 (((decide ((n27 : Int) < ((l2 : Nat) : Int)))) = true → optK a1 (fun q29 => (0 : Int) ≤ n27 ∧ n27 < ((l2 : Nat) : Int) ∧ ∃ (n30 : Int), cellH H28 (Addr.add q29 (Int.toNat n27 * 1)) = some (.int .u64 n30) ∧ CallV Try.prog 11 #[(.pointer p21), (.int .i64 n27), (.int .u64 (IntKind.wrap .u64 (n0 + (iand .u64 n30 (4611686018427387903 : Int))))), (.int .u64 (IntKind.wrap .u64 (iand .i64 n27 (3 : Int))))] H28 (fun v31 H32 => ∃ (b33 : Bool), v31 = (.bool b33) ∧
 CallV Try.prog 11 #[(.pointer p24), (.int .i64 n27), (.int .u64 (IntKind.wrap .u64 (n0 + (iand .u64 n30 (4611686018427387903 : Int))))), (.int .u64 (IntKind.wrap .u64 (iand .i64 n27 (3 : Int))))] H32 (fun v34 H35 => ∃ (b36 : Bool), v34 = (.bool b36) ∧
 I25 [(.int .i64 (IntKind.wrap .i64 (n27 + (1 : Int))))] H35 ∧ μ26 [(.int .i64 (IntKind.wrap .i64 (n27 + (1 : Int))))] H35 < μ26 [(.int .i64 n27)] H28)))) ∧
 (((decide ((n27 : Int) < ((l2 : Nat) : Int)))) = false → CallV Try.prog 12 #[(.pointer p21), (.int .u64 n0)] H28 (fun v37 H38 => ∃ (a39 : Option Addr) (l40 : Nat) (c41 : Nat), v37 = (.slice a39 l40 c41) ∧
 ∃ (I42 : List Value → Hp → Prop) (μ43 : List Value → Hp → Nat), I42 [(.int .i64 (0 : Int)), (.slice a39 l40 c41)] H38 ∧
 (∀ (n47 : Int) (a44 : Option Addr) (l45 : Nat) (c46 : Nat), ∀ H48, I42 [(.int .i64 n47), (.slice a44 l45 c46)] H48 →
 (((decide ((n47 : Int) < ((l5 : Nat) : Int)))) = true → optK a4 (fun q49 => (0 : Int) ≤ n47 ∧ n47 < ((l5 : Nat) : Int) ∧ ∃ (n50 : Int), cellH H48 (Addr.add q49 (Int.toNat n47 * 1)) = some (.int .u64 n50) ∧ CallV Try.prog 12 #[(.pointer p21), (.int .u64 (imin (IntKind.wrap .u64 (n0 + (iand .u64 n50 (4611686018427387903 : Int)))) (IntKind.wrap .u64 (n0 + (iand .u64 n7 (4611686018427387903 : Int))))))] H48 (fun v51 H52 => ∃ (a53 : Option Addr) (l54 : Nat) (c55 : Nat), v51 = (.slice a53 l54 c55) ∧
 hw Try.prog (Builtin.append_ #[28, 28] 28 #[(.slice a44 l45 c46), (.slice a53 l54 c55)]) (fun v60 H59 => ∃ (a56 : Option Addr) (l57 : Nat) (c58 : Nat), v60 = (.slice a56 l57 c58) ∧ I42 [(.int .i64 (IntKind.wrap .i64 (n47 + (1 : Int)))), (.slice a56 l57 c58)] H59 ∧ μ43 [(.int .i64 (IntKind.wrap .i64 (n47 + (1 : Int)))), (.slice a56 l57 c58)] H59 < μ43 [(.int .i64 n47), (.slice a44 l45 c46)] H48) H52))) ∧
 (((decide ((n47 : Int) < ((l5 : Nat) : Int)))) = false → CallV Try.prog 12 #[(.pointer p21), (.int .u64 (IntKind.wrap .u64 (n0 + (iand .u64 n7 (4611686018427387903 : Int)))))] H48 (fun v61 H62 => ∃ (a63 : Option Addr) (l64 : Nat) (c65 : Nat), v61 = (.slice a63 l64 c65) ∧
 hw Try.prog (Builtin.append_ #[28, 28] 28 #[(.slice a44 l45 c46), (.slice a63 l64 c65)]) (fun v70 H69 => ∃ (a66 : Option Addr) (l67 : Nat) (c68 : Nat), v70 = (.slice a66 l67 c68) ∧ CallV Try.prog 12 #[(.pointer p24), (.int .u64 (IntKind.wrap .u64 (n0 + (iand .u64 n7 (4611686018427387903 : Int)))))] H69 (fun v71 H72 => ∃ (a73 : Option Addr) (l74 : Nat) (c75 : Nat), v71 = (.slice a73 l74 c75) ∧
 CallV Try.prog 14 #[(.slice a66 l67 c68), (.slice a73 l74 c75)] H72 (fun v76 H77 => ∃ (b78 : Bool), v76 = (.bool b78) ∧
 guardM b78 true (fun kk79 H80 => CallV Try.prog 13 #[(.pointer p21)] H80 (fun v81 H82 => ∃ (n83 : Int), v81 = (.int .i64 n83) ∧
 CallV Try.prog 13 #[(.pointer p24)] H82 (fun v84 H85 => ∃ (n86 : Int), v84 = (.int .i64 n86) ∧
 kk79 ((n83 : Int) == n86) H85)))
 (fun r87 H88 => guardM r87 true (fun kk89 H90 => CallV Try.prog 15 #[(.pointer p21)] H90 (fun v91 H92 => ∃ (n93 : Int), v91 = (.int .u64 n93) ∧
 CallV Try.prog 15 #[(.pointer p24)] H92 (fun v94 H95 => ∃ (n96 : Int), v94 = (.int .u64 n96) ∧
 kk89 ((n93 : Int) == n96) H95)))
 (fun r97 H98 => R (.bool r97) H98) H88) H77))) H62)))))))))) H14) H9))

def l7Cuts.hint : Hint := ⟨fun _ => [], fun i => bif Nat.beq i 8 then [(44, .int .i64)] else bif Nat.beq i 15 then [(75, .int .i64), (13, .slice)] else [], fun _ => none, fun _ => none⟩

theorem l7Cuts.calls (n0 : Int) (a1 : Option Addr) (l2 : Nat) (c3 : Nat) (a4 : Option Addr) (l5 : Nat) (c6 : Nat) (n7 : Int) (R : Value → Hp → Prop) (H : Hp) (h : l7Cuts n0 a1 l2 c3 a4 l5 c6 n7 R H) : CallV Try.prog 4 #[(.int .u64 n0), (.slice a1 l2 c3), (.slice a4 l5 c6), (.int .u64 n7)] H R :=
  evFn_calls (hi := l7Cuts.hint) mixed hent (cast (by kernel_rfl : l7Cuts n0 a1 l2 c3 a4 l5 c6 n7 R H = evFn Try.prog ent l7Cuts.hint 4 #[(.int .u64 n0), (.slice a1 l2 c3), (.slice a4 l5 c6), (.int .u64 n7)] R H) h)

/-- nightjar/nightjarlaw07.WheelTurns -/
def l7Turns (n0 : Int) (a1 : Option Addr) (l2 : Nat) (_c3 : Nat) (n4 : Int) (R : Value → Hp → Prop) (H : Hp) : Prop :=
 CallV Try.prog 9 #[] H (fun v5 H6 => ∃ (b7 : Bool), v5 = (.bool b7) ∧
 (((!b7)) = true → R (.bool false) H6) ∧
 (((!b7)) = false → guardM (decide ((((l2 : Nat) : Int) : Int) > (64 : Int))) false (fun kk8 H9 => kk8 (decide ((n0 : Int) > (4611686018427387904 : Int))) H9)
 (fun r10 H11 => ((r10) = true → R (.bool true) H11) ∧
 ((r10) = false → CallV Try.prog 10 #[(.int .i64 ((l2 : Nat) : Int)), (.int .u64 n0)] H11 (fun v12 H13 => ∃ (p14 : Option Addr), v12 = (.pointer p14) ∧
 CallV Try.prog 10 #[(.int .i64 ((l2 : Nat) : Int)), (.int .u64 n0)] H13 (fun v15 H16 => ∃ (p17 : Option Addr), v15 = (.pointer p17) ∧
 ∃ (I18 : List Value → Hp → Prop) (μ19 : List Value → Hp → Nat), I18 [(.int .i64 (0 : Int))] H16 ∧
 (∀ (n20 : Int), ∀ H21, I18 [(.int .i64 n20)] H21 →
 (((decide ((n20 : Int) < ((l2 : Nat) : Int)))) = true → optK a1 (fun q22 => (0 : Int) ≤ n20 ∧ n20 < ((l2 : Nat) : Int) ∧ ∃ (n23 : Int), cellH H21 (Addr.add q22 (Int.toNat n20 * 1)) = some (.int .u64 n23) ∧ optK a1 (fun q24 => (0 : Int) ≤ n20 ∧ n20 < ((l2 : Nat) : Int) ∧ ∃ (n25 : Int), cellH H21 (Addr.add q24 (Int.toNat n20 * 1)) = some (.int .u64 n25) ∧ CallV Try.prog 11 #[(.pointer p14), (.int .i64 n20), (.int .u64 (IntKind.wrap .u64 (n0 + (iand .u64 n23 (4611686018427387903 : Int))))), (.int .u64 (iand .u64 n25 (3 : Int)))] H21 (fun v26 H27 => ∃ (b28 : Bool), v26 = (.bool b28) ∧
 optK a1 (fun q29 => (0 : Int) ≤ (IntKind.wrap .i64 ((IntKind.wrap .i64 (((l2 : Nat) : Int) - (1 : Int))) - n20)) ∧ (IntKind.wrap .i64 ((IntKind.wrap .i64 (((l2 : Nat) : Int) - (1 : Int))) - n20)) < ((l2 : Nat) : Int) ∧ ∃ (n30 : Int), cellH H27 (Addr.add q29 (Int.toNat (IntKind.wrap .i64 ((IntKind.wrap .i64 (((l2 : Nat) : Int) - (1 : Int))) - n20)) * 1)) = some (.int .u64 n30) ∧ optK a1 (fun q31 => (0 : Int) ≤ (IntKind.wrap .i64 ((IntKind.wrap .i64 (((l2 : Nat) : Int) - (1 : Int))) - n20)) ∧ (IntKind.wrap .i64 ((IntKind.wrap .i64 (((l2 : Nat) : Int) - (1 : Int))) - n20)) < ((l2 : Nat) : Int) ∧ ∃ (n32 : Int), cellH H27 (Addr.add q31 (Int.toNat (IntKind.wrap .i64 ((IntKind.wrap .i64 (((l2 : Nat) : Int) - (1 : Int))) - n20)) * 1)) = some (.int .u64 n32) ∧ CallV Try.prog 11 #[(.pointer p17), (.int .i64 (IntKind.wrap .i64 ((IntKind.wrap .i64 (((l2 : Nat) : Int) - (1 : Int))) - n20))), (.int .u64 (IntKind.wrap .u64 (n0 + (iand .u64 n30 (4611686018427387903 : Int))))), (.int .u64 (iand .u64 n32 (3 : Int)))] H27 (fun v33 H34 => ∃ (b35 : Bool), v33 = (.bool b35) ∧
 I18 [(.int .i64 (IntKind.wrap .i64 (n20 + (1 : Int))))] H34 ∧ μ19 [(.int .i64 (IntKind.wrap .i64 (n20 + (1 : Int))))] H34 < μ19 [(.int .i64 n20)] H21))))))) ∧
 (((decide ((n20 : Int) < ((l2 : Nat) : Int)))) = false → CallV Try.prog 18 #[(.pointer p14)] H21 (fun v36 H37 => ∃ (n38 : Int) (b39 : Bool), v36 = (.tuple #[(.int .u64 n38), (.bool b39)]) ∧
 CallV Try.prog 12 #[(.pointer p14), (.int .u64 (IntKind.wrap .u64 (n0 + (iand .u64 n4 (4611686018427387903 : Int)))))] H37 (fun v40 H41 => ∃ (a42 : Option Addr) (l43 : Nat) (c44 : Nat), v40 = (.slice a42 l43 c44) ∧
 CallV Try.prog 12 #[(.pointer p17), (.int .u64 (IntKind.wrap .u64 (n0 + (iand .u64 n4 (4611686018427387903 : Int)))))] H41 (fun v45 H46 => ∃ (a47 : Option Addr) (l48 : Nat) (c49 : Nat), v45 = (.slice a47 l48 c49) ∧
 CallV Try.prog 14 #[(.slice a42 l43 c44), (.slice a47 l48 c49)] H46 (fun v50 H51 => ∃ (b52 : Bool), v50 = (.bool b52) ∧
 guardM (!b52) false (fun kk53 H54 => kk53 (!((b39 : Bool) == (decide ((((l2 : Nat) : Int) : Int) > (0 : Int))))) H54)
 (fun r55 H56 => ((r55) = true → R (.bool false) H56) ∧
 ((r55) = false → ((((((l43 : Nat) : Int) : Int) == (0 : Int))) = true → guardM (!b39) false (fun kk57 H58 => kk57 (decide ((n38 : Int) > (IntKind.wrap .u64 (n0 + (iand .u64 n4 (4611686018427387903 : Int)))))) H58)
 (fun r59 H60 => R (.bool r59) H60) H56) ∧
 ((((((l43 : Nat) : Int) : Int) == (0 : Int))) = false → optK a42 (fun q61 => (0 : Int) ≤ (0 : Int) ∧ (0 : Int) < ((l43 : Nat) : Int) ∧ ∃ (n62 : Int), cellH H56 (Addr.add q61 (Int.toNat (0 : Int) * 1)) = some (.int .i64 n62) ∧ guardM (decide ((n62 : Int) ≥ (0 : Int))) true (fun kk63 H64 => optK a42 (fun q65 => (0 : Int) ≤ (0 : Int) ∧ (0 : Int) < ((l43 : Nat) : Int) ∧ ∃ (n66 : Int), cellH H64 (Addr.add q65 (Int.toNat (0 : Int) * 1)) = some (.int .i64 n66) ∧ kk63 (decide ((n66 : Int) < ((l2 : Nat) : Int))) H64))
 (fun r67 H68 => guardM r67 true (fun kk69 H70 => optK a42 (fun q71 => (0 : Int) ≤ (0 : Int) ∧ (0 : Int) < ((l43 : Nat) : Int) ∧ ∃ (n72 : Int), cellH H70 (Addr.add q71 (Int.toNat (0 : Int) * 1)) = some (.int .i64 n72) ∧ optK a1 (fun q73 => (0 : Int) ≤ n72 ∧ n72 < ((l2 : Nat) : Int) ∧ ∃ (n74 : Int), cellH H70 (Addr.add q73 (Int.toNat n72 * 1)) = some (.int .u64 n74) ∧ kk69 ((n38 : Int) == (IntKind.wrap .u64 (n0 + (iand .u64 n74 (4611686018427387903 : Int))))) H70)))
 (fun r75 H76 => R (.bool r75) H76) H68) H56)))) H51)))))))))) H6))

def l7Turns.hint : Hint := ⟨fun _ => [], fun i => bif Nat.beq i 8 then [(37, .int .i64)] else [], fun _ => none, fun _ => none⟩

theorem l7Turns.calls (n0 : Int) (a1 : Option Addr) (l2 : Nat) (c3 : Nat) (n4 : Int) (R : Value → Hp → Prop) (H : Hp) (h : l7Turns n0 a1 l2 c3 n4 R H) : CallV Try.prog 6 #[(.int .u64 n0), (.slice a1 l2 c3), (.int .u64 n4)] H R :=
  evFn_calls (hi := l7Turns.hint) mixed hent (cast (by kernel_rfl : l7Turns n0 a1 l2 c3 n4 R H = evFn Try.prog ent l7Turns.hint 6 #[(.int .u64 n0), (.slice a1 l2 c3), (.int .u64 n4)] R H) h)

/-- nightjar/nightjarlaw07.WheelTicks -/
def l7Ticks (n0 : Int) (a1 : Option Addr) (l2 : Nat) (_c3 : Nat) (R : Value → Hp → Prop) (H : Hp) : Prop :=
 CallV Try.prog 9 #[] H (fun v4 H5 => ∃ (b6 : Bool), v4 = (.bool b6) ∧
 (((!b6)) = true → R (.bool false) H5) ∧
 (((!b6)) = false → guardM (decide ((((l2 : Nat) : Int) : Int) > (20 : Int))) false (fun kk7 H8 => kk7 (decide ((n0 : Int) > (4611686018427387904 : Int))) H8)
 (fun r9 H10 => ((r9) = true → R (.bool true) H10) ∧
 ((r9) = false → CallV Try.prog 10 #[(.int .i64 ((l2 : Nat) : Int)), (.int .u64 n0)] H10 (fun v11 H12 => ∃ (p13 : Option Addr), v11 = (.pointer p13) ∧
 ∃ (I14 : List Value → Hp → Prop) (μ15 : List Value → Hp → Nat), I14 [(.int .i64 (0 : Int))] H12 ∧
 (∀ (n16 : Int), ∀ H17, I14 [(.int .i64 n16)] H17 →
 (((decide ((n16 : Int) < ((l2 : Nat) : Int)))) = true → optK a1 (fun q18 => (0 : Int) ≤ n16 ∧ n16 < ((l2 : Nat) : Int) ∧ ∃ (n19 : Int), cellH H17 (Addr.add q18 (Int.toNat n16 * 1)) = some (.int .u64 n19) ∧ CallV Try.prog 11 #[(.pointer p13), (.int .i64 n16), (.int .u64 (IntKind.wrap .u64 (n0 + (iand .u64 n19 (511 : Int))))), (.int .u64 (0 : Int))] H17 (fun v20 H21 => ∃ (b22 : Bool), v20 = (.bool b22) ∧
 I14 [(.int .i64 (IntKind.wrap .i64 (n16 + (1 : Int))))] H21 ∧ μ15 [(.int .i64 (IntKind.wrap .i64 (n16 + (1 : Int))))] H21 < μ15 [(.int .i64 n16)] H17))) ∧
 (((decide ((n16 : Int) < ((l2 : Nat) : Int)))) = false → ∃ (I23 : List Value → Hp → Prop) (μ24 : List Value → Hp → Nat), I23 [(.int .u64 (0 : Int))] H17 ∧
 (∀ (n25 : Int), ∀ H26, I23 [(.int .u64 n25)] H26 →
 (((decide ((n25 : Int) < (512 : Int)))) = true → CallV Try.prog 12 #[(.pointer p13), (.int .u64 (IntKind.wrap .u64 (n0 + n25)))] H26 (fun v27 H28 => ∃ (a29 : Option Addr) (l30 : Nat) (c31 : Nat), v27 = (.slice a29 l30 c31) ∧
 ∃ (I32 : List Value → Hp → Prop) (μ33 : List Value → Hp → Nat), I32 [(.int .i64 (0 : Int))] H28 ∧
 (∀ (n34 : Int), ∀ H35, I32 [(.int .i64 n34)] H35 →
 (((decide ((n34 : Int) < ((l30 : Nat) : Int)))) = true → optK a29 (fun q36 => (0 : Int) ≤ n34 ∧ n34 < ((l30 : Nat) : Int) ∧ ∃ (n37 : Int), cellH H35 (Addr.add q36 (Int.toNat n34 * 1)) = some (.int .i64 n37) ∧ guardM (decide ((n37 : Int) < (0 : Int))) false (fun kk38 H39 => kk38 (decide ((n37 : Int) ≥ ((l2 : Nat) : Int))) H39)
 (fun r40 H41 => guardM r40 false (fun kk42 H43 => optK a1 (fun q44 => (0 : Int) ≤ n37 ∧ n37 < ((l2 : Nat) : Int) ∧ ∃ (n45 : Int), cellH H43 (Addr.add q44 (Int.toNat n37 * 1)) = some (.int .u64 n45) ∧ kk42 (((iand .u64 n45 (511 : Int)) : Int) != n25) H43))
 (fun r46 H47 => ((r46) = true → R (.bool false) H47) ∧
 ((r46) = false → I32 [(.int .i64 (IntKind.wrap .i64 (n34 + (1 : Int))))] H47 ∧ μ33 [(.int .i64 (IntKind.wrap .i64 (n34 + (1 : Int))))] H47 < μ33 [(.int .i64 n34)] H35)) H41) H35)) ∧
 (((decide ((n34 : Int) < ((l30 : Nat) : Int)))) = false → ∃ (I48 : List Value → Hp → Prop) (μ49 : List Value → Hp → Nat), I48 [(.int .i64 (0 : Int))] H35 ∧
 (∀ (n50 : Int), ∀ H51, I48 [(.int .i64 n50)] H51 →
 (((decide ((n50 : Int) < ((l2 : Nat) : Int)))) = true → optK a1 (fun q52 => (0 : Int) ≤ n50 ∧ n50 < ((l2 : Nat) : Int) ∧ ∃ (n53 : Int), cellH H51 (Addr.add q52 (Int.toNat n50 * 1)) = some (.int .u64 n53) ∧ CallV Try.prog 16 #[(.pointer p13), (.int .i64 n50)] H51 (fun v54 H55 => ∃ (n56 : Int) (n57 : Int) (b58 : Bool), v54 = (.tuple #[(.int .u64 n56), (.int .u64 n57), (.bool b58)]) ∧
 (((!((b58 : Bool) == (decide (((iand .u64 n53 (511 : Int)) : Int) > n25))))) = true → R (.bool false) H55) ∧
 (((!((b58 : Bool) == (decide (((iand .u64 n53 (511 : Int)) : Int) > n25))))) = false → I48 [(.int .i64 (IntKind.wrap .i64 (n50 + (1 : Int))))] H55 ∧ μ49 [(.int .i64 (IntKind.wrap .i64 (n50 + (1 : Int))))] H55 < μ49 [(.int .i64 n50)] H51)))) ∧
 (((decide ((n50 : Int) < ((l2 : Nat) : Int)))) = false → I23 [(.int .u64 (IntKind.wrap .u64 (n25 + (1 : Int))))] H51 ∧ μ24 [(.int .u64 (IntKind.wrap .u64 (n25 + (1 : Int))))] H51 < μ24 [(.int .u64 n25)] H26)))))) ∧
 (((decide ((n25 : Int) < (512 : Int)))) = false → CallV Try.prog 13 #[(.pointer p13)] H26 (fun v59 H60 => ∃ (n61 : Int), v59 = (.int .i64 n61) ∧
 R (.bool ((n61 : Int) == (0 : Int))) H60)))))))) H5))

def l7Ticks.hint : Hint := ⟨fun _ => [], fun i => bif Nat.beq i 7 then [(31, .int .i64)] else bif Nat.beq i 12 then [(44, .int .u64)] else bif Nat.beq i 15 then [(53, .int .i64)] else bif Nat.beq i 21 then [(77, .int .i64)] else [], fun _ => none, fun _ => none⟩

theorem l7Ticks.calls (n0 : Int) (a1 : Option Addr) (l2 : Nat) (c3 : Nat) (R : Value → Hp → Prop) (H : Hp) (h : l7Ticks n0 a1 l2 c3 R H) : CallV Try.prog 7 #[(.int .u64 n0), (.slice a1 l2 c3)] H R :=
  evFn_calls (hi := l7Ticks.hint) mixed hent (cast (by kernel_rfl : l7Ticks n0 a1 l2 c3 R H = evFn Try.prog ent l7Ticks.hint 7 #[(.int .u64 n0), (.slice a1 l2 c3)] R H) h)

end Go.Proofs.Ytlkocnmgpalmnaa
