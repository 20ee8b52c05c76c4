/- The executor's tables for this program, proved. -/
import Derived.Test.YtnnmofebjfpcnaaGreatSxEql
import Derived.Laws.Externs
import Derived.Test.YtnnmofebjfpcnaaGreatProg
set_option linter.unusedVariables false
set_option linter.unusedSimpArgs false

namespace Go.Sx
open Go.RowKit Go.Proofs

def eqTab : List (TypeId × Sh) := [(31, [some .u64, some .u64]), (52, [some .u64, some .u64]), (61, [some .u64, some .u64, some .u64, some .u64]), (62, [some .u64, some .u64, some .u64, some .u64]), (105, [some .u64, some .u64, some .u64, some .u64]), (64, [some .u64, some .u64, some .u64, some .u64]), (68, [some .u64, some .u64, some .u32, some .u32, none]), (112, [some .i64, some .u64, some .u64, some .u64, some .u64, some .u64, some .u64, some .u64, some .u64, some .u64, some .u64, some .u64, some .u32, some .u32, none]), (70, [some .i64, some .u64, some .u64, some .u64, some .u64, some .u64, some .u64, some .u64, some .u64, some .u64, some .u64, some .u64, some .u32, some .u32, none])]
def lookT (t : TypeId) : List (TypeId × Sh) → Option Sh
  | [] => none
  | (u, s) :: l => bif Nat.beq u t then some s else lookT t l
theorem lookT_mem {t : TypeId} {s : Sh} : ∀ {l : List (TypeId × Sh)}, lookT t l = some s → (t, s) ∈ l
  | [], h => by simp [lookT] at h
  | (u, r) :: l, h => by
    simp only [lookT] at h
    cases hb : Nat.beq u t with
    | true => rw [hb] at h; simp only [cond_true, Option.some.injEq] at h; have := Nat.eq_of_beq_eq_true hb; subst this; subst h; simp
    | false => rw [hb] at h; simp only [cond_false] at h; simp [lookT_mem h]
def methTab : List (TypeId × List (String × FuncId)) := [(121, [("knucklebone/gen.alone", 87), ("knucklebone/gen.bits", 88), ("knucklebone/gen.jump", 89), ("knucklebone/gen.put", 90), ("knucklebone/gen.right", 91), ("knucklebone/gen.size", 92), ("knucklebone/gen.step", 93), ("knucklebone/gen.take", 94), ("knucklebone/gen.word", 95)]),
  (122, [("knucklebone/gen.alone", 97), ("knucklebone/gen.bits", 98), ("knucklebone/gen.jump", 99), ("knucklebone/gen.put", 100), ("knucklebone/gen.right", 101), ("knucklebone/gen.size", 102), ("knucklebone/gen.step", 103), ("knucklebone/gen.take", 104), ("knucklebone/gen.word", 105)]),
  (123, [("knucklebone/gen.alone", 146), ("knucklebone/gen.bits", 147), ("knucklebone/gen.jump", 148), ("knucklebone/gen.put", 149), ("knucklebone/gen.right", 150), ("knucklebone/gen.size", 151), ("knucklebone/gen.step", 152), ("knucklebone/gen.take", 153), ("knucklebone/gen.word", 154)]),
  (124, [("knucklebone/gen.alone", 164), ("knucklebone/gen.bits", 165), ("knucklebone/gen.jump", 166), ("knucklebone/gen.put", 167), ("knucklebone/gen.right", 168), ("knucklebone/gen.size", 169), ("knucklebone/gen.step", 170), ("knucklebone/gen.take", 171), ("knucklebone/gen.word", 172)])]
def lookN (n : String) : List (String × FuncId) → Option FuncId
  | [] => none
  | (m, f) :: l => if m = n then some f else lookN n l
def lookM (t : TypeId) (n : String) : List (TypeId × List (String × FuncId)) → Option FuncId
  | [] => none
  | (u, s) :: l => bif Nat.beq u t then lookN n s else lookM t n l
def D0 : Dat := ⟨fun t => lookT t eqTab, fun t n => lookM t n methTab, fun f => bif Nat.beq f 23 then 1 else bif Nat.beq f 52 then 2 else 0⟩

def eqChk (P : Program) (x : TypeId × Sh) : Bool :=
  (match shT P 6 x.1 with | some s => decide (s = x.2) | none => false) && (match isAggT P x.1 with | some b => b | none => false) && !P.eqGuardType P.depth x.1
theorem eq_all : eqTab.all (eqChk Tryz.prog) = true := by kernel_rfl
theorem names_ok : Tryz.prog.funcs.all (fun fn => !(fn.name == "runtime.NumGoroutine")) = true := by kernel_rfl

def sub64Entry : Array Value → Sem Value := fun args => do
  let (x, y, b) ← Extern.MathBitsCarry.three "Sub64" args
  pure (Extern.MathBitsCarry.pair ((x + Extern.MathBitsCarry.m64 - y - b) % Extern.MathBitsCarry.m64) (if x < y + b then 1 else 0))
theorem add_run {P : Program} (x y c : Int) (hc : c.toNat ≤ 1) (w : World) : (add64Entry #[.int .u64 x, .int .u64 y, .int .u64 c]).run P w =
    .ok (.tuple #[.int .u64 (Int.ofNat ((x.toNat + y.toNat + c.toNat) % 18446744073709551616)), .int .u64 (Int.ofNat ((x.toNat + y.toNat + c.toNat) / 18446744073709551616))]) w := by
  cases c with
  | ofNat k =>
    have : k = 0 ∨ k = 1 := by
      have : k ≤ 1 := hc
      omega
    rcases this with rfl | rfl <;> rfl
  | negSucc k => rfl
theorem sub_run {P : Program} (x y c : Int) (hc : c.toNat ≤ 1) (w : World) : (sub64Entry #[.int .u64 x, .int .u64 y, .int .u64 c]).run P w =
    .ok (.tuple #[.int .u64 (Int.ofNat ((x.toNat + 18446744073709551616 - y.toNat - c.toNat) % 18446744073709551616)), .int .u64 (Int.ofNat (if x.toNat < y.toNat + c.toNat then 1 else 0))]) w := by
  cases c with
  | ofNat k =>
    have : k = 0 ∨ k = 1 := by
      have : k ≤ 1 := hc
      omega
    rcases this with rfl | rfl <;> rfl
  | negSucc k => rfl

def methChk (x : TypeId × List (String × FuncId)) : Prop := ∀ y ∈ x.2, ∀ v W, (method (Tryz.prog.types.size + Made.depth) x.1 v y.1).run Tryz.prog W = .ok (y.2, v) W
theorem lookN_mem {n : String} {f : FuncId} : ∀ {l : List (String × FuncId)}, lookN n l = some f → (n, f) ∈ l
  | [], h => by simp [lookN] at h
  | (m, g) :: l, h => by
    simp only [lookN] at h
    split at h
    · rename_i hm; simp only [Option.some.injEq] at h; subst hm; subst h; simp
    · simp [lookN_mem h]
theorem lookM_mem {t : TypeId} {n : String} {f : FuncId} : ∀ {l : List (TypeId × List (String × FuncId))}, lookM t n l = some f → ∃ s, (t, s) ∈ l ∧ (n, f) ∈ s
  | [], h => by simp [lookM] at h
  | (u, r) :: l, h => by
    simp only [lookM] at h
    cases hb : Nat.beq u t with
    | true => rw [hb] at h; simp only [cond_true] at h; have := Nat.eq_of_beq_eq_true hb; subst this; exact ⟨r, by simp, lookN_mem h⟩
    | false => rw [hb] at h; simp only [cond_false] at h; obtain ⟨s, h1, h2⟩ := lookM_mem h; exact ⟨s, by simp [h1], h2⟩
theorem m121 : methChk (121, [("knucklebone/gen.alone", 87), ("knucklebone/gen.bits", 88), ("knucklebone/gen.jump", 89), ("knucklebone/gen.put", 90), ("knucklebone/gen.right", 91), ("knucklebone/gen.size", 92), ("knucklebone/gen.step", 93), ("knucklebone/gen.take", 94), ("knucklebone/gen.word", 95)]) := by
  intro y hy v W
  simp only [List.mem_cons, List.not_mem_nil, or_false] at hy
  rcases hy with rfl | rfl | rfl | rfl | rfl | rfl | rfl | rfl | rfl <;> kernel_rfl
theorem m122 : methChk (122, [("knucklebone/gen.alone", 97), ("knucklebone/gen.bits", 98), ("knucklebone/gen.jump", 99), ("knucklebone/gen.put", 100), ("knucklebone/gen.right", 101), ("knucklebone/gen.size", 102), ("knucklebone/gen.step", 103), ("knucklebone/gen.take", 104), ("knucklebone/gen.word", 105)]) := by
  intro y hy v W
  simp only [List.mem_cons, List.not_mem_nil, or_false] at hy
  rcases hy with rfl | rfl | rfl | rfl | rfl | rfl | rfl | rfl | rfl <;> kernel_rfl
theorem m123 : methChk (123, [("knucklebone/gen.alone", 146), ("knucklebone/gen.bits", 147), ("knucklebone/gen.jump", 148), ("knucklebone/gen.put", 149), ("knucklebone/gen.right", 150), ("knucklebone/gen.size", 151), ("knucklebone/gen.step", 152), ("knucklebone/gen.take", 153), ("knucklebone/gen.word", 154)]) := by
  intro y hy v W
  simp only [List.mem_cons, List.not_mem_nil, or_false] at hy
  rcases hy with rfl | rfl | rfl | rfl | rfl | rfl | rfl | rfl | rfl <;> kernel_rfl
theorem m124 : methChk (124, [("knucklebone/gen.alone", 164), ("knucklebone/gen.bits", 165), ("knucklebone/gen.jump", 166), ("knucklebone/gen.put", 167), ("knucklebone/gen.right", 168), ("knucklebone/gen.size", 169), ("knucklebone/gen.step", 170), ("knucklebone/gen.take", 171), ("knucklebone/gen.word", 172)]) := by
  intro y hy v W
  simp only [List.mem_cons, List.not_mem_nil, or_false] at hy
  rcases hy with rfl | rfl | rfl | rfl | rfl | rfl | rfl | rfl | rfl <;> kernel_rfl

set_option maxRecDepth 100000 in
theorem L0 : LOK Tryz.prog D0 where
  mixed := by kernel_rfl
  name := fun f fn hf => by
    have h := names_ok
    rw [Array.all_eq_true_iff_forall_mem] at h
    have := h fn (Array.mem_of_getElem? hf)
    simpa using this
  eql := fun t sh ht xs ys b x y W hx hy he => by
    have h := eq_all
    rw [List.all_eq_true] at h
    have := h (t, sh) (lookT_mem ht)
    simp only [eqChk, Bool.and_eq_true, Bool.not_eq_true'] at this
    obtain ⟨⟨h1, h2⟩, h3⟩ := this
    have h4 : shT Tryz.prog 6 t = some sh := by
      cases hs : shT Tryz.prog 6 t with
      | none => rw [hs] at h1; simp at h1
      | some s => rw [hs] at h1; simp only [decide_eq_true_eq] at h1; rw [h1]
    have h5 : isAggT Tryz.prog t = some true := by
      cases hs : isAggT Tryz.prog t with
      | none => rw [hs] at h2; simp at h2
      | some s => rw [hs] at h2; simp only at h2; rw [h2]
    exact flat_eql (by omega) h4 h5 h3 xs ys b x y W hx hy he
  add := fun f hf x y c W hc => by
    have : f = 23 := by
      simp only [D0] at hf
      cases h1 : Nat.beq f 23 with
      | true => exact Nat.eq_of_beq_eq_true h1
      | false => rw [h1] at hf; simp only [cond_false] at hf; cases h2 : Nat.beq f 52 <;> rw [h2] at hf <;> simp at hf
    subst this
    rw [run_callFunc_extern Tryz.func23 (by kernel_rfl) (by kernel_rfl) (by kernel_rfl) (e := add64Entry) (by kernel_rfl), add_run x y c hc]
    simp only [Result.andThen]
  sub := fun f hf x y c W hc => by
    have : f = 52 := by
      simp only [D0] at hf
      cases h1 : Nat.beq f 23 with
      | true => rw [h1] at hf; simp at hf
      | false => rw [h1] at hf; simp only [cond_false] at hf; cases h2 : Nat.beq f 52 with
        | true => exact Nat.eq_of_beq_eq_true h2
        | false => rw [h2] at hf; simp at hf
    subst this
    rw [run_callFunc_extern Tryz.func52 (by kernel_rfl) (by kernel_rfl) (by kernel_rfl) (e := sub64Entry) (by kernel_rfl), sub_run x y c hc]
    simp only [Result.andThen]
  meth := fun t name f h v W => by
    obtain ⟨s, h1, h2⟩ := lookM_mem h
    simp only [methTab, List.mem_cons, List.not_mem_nil, or_false] at h1
    rcases h1 with h1 | h1 | h1 | h1 <;> (injection h1 with h1 h3; subst h1; subst h3)
    · exact m121 _ h2 v W
    · exact m122 _ h2 v W
    · exact m123 _ h2 v W
    · exact m124 _ h2 v W
end Go.Sx
