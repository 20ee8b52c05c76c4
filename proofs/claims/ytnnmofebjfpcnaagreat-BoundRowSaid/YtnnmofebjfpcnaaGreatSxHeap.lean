/- Part of an executor of given code on symbolic values, with its proof of soundness: what is proved stands in each theorem. -/
import Derived.Test.YtnnmofebjfpcnaaGreatSxBase
set_option linter.unusedVariables false
set_option linter.unusedSimpArgs false

namespace Go.Sx
open Go.RowKit

def SV.one : SV → Bool
  | .agg _ => false
  | .tup _ => false
  | _ => true

theorem one_den {ρ : Env} {v : SV} {V : Value} (h : den ρ v = some V) (h1 : v.one = true) : V.oneCell' = true := by
  cases v with
  | agg l => simp [SV.one] at h1
  | tup l => simp [SV.one] at h1
  | int k n => simp [den] at h; subst h; rfl
  | num k n => simp [den] at h; subst h; rfl
  | bool b => simp [den] at h; subst h; rfl
  | str s => simp [den] at h; subst h; rfl
  | nilp => simp [den] at h; subst h; rfl
  | nils => simp [den] at h; subst h; rfl
  | nilI => simp [den] at h; subst h; rfl
  | nilF => simp [den] at h; subst h; rfl
  | ptr j off =>
    simp only [den, Option.bind_eq_some_iff, Option.map_eq_some_iff] at h
    obtain ⟨l, _, a, _, rfl⟩ := h; rfl
  | sl j off len cap =>
    simp only [den, Option.bind_eq_some_iff, Option.map_eq_some_iff] at h
    obtain ⟨l, _, a, _, rfl⟩ := h; rfl
  | rw j z lo len =>
    simp only [den, Option.map_eq_some_iff] at h
    obtain ⟨l, _, rfl⟩ := h
    unfold Loc.row; split <;> rfl
  | iface t v =>
    simp only [den, Option.map_eq_some_iff] at h
    obtain ⟨x, _, rfl⟩ := h; rfl
  | fn f a b =>
    simp only [den, Option.bind_eq_some_iff, Option.map_eq_some_iff] at h
    obtain ⟨x, _, y, _, rfl⟩ := h; rfl
  | mapp j =>
    simp only [den, Option.bind_eq_some_iff, Option.map_eq_some_iff] at h
    obtain ⟨l, _, a, _, rfl⟩ := h; rfl

def ones : List SV → Bool
  | [] => true
  | v :: l => v.one && ones l

theorem ones_den {ρ : Env} : ∀ {l : List SV} {L : List Value}, denl ρ l = some L → ones l = true → ∀ V ∈ L, V.oneCell' = true
  | [], L, h, _ => by rw [denl_nil.1 h]; simp
  | v :: l, L, h, h1 => by
    obtain ⟨V, M, hv, hm, rfl⟩ := denl_cons.1 h
    simp only [ones, Bool.and_eq_true] at h1
    intro U hU
    rcases List.mem_cons.1 hU with rfl | hU
    · exact one_den hv h1.1
    · exact ones_den hm h1.2 U hU

/-- What is known of a named block. own: just these cells. row: cells of a slice that may grow (nil, or its head at the block's head). ro: cells from an address on, to be read alone. -/
inductive Ent where
  | own (e : TypeId) (cs : List SV)
  | row (e : TypeId) (z : Nat) (cs : List SV)
  | ro (z : Nat) (cs : List SV)
  | mp (cs : List SV)                 -- a map: its keys and values by turns
  | dead

def Ent.mine : Ent → Bool
  | .own _ _ | .row _ _ _ | .mp _ => true
  | _ => false
def Ent.live : Ent → Bool
  | .dead => false
  | _ => true

def Loc.blk (l : Loc) : Option Nat := l.adr.map (·.block)

/-- The row's own value, of n elements. -/
def Loc.val (l : Loc) (n : Nat) : Value :=
  match l.adr with
  | some a => .slice (some a) n l.cap
  | none => .slice none 0 0

structure IsOwn (ρ : Env) (W : World) (l : Loc) (e : TypeId) (cs : List SV) : Prop where
  ex : ∃ b Vs, l.adr = some ⟨b, 0, none⟩ ∧ denl ρ cs = some Vs ∧ W.heap[b]? = some (.cells Vs.toArray e (0, 0)) ∧ ∀ V ∈ Vs, V.oneCell' = true
structure IsRow (ρ : Env) (W : World) (l : Loc) (e : TypeId) (z : Nat) (cs : List SV) : Prop where
  ex : ∃ Vs n, denl ρ cs = some Vs ∧ (∀ V ∈ Vs, V.oneCell' = true) ∧ W.ownsRow 0 e z (l.val n) n Vs
structure IsRo (ρ : Env) (W : World) (l : Loc) (z : Nat) (cs : List SV) : Prop where
  cap : cs.length ≤ l.cap * z
  ex : ∃ Vs, denl ρ cs = some Vs ∧ (∀ V ∈ Vs, V.oneCell' = true) ∧ (cs ≠ [] → ∃ a, l.adr = some a) ∧
    ∀ a, l.adr = some a → a.block < W.heap.size ∧ ∀ (i : Nat) (V : Value), Vs[i]? = some V → W.cell? (a.add i) = some V

def flatM : List MapEntry → List Value
  | [] => []
  | e :: l => e.key :: e.val :: flatM l
structure IsMap (ρ : Env) (W : World) (l : Loc) (cs : List SV) : Prop where
  ex : ∃ b Vs es clock, l.adr = some ⟨b, 0, none⟩ ∧ denl ρ cs = some Vs ∧ W.heap[b]? = some (.map es clock) ∧ flatM es.toList = Vs

def Ent.ok (ρ : Env) (W : World) (l : Loc) : Ent → Prop
  | .own e cs => IsOwn ρ W l e cs
  | .row e z cs => IsRow ρ W l e z cs
  | .ro z cs => IsRo ρ W l z cs
  | .mp cs => IsMap ρ W l cs
  | .dead => True

def softE : Ent → Ent
  | .own e cs => .own e (softL cs)
  | .row e z cs => .row e z (softL cs)
  | .ro z cs => .ro z (softL cs)
  | .mp cs => .mp (softL cs)
  | .dead => .dead
theorem softE_ok {ρ : Env} {W : World} {l : Loc} (e : Ent) : (softE e).ok ρ W l ↔ e.ok ρ W l := by
  cases e with
  | own t cs =>
    constructor
    · rintro ⟨b, Vs, h1, h2, h3, h4⟩; exact ⟨b, Vs, h1, by rw [← denl_soft]; exact h2, h3, h4⟩
    · rintro ⟨b, Vs, h1, h2, h3, h4⟩; exact ⟨b, Vs, h1, by rw [denl_soft]; exact h2, h3, h4⟩
  | row t z cs =>
    constructor
    · rintro ⟨Vs, n, h1, h2, h3⟩; exact ⟨Vs, n, by rw [← denl_soft]; exact h1, h2, h3⟩
    · rintro ⟨Vs, n, h1, h2, h3⟩; exact ⟨Vs, n, by rw [denl_soft]; exact h1, h2, h3⟩
  | ro z cs =>
    have hn : softL cs ≠ [] ↔ cs ≠ [] := by cases cs <;> simp [softL]
    constructor
    · intro h
      obtain ⟨Vs, h1, h2, h3, h4⟩ := h.ex
      exact ⟨by have := h.cap; rwa [softL_length] at this, Vs, by rw [← denl_soft]; exact h1, h2, fun hh => h3 (hn.2 hh), h4⟩
    · intro h
      obtain ⟨Vs, h1, h2, h3, h4⟩ := h.ex
      exact ⟨by rw [softL_length]; exact h.cap, Vs, by rw [denl_soft]; exact h1, h2, fun hh => h3 (hn.1 hh), h4⟩
  | mp cs =>
    constructor
    · rintro ⟨b, Vs, es, ck, h1, h2, h3, h4⟩; exact ⟨b, Vs, es, ck, h1, by rw [← denl_soft]; exact h2, h3, h4⟩
    · rintro ⟨b, Vs, es, ck, h1, h2, h3, h4⟩; exact ⟨b, Vs, es, ck, h1, by rw [denl_soft]; exact h2, h3, h4⟩
  | dead => exact Iff.rfl
theorem softE_mine (e : Ent) : (softE e).mine = e.mine := by cases e <;> rfl
theorem softE_live (e : Ent) : (softE e).live = e.live := by cases e <;> rfl
theorem soft_ok {ρ : Env} {W : World} {l : Loc} {e f : Ent} (h : softE e = softE f) : e.ok ρ W l ↔ f.ok ρ W l := by rw [← softE_ok e, h, softE_ok]
theorem soft_mine {e f : Ent} (h : softE e = softE f) : e.mine = f.mine := by rw [← softE_mine e, h, softE_mine]
theorem soft_live {e f : Ent} (h : softE e = softE f) : e.live = f.live := by rw [← softE_live e, h, softE_live]

theorem beq_ne {u v : Nat} (h : u ≠ v) : Nat.beq u v = false := by
  cases hb : Nat.beq u v with
  | false => rfl
  | true => exact absurd (Nat.eq_of_beq_eq_true hb) h

abbrev Heap := List (Nat × Ent)

def get : Heap → Nat → Option Ent
  | [], _ => none
  | (k, e) :: h, j => bif Nat.beq k j then some e else get h j

def put : Heap → Nat → Ent → Heap
  | [], j, e => [(j, e)]
  | (k, x) :: h, j, e => bif Nat.beq k j then (j, e) :: h else bif Nat.blt k j then (j, e) :: (k, x) :: h else (k, x) :: put h j e

theorem get_put : ∀ (h : Heap) (j : Nat) (e : Ent) (i : Nat), get (put h j e) i = if i = j then some e else get h i
  | [], j, e, i => by
    by_cases hij : i = j
    · subst hij; simp [put, get]
    · have : Nat.beq j i = false := beq_ne (by omega)
      simp [put, get, this, hij]
  | (k, x) :: h, j, e, i => by
    by_cases hkj : k = j
    · subst hkj
      by_cases hik : i = k
      · subst hik; simp [put, get]
      · have : Nat.beq k i = false := beq_ne (by omega)
        simp [put, get, this, hik]
    · have hb : Nat.beq k j = false := beq_ne (by omega)
      by_cases hlt : k < j
      · have hl : Nat.blt k j = true := by simpa [Nat.blt_eq] using hlt
        simp only [put, hb, hl, cond_false, cond_true]
        by_cases hij : i = j
        · subst hij; simp [get]
        · have : Nat.beq j i = false := beq_ne (by omega)
          simp [get, this, hij]
      · have hl : Nat.blt k j = false := by rw [Bool.eq_false_iff]; intro hh; exact hlt (by simpa [Nat.blt_eq] using hh)
        simp only [put, hb, hl, cond_false]
        by_cases hki : k = i
        · subst hki
          have : ¬ k = j := hkj
          simp [get, this]
        · have : Nat.beq k i = false := beq_ne (by omega)
          simp only [get, this, cond_false, get_put h j e i]

theorem put_comm : ∀ (h : Heap) (i j : Nat) (a b : Ent), i ≠ j → put (put h i a) j b = put (put h j b) i a
  | [], i, j, a, b, hij => by
    have h1 : Nat.beq i j = false := beq_ne (by omega)
    have h2 : Nat.beq j i = false := beq_ne (by omega)
    by_cases hlt : i < j
    · have h3 : Nat.blt i j = true := by simpa [Nat.blt_eq] using hlt
      have h4 : Nat.blt j i = false := by rw [Bool.eq_false_iff]; intro hh; have : j < i := by simpa [Nat.blt_eq] using hh
                                          omega
      simp [put, h1, h2, h3, h4]
    · have h3 : Nat.blt j i = true := by simp only [Nat.blt_eq]; omega
      have h4 : Nat.blt i j = false := by rw [Bool.eq_false_iff]; intro hh; have : i < j := by simpa [Nat.blt_eq] using hh
                                          omega
      simp [put, h1, h2, h3, h4]
  | (k, x) :: h, i, j, a, b, hij => by
    have e (u v : Nat) : Nat.beq u v = decide (u = v) := by
      by_cases hh : u = v
      · subst hh; simp
      · have : Nat.beq u v = false := beq_ne (by omega)
        simp [this, hh]
    have l (u v : Nat) : Nat.blt u v = decide (u < v) := by
      by_cases hh : u < v
      · have : Nat.blt u v = true := by simpa [Nat.blt_eq] using hh
        simp [this, hh]
      · have : Nat.blt u v = false := by rw [Bool.eq_false_iff]; intro h2; exact hh (by simpa [Nat.blt_eq] using h2)
        simp [this, hh]
    have ih := put_comm h i j a b hij
    simp only [put, e, l]
    by_cases h1 : k = i <;> by_cases h2 : k = j <;> by_cases h3 : k < i <;> by_cases h4 : k < j <;> by_cases h5 : i < j <;>
      first
        | omega
        | (have h6 : ¬ j < i := by omega
           have h7 : ¬ i = j := hij
           have h8 : ¬ j = i := fun hh => hij hh.symm
           simp [put, e, l, h1, h2, h3, h4, h5, h6, h7, h8, ih] <;> omega)
        | (have h6 : j < i := by omega
           have h7 : ¬ i = j := hij
           have h8 : ¬ j = i := fun hh => hij hh.symm
           simp [put, e, l, h1, h2, h3, h4, h5, h6, h7, h8, ih] <;> omega)

/-- Of what lay in W0 only the blocks of S have turned. -/
structure Fr (W0 : World) (S : Nat → Prop) (W : World) : Prop where
  os : W.os = W0.os
  tape : W.tape = W0.tape
  output : W.output = W0.output
  size : W0.heap.size ≤ W.heap.size
  block : ∀ k, k < W0.heap.size → ¬ S k → W.heap[k]? = W0.heap[k]?

structure Sat (W0 : World) (S : Nat → Prop) (ρ : Env) (h : Heap) (W : World) : Prop where
  fr : Fr W0 S W
  key : ∀ j, get h j = none → ρ j = none
  ent : ∀ j e, get h j = some e → ∃ l, ρ j = some l ∧ e.ok ρ W l
  dist : ∀ i j ei ej li lj b, i ≠ j → get h i = some ei → get h j = some ej → ei.mine = true → ej.live = true → ρ i = some li → ρ j = some lj → li.blk = some b → lj.blk ≠ some b
  mine : ∀ j e l b, get h j = some e → e.mine = true → ρ j = some l → l.blk = some b → S b ∨ W0.heap.size ≤ b

theorem Sat.congr {W0 S ρ h h' W} (s : Sat W0 S ρ h W) (he : ∀ j, (get h j).map softE = (get h' j).map softE) : Sat W0 S ρ h' W := by
  have key : ∀ j e, get h' j = some e → ∃ f, get h j = some f ∧ softE f = softE e := by
    intro j e hj
    have := he j
    rw [hj] at this
    cases hf : get h j with
    | none => rw [hf] at this; cases this
    | some f => rw [hf] at this; simp at this; exact ⟨f, rfl, this⟩
  refine ⟨s.fr, ?_, ?_, ?_, ?_⟩
  · intro j hj
    refine s.key j ?_
    have := he j
    rw [hj] at this
    cases hf : get h j with
    | none => rfl
    | some f => rw [hf] at this; cases this
  · intro j e hj
    obtain ⟨f, h1, h2⟩ := key j e hj
    obtain ⟨l, hl, ok⟩ := s.ent j f h1
    exact ⟨l, hl, (soft_ok h2).1 ok⟩
  · intro i j ei ej li lj b hij hi hj hmi hlj
    obtain ⟨fi, h1, h2⟩ := key i ei hi
    obtain ⟨fj, h3, h4⟩ := key j ej hj
    exact s.dist i j fi fj li lj b hij h1 h3 (by rw [soft_mine h2]; exact hmi) (by rw [soft_live h4]; exact hlj)
  · intro j e l b hj hm
    obtain ⟨f, h1, h2⟩ := key j e hj
    exact s.mine j f l b h1 (by rw [soft_mine h2]; exact hm)

theorem Sat.drew {W0 S ρ h W} (s : Sat W0 S ρ h W) : Sat W0 S ρ h { W with drawn := W.drawn + 1 } :=
  ⟨⟨s.fr.os, s.fr.tape, s.fr.output, s.fr.size, s.fr.block⟩, s.key, fun j e he => by
    obtain ⟨l, hl, ok⟩ := s.ent j e he
    refine ⟨l, hl, ?_⟩
    cases e with
    | own e cs => exact ⟨ok.ex⟩
    | row e z cs => exact ⟨ok.ex⟩
    | ro z cs => exact ⟨ok.cap, ok.ex⟩
    | mp cs => exact ⟨ok.ex⟩
    | dead => trivial, s.dist, s.mine⟩
end Go.Sx
