/- Part of an executor of given code on symbolic values, with its proof of soundness: what is proved stands in each theorem. -/
import Derived.Test.YtnnmofebjfpcnaaGreatSxComm2
set_option linter.unusedVariables false
set_option linter.unusedSimpArgs false

namespace Go.Sx
open Go.RowKit

/-! ## A region that draws its order -/
/-- An item with what it reads and writes. -/
structure IT where
  it : Item
  f : List Nat × List Nat

section
variable {P : Program} {D : Dat} {ops : List Oper}

def Chain (P : Program) (D : Dat) (ops : List Oper) : List IT → St → St → Prop
  | [], s, s' => s = s'
  | x :: r, s, s' => ∃ s1 o, xitem P D ops x.it s = some (s1, o) ∧ All o ∧ fp s.t x.it.m x.it.d x.it.o.op = x.f ∧ Chain P D ops r s1 s'

def indep (ops : List Oper) (a b : IT) : Bool := apartS ops a.it.o b.it.o && (disj a.f.2 b.f.1 && (disj b.f.2 a.f.1 && disj a.f.2 b.f.2))

theorem chain_front : ∀ (r1 : List IT) (x : IT) (r2 : List IT) (s s' : St), Chain P D ops (r1 ++ x :: r2) s s' → (∀ k ∈ r1, indep ops k x = true) →
    ∃ s1 o, xitem P D ops x.it s = some (s1, o) ∧ All o ∧ fp s.t x.it.m x.it.d x.it.o.op = x.f ∧ Chain P D ops (r1 ++ r2) s1 s'
  | [], x, r2, s, s', h, _ => h
  | k :: r1, x, r2, s, s', h, hi => by
    obtain ⟨s1, o, h1, h2, h3, h4⟩ := h
    obtain ⟨s2, o2, k1, k2, k3, k4⟩ := chain_front r1 x r2 s1 s' h4 (fun j hj => hi j (by simp [hj]))
    have hk := hi k (by simp)
    simp only [indep, Bool.and_eq_true] at hk
    obtain ⟨c1, c2, c3, c4⟩ := hk
    obtain ⟨s1', m1, m2, m3, m4⟩ := commute h1 k1 c1 h3 k3 c2 c3 c4
    exact ⟨s1', o2, m1, k2, m4, s2, o, m2, h2, m3, k4⟩

/-- transitive edges: bit k of number i -/
def clos1 (acc : List Nat) : List Edge → Nat
  | [] => 0
  | e :: l => bif Region.binds .any e then (1 <<< e.on) ||| ((acc[e.on]?).getD 0 ||| clos1 acc l) else clos1 acc l
def clos : List Oper → List Nat → List Nat
  | [], acc => acc
  | o :: l, acc => clos l (acc ++ [clos1 acc o.after.toList])

theorem clos1_spec {acc : List Nat} : ∀ {l : List Edge} {k : Nat}, (clos1 acc l).testBit k = true → ∃ e ∈ l, Region.binds .any e = true ∧ (e.on = k ∨ ((acc[e.on]?).getD 0).testBit k = true)
  | [], k, h => by simp [clos1] at h
  | e :: l, k, h => by
    simp only [clos1] at h
    cases hb : Region.binds .any e with
    | false =>
      rw [hb] at h; simp only [cond_false] at h
      obtain ⟨e', h1, h2, h3⟩ := clos1_spec h
      exact ⟨e', by simp [h1], h2, h3⟩
    | true =>
      rw [hb] at h; simp only [cond_true, Nat.testBit_or, Bool.or_eq_true] at h
      rcases h with h | h | h
      · refine ⟨e, by simp, hb, .inl ?_⟩
        simp [Nat.testBit_shiftLeft, Nat.testBit_one_eq_true_iff_self_eq_zero] at h
        omega
      · exact ⟨e, by simp, hb, .inr h⟩
      · obtain ⟨e', h1, h2, h3⟩ := clos1_spec h
        exact ⟨e', by simp [h1], h2, h3⟩

theorem clos_get : ∀ (l : List Oper) (acc : List Nat) (i : Nat), i < acc.length → (clos l acc)[i]? = acc[i]?
  | [], acc, i, _ => rfl
  | o :: l, acc, i, h => by
    simp only [clos]
    rw [clos_get l _ i (by simp; omega), List.getElem?_append_left h]

/-- each bit comes of an edge -/
theorem clos_spec : ∀ (l : List Oper) (acc : List Nat) (i k : Nat) (o : Oper), l[i]? = some o → (((clos l acc)[acc.length + i]?).getD 0).testBit k = true →
    (∀ e ∈ o.after.toList, Region.binds .any e = true → e.on < acc.length + i) →
    ∃ e ∈ o.after.toList, Region.binds .any e = true ∧ (e.on = k ∨ (((clos l acc)[e.on]?).getD 0).testBit k = true)
  | [], acc, i, k, o, h, _, _ => by simp at h
  | o' :: l, acc, 0, k, o, h, hb, he => by
    simp at h; subst h
    simp only [clos, Nat.add_zero] at hb
    rw [clos_get l _ _ (by simp)] at hb
    simp at hb
    obtain ⟨e, h1, h2, h3⟩ := clos1_spec hb
    refine ⟨e, h1, h2, ?_⟩
    rcases h3 with h3 | h3
    · exact .inl h3
    · right
      have := he e h1 h2
      simp only [clos]
      rw [clos_get l _ _ (by simp; omega), List.getElem?_append_left (by omega)]
      exact h3
  | o' :: l, acc, i + 1, k, o, h, hb, he => by
    simp at h
    simp only [clos] at hb ⊢
    have e1 : acc.length + (i + 1) = (acc ++ [clos1 acc o'.after.toList]).length + i := by simp; omega
    rw [e1] at hb
    exact clos_spec l _ i k o h hb (fun e h1 h2 => by have := he e h1 h2; simp; omega)

def edgesOk : List Oper → Nat → Bool
  | [], _ => true
  | o :: l, i => (o.after.toList.all fun e => !Region.binds .any e || Nat.blt e.on i) && edgesOk l (i + 1)
theorem edgesOk_spec : ∀ {l : List Oper} {i : Nat}, edgesOk l i = true → ∀ (j : Nat) (o : Oper), l[j]? = some o → ∀ e ∈ o.after.toList, Region.binds .any e = true → e.on < i + j
  | [], i, _, j, o, hj => by simp at hj
  | o' :: l, i, h, 0, o, hj => by
    simp at hj; subst hj
    simp only [edgesOk, Bool.and_eq_true, List.all_eq_true, Bool.or_eq_true, Bool.not_eq_true'] at h
    intro e he hb
    rcases h.1 e he with h1 | h1
    · rw [hb] at h1; cases h1
    · simpa [Nat.blt_eq] using h1
  | o' :: l, i, h, j + 1, o, hj => by
    simp only [edgesOk, Bool.and_eq_true] at h
    simp at hj
    intro e he hb
    have := edgesOk_spec h.2 j o hj e he hb
    omega

def pairOk (ops : List Oper) (cl : List Nat) : List IT → Bool
  | [] => true
  | x :: r => (r.all fun y => ((cl[y.it.i]?).getD 0).testBit x.it.i || indep ops x y) && pairOk ops cl r
theorem pairOk_spec {cl : List Nat} : ∀ {r : List IT}, pairOk ops cl r = true → ∀ r1 x r2, r = r1 ++ x :: r2 → ∀ k ∈ r1, ((cl[x.it.i]?).getD 0).testBit k.it.i = true ∨ indep ops k x = true
  | [], _, r1, x, r2, h => by simp at h
  | y :: r, hp, r1, x, r2, h => by
    simp only [pairOk, Bool.and_eq_true, List.all_eq_true, Bool.or_eq_true] at hp
    cases r1 with
    | nil => simp
    | cons z r1 =>
      simp only [List.cons_append, List.cons.injEq] at h
      obtain ⟨rfl, h⟩ := h
      intro k hk
      rcases List.mem_cons.1 hk with rfl | hk
      · exact hp.1 x (by rw [h]; simp)
      · exact pairOk_spec hp.2 r1 x r2 h k hk
theorem pairOk_sub {cl : List Nat} : ∀ {r1 : List IT} {x : IT} {r2 : List IT}, pairOk ops cl (r1 ++ x :: r2) = true → pairOk ops cl (r1 ++ r2) = true
  | [], x, r2, h => by simp only [List.nil_append, pairOk, Bool.and_eq_true] at h; exact h.2
  | y :: r1, x, r2, h => by
    simp only [List.cons_append, pairOk, Bool.and_eq_true, List.all_eq_true] at h ⊢
    refine ⟨fun z hz => h.1 z ?_, pairOk_sub h.2⟩
    rcases List.mem_append.1 hz with hz | hz
    · simp [hz]
    · simp [hz]

theorem wpAny_chain (hL : LOK P D) {Q : Exit → Act → World → Prop} {cl : List Nat} (hcl : clos ops [] = cl) (he : edgesOk ops 0 = true) {s' : St} {W0 : World} {S : Nat → Prop} {ρ0 : Env} {a0 : Act}
    (hQ : ∀ ρ' a' W', Env.le ρ0 ρ' → Agree ρ' s'.t a'.tmps → a'.defers = a0.defers → Sat W0 S ρ' s'.h W' → Q .normal a' W') :
    ∀ (r : List IT) (listed : Array Bool) (s : St) (ρ : Env) (a : Act) (W : World), listed.size = ops.length → (∀ i, i < ops.length → (listed.getD i true = false ↔ ∃ x ∈ r, x.it.i = i)) →
      (∀ x ∈ r, ops[x.it.i]? = some x.it.o) → (r.map (·.it.i)).Pairwise (· < ·) → pairOk ops cl r = true →
      (∀ i, i < ops.length → listed.getD i true = true → ∀ k, (((cl[i]?).getD 0).testBit k = true) → k < ops.length → listed.getD k true = true) →
      Chain P D ops r s s' → Env.le ρ0 ρ → Agree ρ s.t a.tmps → a.defers = a0.defers → Sat W0 S ρ s.h W → wpAny P .any ops.toArray Q r.length listed a W := by
  intro r
  generalize hn : r.length = n
  induction n generalizing r with
  | zero =>
    intro listed s ρ a W hsz hli hops hsort hpair hclosed hch hle hag hdf hsat
    have : r = [] := List.eq_nil_of_length_eq_zero hn
    subst this
    simp only [Chain] at hch; subst hch
    refine ⟨?_, hQ ρ a W hle hag hdf hsat⟩
    unfold Region.ready
    rw [List.filter_eq_nil_iff]
    intro i hi
    simp at hi
    have h1 : listed.getD i true = true := by
      cases hh : listed.getD i true with
      | true => rfl
      | false => have := (hli i hi).1 hh; simp at this
    simp [h1]
  | succ n ih =>
    intro listed s ρ a W hsz hli hops hsort hpair hclosed hch hle hag hdf hsat
    refine ⟨fun hready => ?_, ?_⟩
    · exfalso
      cases r with
      | nil => simp at hn
      | cons x r =>
        have hx := hops x (by simp)
        have hxl : x.it.i < ops.length := by
          rcases List.getElem?_eq_some_iff.1 hx with ⟨h, _⟩; exact h
        have : x.it.i ∈ Region.ready .any ops.toArray listed := by
          unfold Region.ready
          rw [List.mem_filter]
          refine ⟨by simpa using hxl, ?_⟩
          have h0 : listed.getD x.it.i true = false := (hli _ hxl).2 ⟨x, by simp, rfl⟩
          simp only [h0, Bool.not_false, Bool.true_and, List.getElem?_toArray, hx, Option.map_some, Option.getD_some]
          rw [Array.all_eq_true_iff_forall_mem]
          intro e hme
          cases hb : Region.binds .any e with
          | false => simp
          | true =>
            have h2 := edgesOk_spec he x.it.i x.it.o hx e (by simpa using hme) hb
            simp only [Nat.zero_add] at h2
            have h3 : listed.getD e.on true = true := by
              cases hh : listed.getD e.on true with
              | true => rfl
              | false =>
                obtain ⟨y, hy, hyi⟩ := (hli e.on (by omega)).1 hh
                rcases List.mem_cons.1 hy with rfl | hy
                · omega
                · simp only [List.map_cons, List.pairwise_cons] at hsort
                  have := hsort.1 y.it.i (List.mem_map.2 ⟨y, hy, rfl⟩)
                  omega
            have h4 : e.on < listed.size := by omega
            simp [Array.getD, h4] at h3 ⊢
            exact h3
        rw [hready] at this; cases this
    · intro i hi
      unfold Region.ready at hi
      rw [List.mem_filter] at hi
      obtain ⟨hi1, hi2⟩ := hi
      have hil : i < ops.length := by simpa using hi1
      simp only [Bool.and_eq_true, Bool.not_eq_true'] at hi2
      obtain ⟨hi3, hi4⟩ := hi2
      obtain ⟨x, hx, hxi⟩ := (hli i hil).1 hi3
      subst hxi
      obtain ⟨r1, r2, rfl⟩ := List.append_of_mem hx
      have hxo := hops x hx
      simp only [List.getElem?_toArray, hxo, Option.map_some, Option.getD_some] at hi4
      rw [Array.all_eq_true_iff_forall_mem] at hi4
      have hedge : ∀ e ∈ x.it.o.after.toList, Region.binds .any e = true → listed.getD e.on true = true ∧ e.on < ops.length := by
        intro e hme hb
        have := hi4 e (by simpa using hme)
        rw [hb] at this
        simp only [Bool.not_true, Bool.false_or] at this
        have h2 := edgesOk_spec he x.it.i x.it.o hxo e hme hb
        have h3 : e.on < listed.size := by omega
        simp [Array.getD, h3] at this ⊢
        exact ⟨this, by omega⟩
      have hind : ∀ k ∈ r1, indep ops k x = true := by
        intro k hk
        rcases pairOk_spec hpair r1 x r2 rfl k hk with h | h
        · exfalso
          rw [← hcl] at h
          have hspec := clos_spec ops [] x.it.i k.it.i x.it.o hxo (by simpa using h) (fun e h1 h2 => by simpa using edgesOk_spec he x.it.i x.it.o hxo e h1 h2)
          obtain ⟨e, h1, h2, h3⟩ := hspec
          have hko := hops k (by simp [hk])
          have hkl : k.it.i < ops.length := by
            rcases List.getElem?_eq_some_iff.1 hko with ⟨h, _⟩; exact h
          have hkf : listed.getD k.it.i true = false := (hli _ hkl).2 ⟨k, by simp [hk], rfl⟩
          obtain ⟨h4, h5⟩ := hedge e h1 h2
          rcases h3 with h3 | h3
          · rw [h3] at h4; rw [hkf] at h4; cases h4
          · rw [hcl] at h3
            have := hclosed e.on h5 h4 k.it.i h3 hkl
            rw [hkf] at this; cases this
        · exact h
      obtain ⟨s1, o, c1, c2, c3, c4⟩ := chain_front r1 x r2 s s' hch hind
      have hwp := xitem_wp hL c1 c2 hag hsat (Q := Q) (K := wpAny P .any ops.toArray Q n (listed.setIfInBounds x.it.i true)) (fun ρ' a' W' h1 h2 h3 h4 => by
        refine ih (r1 ++ r2) (by simp at hn ⊢; omega) _ s1 ρ' a' W' (by simpa using hsz) ?_ ?_ ?_ (pairOk_sub hpair) ?_ c4 (hle.trans h1) h2 (h3.trans hdf) h4
        · intro j hj
          by_cases hji : j = x.it.i
          · subst hji
            constructor
            · intro hh
              have : x.it.i < listed.size := by omega
              simp [Array.getD, this] at hh
            · rintro ⟨y, hy, hyi⟩
              exfalso
              simp only [List.map_append, List.map_cons] at hsort
              rw [List.pairwise_append] at hsort
              rcases List.mem_append.1 hy with hy | hy
              · have := hsort.2.2 y.it.i (List.mem_map.2 ⟨y, hy, rfl⟩) x.it.i (by simp)
                omega
              · have h5 := hsort.2.1
                rw [List.pairwise_cons] at h5
                have := h5.1 y.it.i (List.mem_map.2 ⟨y, hy, rfl⟩)
                omega
          · have e1 : (listed.setIfInBounds x.it.i true).getD j true = listed.getD j true := by
              have hne : x.it.i ≠ j := fun hh => hji hh.symm
              simp [Array.getD_eq_getD_getElem?, Array.getElem?_setIfInBounds_ne hne]
            rw [e1, hli j hj]
            constructor
            · rintro ⟨y, hy, hyi⟩
              rcases List.mem_append.1 hy with hy | hy
              · exact ⟨y, by simp [hy], hyi⟩
              · rcases List.mem_cons.1 hy with rfl | hy
                · exact absurd hyi.symm hji
                · exact ⟨y, by simp [hy], hyi⟩
            · rintro ⟨y, hy, hyi⟩
              rcases List.mem_append.1 hy with hy | hy
              · exact ⟨y, by simp [hy], hyi⟩
              · exact ⟨y, by simp [hy], hyi⟩
        · intro y hy
          refine hops y ?_
          rcases List.mem_append.1 hy with hy | hy <;> simp [hy]
        · simp only [List.map_append, List.map_cons] at hsort ⊢
          rw [List.pairwise_append] at hsort ⊢
          obtain ⟨p1, p2, p3⟩ := hsort
          rw [List.pairwise_cons] at p2
          exact ⟨p1, p2.2, fun u hu v hv => p3 u hu v (by simp [hv])⟩
        · intro j hj hjl k hk hkl
          by_cases hki : k = x.it.i
          · have : x.it.i < listed.size := by omega
            subst hki
            simp [Array.getD, this]
          · have hne : x.it.i ≠ k := fun hh => hki hh.symm
            have e1 : (listed.setIfInBounds x.it.i true).getD k true = listed.getD k true := by
              simp [Array.getD_eq_getD_getElem?, Array.getElem?_setIfInBounds_ne hne]
            rw [e1]
            by_cases hji : j = x.it.i
            · subst hji
              rw [← hcl] at hk
              obtain ⟨e, h5, h6, h7⟩ := clos_spec ops [] x.it.i k x.it.o hxo (by simpa using hk) (fun e h1 h2 => by simpa using edgesOk_spec he x.it.i x.it.o hxo e h1 h2)
              obtain ⟨h8, h9⟩ := hedge e h5 h6
              rcases h7 with h7 | h7
              · rw [← h7]; exact h8
              · rw [hcl] at h7; exact hclosed e.on h9 h8 k h7 hkl
            · have hne2 : x.it.i ≠ j := fun hh => hji hh.symm
              have e2 : (listed.setIfInBounds x.it.i true).getD j true = listed.getD j true := by
                simp [Array.getD_eq_getD_getElem?, Array.getElem?_setIfInBounds_ne hne2]
              rw [e2] at hjl
              exact hclosed j hj hjl k hk hkl)
      unfold wpOp
      simp only [List.getElem?_toArray, hxo]
      split
      · rename_i hw; rw [if_pos hw] at hwp; exact hwp
      · rename_i hw; rw [if_neg hw] at hwp; exact hwp
end
end Go.Sx
