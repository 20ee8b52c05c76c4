/- Part of an executor of given code on symbolic values, with its proof of soundness: what is proved stands in each theorem. -/
import Derived.Test.YtnnmofebjfpcnaaGreatSxDraw
set_option linter.unusedVariables false
set_option linter.unusedSimpArgs false

namespace Go.Sx
open Go.RowKit

/-! ## Renaming -/
mutual
def ren (σ : Nat → Nat) : SV → SV
  | .ptr j off => .ptr (σ j) off
  | .sl j off n c => .sl (σ j) off n c
  | .rw j z lo n => .rw (σ j) z lo n
  | .mapp j => .mapp (σ j)
  | .iface t v => .iface t (ren σ v)
  | .fn f a b => .fn f (renl σ a) (renl σ b)
  | .agg l => .agg (renl σ l)
  | .tup l => .tup (renl σ l)
  | .int k n => .int k n
  | .num k n => .num k n
  | .bool b => .bool b
  | .str s => .str s
  | .nilp => .nilp
  | .nils => .nils
  | .nilI => .nilI
  | .nilF => .nilF
def renl (σ : Nat → Nat) : List SV → List SV
  | [] => []
  | v :: l => ren σ v :: renl σ l
end
mutual
theorem den_ren (σ : Nat → Nat) (ρ : Env) : ∀ v : SV, den ρ (ren σ v) = den (fun j => ρ (σ j)) v
  | .ptr j off => rfl
  | .sl j off n c => rfl
  | .rw j z lo n => rfl
  | .mapp j => rfl
  | .iface t v => by simp only [ren, den, den_ren σ ρ v]
  | .fn f a b => by simp only [ren, den, denl_ren σ ρ a, denl_ren σ ρ b]
  | .agg l => by simp only [ren, den, denl_ren σ ρ l]
  | .tup l => by simp only [ren, den, denl_ren σ ρ l]
  | .int k n => rfl
  | .num k n => rfl
  | .bool b => rfl
  | .str s => rfl
  | .nilp => rfl
  | .nils => rfl
  | .nilI => rfl
  | .nilF => rfl
theorem denl_ren (σ : Nat → Nat) (ρ : Env) : ∀ l : List SV, denl ρ (renl σ l) = denl (fun j => ρ (σ j)) l
  | [] => rfl
  | v :: l => by simp only [renl, denl, den_ren σ ρ v, denl_ren σ ρ l]
end
theorem renl_length (σ : Nat → Nat) : ∀ l : List SV, (renl σ l).length = l.length
  | [] => rfl
  | v :: l => by simp [renl, renl_length σ l]
def renE (σ : Nat → Nat) : Ent → Ent
  | .own e cs => .own e (renl σ cs)
  | .row e z cs => .row e z (renl σ cs)
  | .ro z cs => .ro z (renl σ cs)
  | .mp cs => .mp (renl σ cs)
  | .dead => .dead
def renH (σ : Nat → Nat) (h : List (Nat × Ent)) : List (Nat × Ent) := h.map fun x => (σ x.1, renE σ x.2)

/-- Only names of K are meant. -/
def Sup (K : Nat → Prop) (l : List SV) : Prop := ∀ ρa ρb : Env, (∀ j x, K j → ρa j = some x → ρb j = some x) → ∀ L, denl ρa l = some L → denl ρb l = some L
def SupE (K : Nat → Prop) : Ent → Prop
  | .own _ cs => Sup K cs
  | .row _ _ cs => Sup K cs
  | .ro _ cs => Sup K cs
  | .mp cs => Sup K cs
  | .dead => True

theorem ok_ren {K : Nat → Prop} {σ : Nat → Nat} {ρa ρb : Env} (h : ∀ j x, K j → ρa j = some x → ρb (σ j) = some x) {e : Ent} (hs : SupE K e) {W : World} {l : Loc} (ok : e.ok ρa W l) : (renE σ e).ok ρb W l := by
  cases e with
  | own t cs =>
    obtain ⟨b, Vs, h1, h2, h3, h4⟩ := ok.ex
    exact ⟨b, Vs, h1, by rw [denl_ren]; exact hs ρa _ h Vs h2, h3, h4⟩
  | row t z cs =>
    obtain ⟨Vs, n, h1, h2, h3⟩ := ok.ex
    exact ⟨Vs, n, by rw [denl_ren]; exact hs ρa _ h Vs h1, h2, h3⟩
  | ro z cs =>
    obtain ⟨Vs, h1, h2, h3, h4⟩ := ok.ex
    refine ⟨by rw [renl_length]; exact ok.cap, Vs, by rw [denl_ren]; exact hs ρa _ h Vs h1, h2, fun hne => h3 (fun hh => hne (by rw [hh]; rfl)), h4⟩
  | mp cs =>
    obtain ⟨b, Vs, es, ck, h1, h2, h3, h4⟩ := ok.ex
    exact ⟨b, Vs, es, ck, h1, by rw [denl_ren]; exact hs ρa _ h Vs h2, h3, h4⟩
  | dead => trivial
theorem ok_unren {K : Nat → Prop} {σ : Nat → Nat} {ρa ρb : Env} (h : ∀ j x, K j → ρb (σ j) = some x → ρa j = some x) {e : Ent} (hs : SupE K e) {W : World} {l : Loc} (ok : (renE σ e).ok ρb W l) : e.ok ρa W l := by
  cases e with
  | own t cs =>
    obtain ⟨b, Vs, h1, h2, h3, h4⟩ := ok.ex
    rw [denl_ren] at h2
    exact ⟨b, Vs, h1, hs _ ρa h Vs h2, h3, h4⟩
  | row t z cs =>
    obtain ⟨Vs, n, h1, h2, h3⟩ := ok.ex
    rw [denl_ren] at h1
    exact ⟨Vs, n, hs _ ρa h Vs h1, h2, h3⟩
  | ro z cs =>
    obtain ⟨Vs, h1, h2, h3, h4⟩ := ok.ex
    rw [denl_ren] at h1
    have hc := ok.cap
    rw [renl_length] at hc
    refine ⟨hc, Vs, hs _ ρa h Vs h1, h2, fun hne => h3 (fun hh => hne ?_), h4⟩
    have := renl_length σ cs; rw [hh] at this
    exact List.eq_nil_of_length_eq_zero this.symm
  | mp cs =>
    obtain ⟨b, Vs, es, ck, h1, h2, h3, h4⟩ := ok.ex
    rw [denl_ren] at h2
    exact ⟨b, Vs, es, ck, h1, hs _ ρa h Vs h2, h3, h4⟩
  | dead => trivial
theorem renE_mine (σ : Nat → Nat) (e : Ent) : (renE σ e).mine = e.mine := by cases e <;> rfl
theorem renE_live (σ : Nat → Nat) (e : Ent) : (renE σ e).live = e.live := by cases e <;> rfl

theorem get_mem : ∀ {h : Heap} {j : Nat} {e : Ent}, get h j = some e → (j, e) ∈ h
  | [], j, e, hh => by simp [get] at hh
  | (k, x) :: h, j, e, hh => by
    simp only [get] at hh
    cases hb : Nat.beq k j with
    | true =>
      rw [hb] at hh; simp only [cond_true, Option.some.injEq] at hh
      have := Nat.eq_of_beq_eq_true hb
      subst this; subst hh; simp
    | false =>
      rw [hb] at hh; simp only [cond_false] at hh
      simp [get_mem hh]

theorem get_puts_mem : ∀ {w : List (Nat × Ent)} {h : Heap} {j : Nat} {e : Ent}, (w.map (·.1)).Nodup → (j, e) ∈ w → get (puts h w) j = some e
  | [], h, j, e, _, hm => by cases hm
  | (k, x) :: w, h, j, e, hn, hm => by
    simp only [List.map_cons, List.nodup_cons] at hn
    simp only [puts]
    rcases List.mem_cons.1 hm with hm | hm
    · injection hm with h1 h2; subst h1; subst h2
      rw [get_puts w _ _ hn.1, get_put, if_pos rfl]
    · exact get_puts_mem hn.2 hm

/-- The names that are still known behind a call: those of h, and of w. -/
def Kept (h : Heap) (w : List (Nat × Ent)) (j : Nat) : Prop := (∃ e, get h j = some e) ∨ ∃ e, (j, e) ∈ w

theorem con_of_fn {P : Program} {f : FuncId} {as : List SV} {h h' : Heap} {v : SV} (hfn : FnOK P f as h v h') (σ : Nat → Nat) (w : List (Nat × Ent))
    (hnd : ((renH σ w).map (·.1)).Nodup) (inj : ∀ i j, Kept h w i → Kept h w j → σ i = σ j → i = j)
    (hw : ∀ j e, (j, e) ∈ w → get h' j = some e ∧ SupE (Kept h w) e ∧ (e.mine = true ∨ e = .dead)) (hun : ∀ j e, get h j = some e → j ∉ w.map (·.1) → get h' j = some e)
    (hh : ∀ j e, get h j = some e → SupE (fun j => ∃ e, get h j = some e) e) (has : Sup (fun j => ∃ e, get h j = some e) as) (hv : Sup (Kept h w) [v]) :
    Con P f (renl σ as) (renH σ h) (ren σ v) (renH σ w) := by
  classical
  intro W0 S ρ hc W As hsat hrd hfresh hden
  have hK : ∀ j e, get h j = some e → Kept h w j := fun j e he => .inl ⟨e, he⟩
  have hKw : ∀ j e, (j, e) ∈ w → Kept h w j := fun j e he => .inr ⟨e, he⟩
  let ρf : Env := fun j => match get h j with | some _ => ρ (σ j) | none => none
  let S' : Nat → Prop := fun b => ∃ j e l, get h j = some e ∧ e.mine = true ∧ ρ (σ j) = some l ∧ l.blk = some b
  have hrd' : ∀ j e, get h j = some e → get hc (σ j) = some (renE σ e) := fun j e he => hrd _ _ (List.mem_map.2 ⟨(j, e), get_mem he, rfl⟩)
  have ρf1 : ∀ j e, get h j = some e → ρf j = ρ (σ j) := fun j e he => by simp only [ρf, he]
  have ρf0 : ∀ j, get h j = none → ρf j = none := fun j he => by simp only [ρf, he]
  have hsub : ∀ j x, (∃ e, get h j = some e) → ρ (σ j) = some x → ρf j = some x := fun j x ⟨e, he⟩ hx => by rw [ρf1 j e he]; exact hx
  have hA : denl ρf as = some As := by rw [denl_ren] at hden; exact has _ ρf hsub As hden
  have hsat' : Sat W S' ρf h W := by
    refine ⟨⟨rfl, rfl, rfl, Nat.le_refl _, fun _ _ _ => rfl⟩, ρf0, ?_, ?_, ?_⟩
    · intro j e he
      obtain ⟨l, hl, ok⟩ := hsat.ent _ _ (hrd' j e he)
      exact ⟨l, by rw [ρf1 j e he]; exact hl, ok_unren hsub (hh j e he) ok⟩
    · intro i j ei ej li lj b hij hi hj hmi hlj hli hlj2 hbi
      rw [ρf1 i ei hi] at hli; rw [ρf1 j ej hj] at hlj2
      exact hsat.dist _ _ _ _ li lj b (fun hs => hij (inj i j (hK i ei hi) (hK j ej hj) hs)) (hrd' i ei hi) (hrd' j ej hj) (by rw [renE_mine]; exact hmi) (by rw [renE_live]; exact hlj) hli hlj2 hbi
    · intro j e l b he hm hl hb
      rw [ρf1 j e he] at hl
      exact .inl ⟨j, e, l, he, hm, hl, hb⟩
  refine (hfn W S' ρf W As hA hsat').mono ?_
  rintro e W' ⟨ρ', V, hle, hd, rfl, hs⟩
  -- the caller's new env
  have hnew : ∀ j e, (j, e) ∈ w → get h j = none → get hc (σ j) = none := by
    intro j e hm hj
    rcases hfresh (σ j) (by simp only [renH, List.map_map, List.mem_map]; exact ⟨(j, e), hm, rfl⟩) with hr | hr
    · exfalso
      simp only [renH, List.map_map, List.mem_map] at hr
      obtain ⟨⟨k, x⟩, hk, hkj⟩ := hr
      simp only [Function.comp] at hkj
      have hkg : ∃ x', get h k = some x' := by
        cases hg : get h k with
        | some x' => exact ⟨x', rfl⟩
        | none =>
          exfalso
          have : ∀ {h : Heap} {k : Nat} {x : Ent}, (k, x) ∈ h → get h k ≠ none := by
            intro h
            induction h with
            | nil => intro k x hm; cases hm
            | cons y h ih =>
              intro k x hm
              obtain ⟨a, b⟩ := y
              simp only [get]
              cases hb : Nat.beq a k with
              | true => simp
              | false =>
                simp only [cond_false]
                rcases List.mem_cons.1 hm with hm | hm
                · injection hm with h1 _; subst h1; simp at hb
                · exact ih hm
          exact this hk hg
      obtain ⟨x', hx'⟩ := hkg
      have := inj k j (hK k x' hx') (hKw j e hm) hkj
      subst this
      rw [hx'] at hj; cases hj
    · exact hr
  let isNew : Nat → Prop := fun j => (∃ e, (j, e) ∈ w) ∧ get h j = none
  let ρ'' : Env := fun i => (if hx : ∃ j, isNew j ∧ σ j = i then ρ' (Classical.choose hx) else ρ i)
  have r1 : ∀ j, isNew j → ρ'' (σ j) = ρ' j := by
    intro j hj
    have hx : ∃ k, isNew k ∧ σ k = σ j := ⟨j, hj, rfl⟩
    have hc2 := Classical.choose_spec hx
    have e1 : Classical.choose hx = j := by
      obtain ⟨⟨e1, he1⟩, _⟩ := hc2.1
      obtain ⟨⟨e2, he2⟩, _⟩ := hj
      exact inj _ _ (hKw _ e1 he1) (hKw _ e2 he2) hc2.2
    simp only [ρ'', dif_pos hx, e1]
  have r2 : ∀ i, (∀ j, isNew j → σ j ≠ i) → ρ'' i = ρ i := by
    intro i hi
    have hx : ¬ ∃ k, isNew k ∧ σ k = i := fun ⟨k, h1, h2⟩ => hi k h1 h2
    simp only [ρ'', dif_neg hx]
  have hleρ : Env.le ρ ρ'' := by
    intro i l hl
    rw [r2]
    · exact hl
    · rintro j ⟨⟨e, he⟩, hj⟩ rfl
      have := hsat.key _ (hnew j e he hj)
      rw [this] at hl; cases hl
  have old : ∀ j e, get h j = some e → ρ'' (σ j) = ρ (σ j) := by
    intro j e he
    refine r2 _ ?_
    rintro k ⟨⟨x, hx⟩, hk⟩ hkj
    have := inj k j (hKw k x hx) (hK j e he) hkj
    subst this; rw [he] at hk; cases hk
  have rA : ∀ j x, Kept h w j → ρ' j = some x → ρ'' (σ j) = some x := by
    intro j x hj hx
    cases hg : get h j with
    | some e =>
      obtain ⟨l, hl, _⟩ := hsat'.ent j e hg
      have h1 := hle j l hl
      rw [hx] at h1; injection h1 with h1; subst h1
      rw [old j e hg, ← ρf1 j e hg]; exact hl
    | none =>
      rcases hj with ⟨e, he⟩ | ⟨e, he⟩
      · rw [hg] at he; cases he
      · rw [r1 j ⟨⟨e, he⟩, hg⟩]; exact hx
  refine ⟨ρ'', V, hleρ, ?_, rfl, ?_⟩
  · rw [den_ren]
    have h1 := hv ρ' (fun j => ρ'' (σ j)) rA [V] (denl_cons.2 ⟨V, [], hd, rfl, rfl⟩)
    obtain ⟨V', M, h2, _, h3⟩ := denl_cons.1 h1
    injection h3 with h3 _; rw [h3]; exact h2
  · -- the caller's blocks
    have wk : ∀ i e, get (puts hc (renH σ w)) i = some e → (∃ k e0, (k, e0) ∈ w ∧ i = σ k ∧ e = renE σ e0) ∨ ((∀ k e0, (k, e0) ∈ w → i ≠ σ k) ∧ get hc i = some e) := by
      intro i e he
      by_cases hi : i ∈ (renH σ w).map (·.1)
      · simp only [renH, List.map_map, List.mem_map] at hi
        obtain ⟨⟨k, e0⟩, hk, hki⟩ := hi
        simp only [Function.comp] at hki
        subst hki
        have := get_puts_mem (h := hc) hnd (List.mem_map.2 ⟨(k, e0), hk, rfl⟩ : (σ k, renE σ e0) ∈ renH σ w)
        rw [he] at this; injection this with this
        exact .inl ⟨k, e0, hk, rfl, this⟩
      · rw [get_puts _ _ _ hi] at he
        refine .inr ⟨fun k e0 hk hik => hi ?_, he⟩
        simp only [renH, List.map_map, List.mem_map]
        exact ⟨(k, e0), hk, hik.symm⟩
    have foot : ∀ b, S' b → S b ∨ W0.heap.size ≤ b := by
      rintro b ⟨j, e, l, he, hm, hl, hb⟩
      exact hsat.mine _ _ l b (hrd' j e he) (by rw [renE_mine]; exact hm) hl hb
    -- an entry of the caller's that the callee doesn't know
    have far : ∀ i e l, get hc i = some e → e.live = true → (∀ j x, get h j = some x → i ≠ σ j) → ρ i = some l → ∀ b, l.blk = some b → ¬ S' b ∧ b < W.heap.size := by
      intro i e l hi hlv hne hl b hb
      obtain ⟨l2, hl2, ok⟩ := hsat.ent i e hi
      rw [hl] at hl2; injection hl2 with hl2; subst hl2
      refine ⟨?_, Ent.blk_lt ok hlv b hb⟩
      rintro ⟨j, x, lj, hx, hm, hlj, hbj⟩
      exact hsat.dist (σ j) i _ _ lj l b (fun hh => hne j x hx hh.symm) (hrd' j x hx) hi (by rw [renE_mine]; exact hm) hlv hlj hl hbj hb
    have keep : ∀ b, b < W.heap.size → ¬ S' b → W'.heap[b]? = W.heap[b]? := hs.fr.block
    -- where i is no new name
    have rold : ∀ i, (∀ k e0, (k, e0) ∈ w → i ≠ σ k) → ρ'' i = ρ i := by
      intro i hi
      refine r2 i ?_
      rintro k ⟨⟨x, hx⟩, _⟩ hki
      exact hi k x hx hki.symm
    -- all entries behind the call: known to the callee, or far
    have kinds : ∀ i e l, get (puts hc (renH σ w)) i = some e → ρ'' i = some l →
        (∃ k e0, Kept h w k ∧ i = σ k ∧ e = renE σ e0 ∧ get h' k = some e0 ∧ ρ' k = some l ∧ SupE (Kept h w) e0 ∧ (get h k = some e0 ∨ e0.mine = true ∨ e0 = .dead)) ∨
        ((∀ j x, get h j = some x → i ≠ σ j) ∧ get hc i = some e ∧ ρ i = some l) := by
      intro i e l he hl
      rcases wk i e he with ⟨k, e0, hk, rfl, rfl⟩ | ⟨hne, hg⟩
      · obtain ⟨h1, h2, h3⟩ := hw k e0 hk
        obtain ⟨l2, hl2, _⟩ := hs.ent k e0 h1
        have := rA k l2 (hKw k e0 hk) hl2
        rw [hl] at this; injection this with this; subst this
        exact .inl ⟨k, e0, hKw k e0 hk, rfl, rfl, h1, hl2, h2, .inr h3⟩
      · rw [rold i hne] at hl
        by_cases hx : ∃ j x, get h j = some x ∧ i = σ j
        · obtain ⟨j, x, hx, rfl⟩ := hx
          have h1 := hrd' j x hx
          rw [hg] at h1; injection h1 with h1; subst h1
          have hnw : j ∉ w.map (·.1) := by
            intro hm
            obtain ⟨⟨k, e0⟩, hk, hkj⟩ := List.mem_map.1 hm
            simp only at hkj; subst hkj
            exact hne _ e0 hk rfl
          have h2 := hun j x hx hnw
          obtain ⟨l2, hl2, _⟩ := hs.ent j x h2
          have := rA j l2 (hK j x hx) hl2
          rw [rold _ hne, hl] at this; injection this with this; subst this
          refine .inl ⟨j, x, hK j x hx, rfl, rfl, h2, hl2, ?_, .inl hx⟩
          have hsx := hh j x hx
          cases x with
          | dead => trivial
          | mp cs => exact fun ρa ρb hab => hsx ρa ρb (fun j' x' ⟨e', he'⟩ => hab j' x' (.inl ⟨e', he'⟩))
          | own t cs => exact fun ρa ρb hab => hsx ρa ρb (fun j' x' ⟨e', he'⟩ => hab j' x' (.inl ⟨e', he'⟩))
          | row t z cs => exact fun ρa ρb hab => hsx ρa ρb (fun j' x' ⟨e', he'⟩ => hab j' x' (.inl ⟨e', he'⟩))
          | ro z cs => exact fun ρa ρb hab => hsx ρa ρb (fun j' x' ⟨e', he'⟩ => hab j' x' (.inl ⟨e', he'⟩))
        · exact .inr ⟨fun j x hjx hij => hx ⟨j, x, hjx, hij⟩, hg, hl⟩
    refine ⟨⟨hs.fr.os.trans hsat.fr.os, hs.fr.tape.trans hsat.fr.tape, hs.fr.output.trans hsat.fr.output, Nat.le_trans hsat.fr.size hs.fr.size, ?_⟩, ?_, ?_, ?_, ?_⟩
    · intro b hb hnS
      rw [keep b (Nat.lt_of_lt_of_le hb hsat.fr.size) (fun hS' => ?_)]
      · exact hsat.fr.block b hb hnS
      · rcases foot b hS' with h1 | h1
        · exact hnS h1
        · omega
    · intro i hi
      have hne : ∀ k e0, (k, e0) ∈ w → i ≠ σ k := by
        rintro k e0 hk rfl
        have := get_puts_mem (h := hc) hnd (List.mem_map.2 ⟨(k, e0), hk, rfl⟩ : (σ k, renE σ e0) ∈ renH σ w)
        rw [hi] at this; cases this
      rw [rold i hne]
      refine hsat.key i ?_
      rw [← hi, get_puts]
      intro hm
      simp only [renH, List.map_map, List.mem_map] at hm
      obtain ⟨⟨k, e0⟩, hk, hki⟩ := hm
      exact hne k e0 hk hki.symm
    · intro i e he
      have hex : ∃ l, ρ'' i = some l := by
        rcases wk i e he with ⟨k, e0, hk, rfl, rfl⟩ | ⟨hne, hg⟩
        · obtain ⟨h1, _⟩ := hw k e0 hk
          obtain ⟨l2, hl2, _⟩ := hs.ent k e0 h1
          exact ⟨l2, rA k l2 (hKw k e0 hk) hl2⟩
        · obtain ⟨l, hl, _⟩ := hsat.ent i e hg
          exact ⟨l, by rw [rold i hne]; exact hl⟩
      obtain ⟨l, hl⟩ := hex
      refine ⟨l, hl, ?_⟩
      rcases kinds i e l he hl with ⟨k, e0, hk, rfl, rfl, h1, h2, h3, _⟩ | ⟨hne, hg, hl2⟩
      · obtain ⟨l2, hl2, ok⟩ := hs.ent k e0 h1
        rw [h2] at hl2; injection hl2 with hl2; subst hl2
        exact ok_ren rA h3 ok
      · obtain ⟨l3, hl3, ok⟩ := hsat.ent i e hg
        rw [hl2] at hl3; injection hl3 with hl3; subst hl3
        by_cases hlv : e.live = true
        · refine Ent.ok_mono hleρ hs.fr.size (fun b hb => ?_) ok
          obtain ⟨f1, f2⟩ := far i e l hg hlv hne hl2 b hb
          exact keep b f2 f1
        · cases e <;> simp [Ent.live] at hlv
          trivial
    · intro i j ei ej li lj b hij hi hj hmi hlj hli hlj2 hbi hbj
      rcases kinds i ei li hi hli with ⟨k, e0, hk, rfl, rfl, h1, h2, h3, h4⟩ | ⟨hne, hg, hl2⟩
      · rw [renE_mine] at hmi
        rcases kinds j ej lj hj hlj2 with ⟨k', e1, hk', rfl, rfl, g1, g2, g3, g4⟩ | ⟨gne, gg, gl2⟩
        · rw [renE_live] at hlj
          exact hs.dist k k' e0 e1 li lj b (fun hh => hij (by rw [hh])) h1 g1 hmi hlj h2 g2 hbi hbj
        · obtain ⟨f1, f2⟩ := far j ej lj gg hlj gne gl2 b hbj
          rcases hs.mine k e0 li b h1 hmi h2 hbi with q | q
          · exact f1 q
          · omega
      · rcases kinds j ej lj hj hlj2 with ⟨k', e1, hk', rfl, rfl, g1, g2, g3, g4⟩ | ⟨gne, gg, gl2⟩
        · rw [renE_live] at hlj
          obtain ⟨f1, f2⟩ := far i ei li hg (by cases ei <;> simp_all [Ent.mine, Ent.live]) hne hl2 b hbi
          by_cases hm : e1.mine = true
          · rcases hs.mine k' e1 lj b g1 hm g2 hbj with q | q
            · exact f1 q
            · omega
          · rcases g4 with g4 | g4 | g4
            · have hg3 := hrd' k' e1 g4
              obtain ⟨lk, hlk, _⟩ := hsat'.ent k' e1 g4
              have h5 := hle k' lk hlk
              rw [g2] at h5; injection h5 with h5; subst h5
              rw [ρf1 k' e1 g4] at hlk
              exact hsat.dist i (σ k') ei _ li lj b (hne k' e1 g4) hg hg3 hmi (by rw [renE_live]; exact hlj) hl2 hlk hbi hbj
            · exact hm g4
            · subst g4; simp [Ent.live] at hlj
        · exact hsat.dist i j ei ej li lj b hij hg gg hmi hlj hl2 gl2 hbi hbj
    · intro i e l b hi hm hl hb
      rcases kinds i e l hi hl with ⟨k, e0, hk, rfl, rfl, h1, h2, h3, h4⟩ | ⟨hne, hg, hl2⟩
      · rw [renE_mine] at hm
        rcases hs.mine k e0 l b h1 hm h2 hb with q | q
        · exact foot b q
        · right; exact Nat.le_trans hsat.fr.size q
      · exact hsat.mine i e l b hg hm hl2 hb
end Go.Sx
