/- Part of an executor of given code on symbolic values, with its proof of soundness: what is proved stands in each theorem. -/
import Derived.Test.YtnnmofebjfpcnaaGreatSxEql
import Derived.ScopeJumps
set_option linter.unusedVariables false
set_option linter.unusedSimpArgs false

namespace Go.Sx
open Go.RowKit

def lk (l : List (Nat × SV)) (i : Nat) : Option SV :=
  match l with
  | [] => none
  | (j, v) :: l => bif Nat.beq j i then some v else lk l i
/-- Slots from i on. -/
def mkTF (l : List (Nat × SV)) : Nat → Nat → Tmps
  | 0, _ => []
  | n + 1, i => lk l i :: mkTF l n (i + 1)
def mkT (n : Nat) (l : List (Nat × SV)) : Tmps := mkTF l n 0
theorem mkTF_length (l : List (Nat × SV)) : ∀ n i, (mkTF l n i).length = n
  | 0, _ => rfl
  | n + 1, i => by simp [mkTF, mkTF_length l n]
theorem mkTF_get (l : List (Nat × SV)) : ∀ n i j, tget (mkTF l n i) j = if j < n then lk l (i + j) else none
  | 0, i, j => by simp [mkTF, tget]
  | n + 1, i, 0 => by simp [mkTF, tget]
  | n + 1, i, j + 1 => by
    simp only [mkTF, tget, mkTF_get l n, Nat.add_lt_add_iff_right]
    rw [show i + 1 + j = i + (j + 1) from by omega]
theorem mkT_length (l : List (Nat × SV)) (n : Nat) : (mkT n l).length = n := mkTF_length l n 0
theorem mkT_get {l : List (Nat × SV)} {n j : Nat} {v : SV} (h : tget (mkT n l) j = some v) : lk l j = some v := by
  unfold mkT at h
  rw [mkTF_get] at h
  split at h
  · simpa using h
  · cases h
theorem lk_mem : ∀ {l : List (Nat × SV)} {i : Nat} {v : SV}, lk l i = some v → (i, v) ∈ l
  | [], i, v, h => by simp [lk] at h
  | (j, u) :: l, i, v, h => by
    simp only [lk] at h
    cases hb : Nat.beq j i with
    | true => rw [hb] at h; simp only [cond_true, Option.some.injEq] at h; have := Nat.eq_of_beq_eq_true hb; subst this; subst h; simp
    | false => rw [hb] at h; simp only [cond_false] at h; simp [lk_mem h]

def tau (l : List (Nat × Nat)) (j : Nat) : Nat :=
  match l with
  | [] => j
  | (a, b) :: l => bif Nat.beq a j then b else tau l j

/-- What is looked at behind a piece of code. -/
structure Look where
  e : Ex
  len : Nat
  vs : List (Option SV)
  es : List (Option Ent)
  low : Bool
def lowOk (b : Nat) (h2 : List Nat) : Heap → Bool
  | [] => true
  | (j, _) :: h => (!Nat.blt j b || mem j h2) && lowOk b h2 h
def tgets (t : Tmps) : List Nat → List (Option SV)
  | [] => []
  | i :: l => tget t i :: tgets t l
def hgets (h : Heap) : List Nat → List (Option Ent)
  | [] => []
  | i :: l => get h i :: hgets h l
def view (b : Nat) (sl nm kept : List Nat) (r : Option (Ex × St × Nat × Ds × List Prop)) : Option (Look × List Prop) :=
  match r with
  | some (e, s, _, _, o) => some (⟨e, s.t.length, tgets s.t sl, hgets s.h nm, lowOk b kept s.h⟩, o)
  | none => none

/-- State s1 says at least as much as s2, by other names from b on. -/
def Canon (b : Nat) (s1 s2 : St) : Prop :=
  ∀ (W0 : World) (S : Nat → Prop) (ρ : Env) (tm : Array Value) (W : World), Agree ρ s1.t tm → Sat W0 S ρ s1.h W → ∃ ρ', leB b ρ ρ' ∧ Agree ρ' s2.t tm ∧ Sat W0 S ρ' s2.h W

theorem lowOk_spec {b : Nat} {l : List Nat} : ∀ {h : Heap}, lowOk b l h = true → ∀ j e, get h j = some e → j < b → j ∈ l
  | [], _, j, e, he, _ => by simp [get] at he
  | (k, x) :: h, hl, j, e, he, hj => by
    simp only [lowOk, Bool.and_eq_true, Bool.or_eq_true, Bool.not_eq_true'] at hl
    simp only [get] at he
    cases hb : Nat.beq k j with
    | true =>
      have := Nat.eq_of_beq_eq_true hb; subst this
      rcases hl.1 with h1 | h1
      · have : Nat.blt k b = true := by simpa [Nat.blt_eq] using hj
        rw [this] at h1; cases h1
      · exact mem_iff.1 h1
    | false =>
      rw [hb] at he; simp only [cond_false] at he
      exact lowOk_spec hl.2 j e he hj

theorem canon_ok {b : Nat} {s1 s2 : St} (τ : Nat → Nat) (hlen : s2.t.length = s1.t.length) (ht : ∀ i v, tget s2.t i = some v → (tget s1.t i).map soft = some (soft (ren τ v))) (htn : ∀ i v, tget s2.t i = some v → Sup (fun j => ∃ e, get s2.h j = some e) [v])
    (hh : ∀ j e, get s2.h j = some e → (get s1.h (τ j)).map softE = some (softE (renE τ e))) (hhn : ∀ j e, get s2.h j = some e → SupE (fun j => ∃ e, get s2.h j = some e) e)
    (inj : ∀ i j e f, get s2.h i = some e → get s2.h j = some f → τ i = τ j → i = j)
    (hlow : ∀ j e, get s1.h j = some e → j < b → (∃ e, get s2.h j = some e) ∧ τ j = j) : Canon b s1 s2 := by
  intro W0 S ρ tm W hag hsat
  let ρ' : Env := fun j => match get s2.h j with | some _ => ρ (τ j) | none => none
  have r1 : ∀ j e, get s2.h j = some e → ρ' j = ρ (τ j) := fun j e he => by simp only [ρ', he]
  have r0 : ∀ j, get s2.h j = none → ρ' j = none := fun j he => by simp only [ρ', he]
  have hsub : ∀ j x, (∃ e, get s2.h j = some e) → (fun j => ρ (τ j)) j = some x → ρ' j = some x := fun j x ⟨e, he⟩ hx => by rw [r1 j e he]; exact hx
  have hh2 : ∀ j e, get s2.h j = some e → ∃ f, get s1.h (τ j) = some f ∧ softE f = softE (renE τ e) := by
    intro j e he
    have := hh j e he
    cases hf : get s1.h (τ j) with
    | none => rw [hf] at this; cases this
    | some f => rw [hf] at this; simp only [Option.map_some, Option.some.injEq] at this; exact ⟨f, rfl, this⟩
  refine ⟨ρ', ?_, ⟨by rw [hlen]; exact hag.len, ?_⟩, ⟨hsat.fr, r0, ?_, ?_, ?_⟩⟩
  · intro j l hj hl
    cases hg : get s1.h j with
    | none => rw [hsat.key j hg] at hl; cases hl
    | some e =>
      obtain ⟨⟨e2, he2⟩, hτ⟩ := hlow j e hg hj
      rw [r1 j e2 he2, hτ]; exact hl
  · intro i v hv
    have ht1 := ht i v hv
    have h1 : den ρ (ren τ v) = some (tm.getD i undef) := by
      cases hu : tget s1.t i with
      | none => rw [hu] at ht1; cases ht1
      | some u =>
        rw [hu] at ht1; simp only [Option.map_some, Option.some.injEq] at ht1
        rw [← den_soft, ← ht1, den_soft]
        exact hag.val i u hu
    rw [den_ren] at h1
    have := htn i v hv (fun j => ρ (τ j)) ρ' hsub [tm.getD i undef] (denl_cons.2 ⟨_, [], h1, rfl, rfl⟩)
    obtain ⟨V, M, h2, _, h3⟩ := denl_cons.1 this
    injection h3 with h3 _; rw [h3]; exact h2
  · intro j e he
    obtain ⟨f, hf, hs⟩ := hh2 j e he
    obtain ⟨l, hl, ok⟩ := hsat.ent _ _ hf
    exact ⟨l, by rw [r1 j e he]; exact hl, ok_unren hsub (hhn j e he) ((soft_ok hs).1 ok)⟩
  · intro i j ei ej li lj c hij hi hj hmi hlj hli hlj2 hbi
    rw [r1 i ei hi] at hli; rw [r1 j ej hj] at hlj2
    obtain ⟨fi, hfi, hsi⟩ := hh2 i ei hi
    obtain ⟨fj, hfj, hsj⟩ := hh2 j ej hj
    exact hsat.dist _ _ _ _ li lj c (fun hs => hij (inj i j ei ej hi hj hs)) hfi hfj (by rw [soft_mine hsi, renE_mine]; exact hmi) (by rw [soft_live hsj, renE_live]; exact hlj) hli hlj2 hbi
  · intro j e l c he hm hl hc
    rw [r1 j e he] at hl
    obtain ⟨f, hf, hs⟩ := hh2 j e he
    exact hsat.mine _ _ l c hf (by rw [soft_mine hs, renE_mine]; exact hm) hl hc

section
variable {P : Program} {D : Dat}

theorem CodeOK.weaken {b : Nat} {c : Code} {s s1 s2 : St} {e : Ex} (h : CodeOK P b c s s1 e) (hc : Canon b s1 s2) : CodeOK P b c s s2 e := by
  intro W0 S ρ a W Q hag hdf hsat hQ
  refine h W0 S ρ a W Q hag hdf hsat (fun ρ1 a1 W1 k1 k2 k3 k4 => ?_)
  obtain ⟨ρ', q1, q2, q3⟩ := hc W0 S ρ1 a1.tmps W1 k2 k4
  exact hQ ρ' a1 W1 (k1.trans q1) q2 k3 q3
theorem CodeOK.strengthen {b : Nat} {c : Code} {s0 s s1 : St} {e : Ex} (hc : Canon b s0 s) (h : CodeOK P b c s s1 e) : CodeOK P b c s0 s1 e := by
  intro W0 S ρ a W Q hag hdf hsat hQ
  obtain ⟨ρ', q1, q2, q3⟩ := hc W0 S ρ a.tmps W hag hsat
  exact h W0 S ρ' a W Q q2 hdf q3 (fun ρ1 a1 W1 k1 k2 k3 k4 => hQ ρ1 a1 W1 (q1.trans k1) k2 k3 k4)

/-- N rounds, and one that leaves. -/
theorem loop_rule {b : Nat} {c : Code} {s' : St} {e : Ex} (σ : Nat → St) : ∀ (N : Nat) (k : Nat), (∀ i, k ≤ i → i < k + N → CodeOK P b c (σ i) (σ (i + 1)) .normal) → CodeOK P b c (σ (k + N)) s' e → e ≠ .normal → CodeOK P b (.loop c) (σ k) s' e := by
  intro N k hr hl he W0 S ρ a W Q hag hdf hsat hQ
  refine wp_loop_rounds (N + 1) ?_
  induction N generalizing k ρ a W with
  | zero =>
    show c.wp P (Exit.then (Code.rounds P c Q 0) Q) a W
    refine hl W0 S ρ a W _ hag hdf hsat (fun ρ1 a1 W1 k1 k2 k3 k4 => ?_)
    rw [Ex.then_of he]
    exact hQ ρ1 a1 W1 k1 k2 k3 k4
  | succ N ih =>
    show c.wp P (Exit.then (Code.rounds P c Q (N + 1)) Q) a W
    refine hr k (Nat.le_refl _) (by omega) W0 S ρ a W _ hag hdf hsat (fun ρ1 a1 W1 k1 k2 k3 k4 => ?_)
    exact ih (k + 1) (fun i h1 h2 => hr i (by omega) (by omega)) (by rw [show k + 1 + N = k + (N + 1) from by omega]; exact hl) ρ1 a1 W1 k2 k3 k4 (fun ρ2 a2 W2 l1 l2 l3 l4 => hQ ρ2 a2 W2 (k1.trans l1) l2 l3 l4)

/-- A piece of code, by the executor, its end state in other words. -/
def matchT (τ : Nat → Nat) : List (Nat × SV) → List (Option SV) → Prop
  | [], [] => True
  | (_, v) :: l, u :: m => u.map soft = some (soft (ren τ v)) ∧ matchT τ l m
  | _, _ => False
def matchH (τ : Nat → Nat) : List (Nat × Ent) → List (Option Ent) → Prop
  | [], [] => True
  | (_, e) :: l, u :: m => u.map softE = some (softE (renE τ e)) ∧ matchH τ l m
  | _, _ => False

theorem tgets_match {τ : Nat → Nat} {t : Tmps} : ∀ {l : List (Nat × SV)}, matchT τ l (tgets t (l.map (·.1))) → ∀ i v, (i, v) ∈ l → (tget t i).map soft = some (soft (ren τ v))
  | [], _, i, v, hm => by cases hm
  | (j, u) :: l, h, i, v, hm => by
    simp only [List.map_cons, tgets, matchT] at h
    rcases List.mem_cons.1 hm with hm | hm
    · injection hm with h1 h2; subst h1; subst h2; exact h.1
    · exact tgets_match h.2 i v hm
theorem hgets_match {τ : Nat → Nat} {h1 : Heap} : ∀ {l : List (Nat × Ent)}, matchH τ l (hgets h1 (l.map fun x => τ x.1)) → ∀ i v, (i, v) ∈ l → (get h1 (τ i)).map softE = some (softE (renE τ v))
  | [], _, i, v, hm => by cases hm
  | (j, u) :: l, h, i, v, hm => by
    simp only [List.map_cons, hgets, matchH] at h
    rcases List.mem_cons.1 hm with hm | hm
    · injection hm with h1 h2; subst h1; subst h2; exact h.1
    · exact hgets_match h.2 i v hm

theorem code_ok (hL : LOK P D) {b : Nat} {c : Code} {s : St} {e : Ex} {L : Nat} {sl : List (Nat × SV)} {hp : Heap} (τl : List (Nat × Nat)) (n nx : Nat) (ds : Ds) {vs : List (Option SV)} {es : List (Option Ent)} {o : List Prop}
    (hv : view b (sl.map (·.1)) (hp.map fun x => tau τl x.1) (hp.map (·.1)) (runCode P D n b c s nx ds) = some (⟨e, L, vs, es, true⟩, o)) (ho : All o)
    (hvs : matchT (tau τl) sl vs) (hes : matchH (tau τl) hp es)
    (hnt : ∀ i v, (i, v) ∈ sl → Sup (fun j => ∃ e, get hp j = some e) [v]) (hnh : ∀ j e, (j, e) ∈ hp → SupE (fun j => ∃ e, get hp j = some e) e)
    (hinj : (hp.map fun x => tau τl x.1).Nodup) (hfix : ∀ j ∈ hp.map (·.1), j < b → tau τl j = j) : CodeOK P b c s ⟨mkT L sl, hp⟩ e := by
  cases hr : runCode P D n b c s nx ds with
  | none => rw [hr] at hv; simp [view] at hv
  | some q =>
    obtain ⟨e', s1, nx', ds', o'⟩ := q
    rw [hr] at hv
    simp only [view, Option.some.injEq, Prod.mk.injEq, Look.mk.injEq] at hv
    obtain ⟨⟨rfl, rfl, rfl, rfl, hlow⟩, rfl⟩ := hv
    refine ((sound hL n).code _ _ _ _ _ _ _ _ _ _ hr ho).weaken ?_
    refine canon_ok (tau τl) (mkT_length _ _) (fun i v hi => tgets_match hvs i v (lk_mem (mkT_get hi))) (fun i v hi => hnt i v (lk_mem (mkT_get hi))) (fun j e he => hgets_match hes j e (get_mem he)) (fun j e he => hnh j e (get_mem he)) ?_ ?_
    · intro i j ei ej hi hj hτ
      have hpw : hp.Pairwise (fun x y => tau τl x.1 ≠ tau τl y.1) := by
        have := hinj
        rw [List.Nodup, List.pairwise_map] at this
        exact this
      by_cases hij : i = j
      · exact hij
      · exfalso
        have m1 := get_mem hi
        have m2 := get_mem hj
        have : ∀ x ∈ hp, ∀ y ∈ hp, x ≠ y → tau τl x.1 ≠ tau τl y.1 := by
          clear hvs hes hnt hnh hinj hfix hlow m1 m2 hi hj
          induction hp with
          | nil => intro x hx; cases hx
          | cons z hp ih =>
            rw [List.pairwise_cons] at hpw
            intro x hx y hy hxy
            rcases List.mem_cons.1 hx with hx1 | hx1
            · rcases List.mem_cons.1 hy with hy1 | hy1
              · exact absurd (hx1.trans hy1.symm) hxy
              · rw [hx1]; exact hpw.1 y hy1
            · rcases List.mem_cons.1 hy with hy1 | hy1
              · rw [hy1]; exact fun h => hpw.1 x hx1 h.symm
              · exact ih hpw.2 x hx1 y hy1 hxy
        exact this _ m1 _ m2 (fun h => hij (by injection h)) hτ
    · intro j e he hj
      have := lowOk_spec hlow j e he hj
      refine ⟨?_, hfix j this hj⟩
      obtain ⟨⟨k, x⟩, hk, hkj⟩ := List.mem_map.1 this
      simp only at hkj; subst hkj
      have : ∀ {h : Heap} {k : Nat} {x : Ent}, (k, x) ∈ h → ∃ e, get h k = some e := by
        intro h
        induction h with
        | nil => intro k x hm; cases hm
        | cons y h ih =>
          intro k x hm
          obtain ⟨a, b⟩ := y
          simp only [get]
          cases hb : Nat.beq a k with
          | true => exact ⟨b, rfl⟩
          | false =>
            simp only [cond_false]
            rcases List.mem_cons.1 hm with hm | hm
            · injection hm with h1 _; subst h1; simp at hb
            · exact ih hm
      exact this hk
end
end Go.Sx
