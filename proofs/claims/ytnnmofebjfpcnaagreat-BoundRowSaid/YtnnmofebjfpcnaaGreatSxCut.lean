/- Part of an executor of given code on symbolic values, with its proof of soundness: what is proved stands in each theorem. -/
import Derived.Test.YtnnmofebjfpcnaaGreatSxRo
set_option linter.unusedVariables false
set_option linter.unusedSimpArgs false

namespace Go.Sx
open Go.RowKit

/-- The loops and scopes of a function, in the order of the text. -/
def cuts : Code → List Code
  | .seq x y => cuts x ++ cuts y
  | .cond _ x y => cuts x ++ cuts y
  | .block _ x => cuts x
  | .loop x => .loop x :: cuts x
  | .scope x => .scope x :: cuts x
  | .rangeFunc f p x y => .rangeFunc f p x y :: (cuts x ++ cuts y)
  | _ => []
def cutAt (P : Program) (f i : Nat) : Code :=
  match P.funcs[f]? with
  | some fn => (match fn.body with | some c => (cuts c).getD i .skip | none => .skip)
  | none => .skip
def Code.inner : Code → Code
  | .loop c => c
  | .scope c => c
  | c => c
def loopB (P : Program) (f i : Nat) : Code := Code.inner (cutAt P f i)

/-- Cells that mean no names. -/
structure Nl (cs : List SV) : Prop where
  sup : Sup (fun _ => False) cs
  ren : ∀ σ, renl σ cs = cs
theorem Nl.ints (k : IntKind) (l : List Int) : Nl (l.map (SV.int k)) := ⟨sup_ints k l, fun σ => renl_ints σ k l⟩
theorem Nl.of {cs : List SV} (h : nmInL [] cs = true) : Nl cs := ⟨sup_of [] h (fun j hj => by cases hj), fun σ => renl_nil σ cs h⟩
theorem Nl.app {a b : List SV} (ha : Nl a) (hb : Nl b) : Nl (a ++ b) := by
  refine ⟨sup_app ha.sup hb.sup, fun σ => ?_⟩
  have : ∀ (a b : List SV), renl σ (a ++ b) = renl σ a ++ renl σ b := by
    intro a b
    induction a with
    | nil => rfl
    | cons v a ih => simp only [List.cons_append, renl, ih]
  rw [this, ha.ren, hb.ren]

/-- In a heap's entries. -/
def EntN (K : List Nat) : Ent → Prop
  | .own _ cs => Nl cs ∨ nmInL K cs = true
  | .row _ _ cs => Nl cs ∨ nmInL K cs = true
  | .ro _ cs => Nl cs ∨ nmInL K cs = true
  | .mp cs => Nl cs ∨ nmInL K cs = true
  | .dead => True
def HeapN (K : List Nat) : List (Nat × Ent) → Prop
  | [] => True
  | (_, e) :: h => EntN K e ∧ HeapN K h
theorem EntN.sup {K : List Nat} {Kp : Nat → Prop} {e : Ent} (h : EntN K e) (hK : ∀ j ∈ K, Kp j) : SupE Kp e := by
  cases e with
  | dead => trivial
  | own t cs => rcases h with h | h; exact h.sup.mono (fun _ h => h.elim); exact sup_of K h hK
  | row t z cs => rcases h with h | h; exact h.sup.mono (fun _ h => h.elim); exact sup_of K h hK
  | ro z cs => rcases h with h | h; exact h.sup.mono (fun _ h => h.elim); exact sup_of K h hK
  | mp cs => rcases h with h | h; exact h.sup.mono (fun _ h => h.elim); exact sup_of K h hK
theorem HeapN.mem {K : List Nat} : ∀ {h : List (Nat × Ent)}, HeapN K h → ∀ j e, (j, e) ∈ h → EntN K e
  | [], _, j, e, hm => by cases hm
  | (k, x) :: h, hh, j, e, hm => by
    rcases List.mem_cons.1 hm with hm | hm
    · injection hm with h1 h2; subst h2; exact hh.1
    · exact HeapN.mem hh.2 j e hm

theorem get_of_mem : ∀ {h : Heap} {k : Nat} {x : Ent}, (k, x) ∈ h → ∃ e, get h k = some e
  | [], k, x, hm => by cases hm
  | (a, b) :: h, k, x, hm => by
    simp only [get]
    cases hb : Nat.beq a k with
    | true => exact ⟨b, rfl⟩
    | false =>
      simp only [cond_false]
      rcases List.mem_cons.1 hm with hm | hm
      · injection hm with h1 _; subst h1; simp at hb
      · exact get_of_mem hm

def nodupB : List Nat → Bool
  | [] => true
  | j :: l => !mem j l && nodupB l
theorem nodupB_iff : ∀ {l : List Nat}, nodupB l = true → l.Nodup
  | [], _ => List.nodup_nil
  | j :: l, h => by
    simp only [nodupB, Bool.and_eq_true, Bool.not_eq_true'] at h
    refine List.nodup_cons.2 ⟨fun hm => ?_, nodupB_iff h.2⟩
    rw [mem_iff.2 hm] at h; cases h.1
def fixB (τ : Nat → Nat) (b : Nat) : List Nat → Bool
  | [] => true
  | j :: l => (!Nat.blt j b || Nat.beq (τ j) j) && fixB τ b l
theorem fixB_iff {τ : Nat → Nat} {b : Nat} : ∀ {l : List Nat}, fixB τ b l = true → ∀ j ∈ l, j < b → τ j = j
  | [], _, j, hj, _ => by cases hj
  | k :: l, h, j, hj, hlt => by
    simp only [fixB, Bool.and_eq_true, Bool.or_eq_true, Bool.not_eq_true'] at h
    rcases List.mem_cons.1 hj with rfl | hj
    · rcases h.1 with h | h
      · have : Nat.blt j b = true := by simpa [Nat.blt_eq] using hlt
        rw [this] at h; cases h
      · exact Nat.eq_of_beq_eq_true h
    · exact fixB_iff h.2 j hj hlt

theorem tau_inj {τ : Nat → Nat} : ∀ {hp : List (Nat × Ent)}, (hp.map fun x => τ x.1).Nodup → ∀ i j ei ej, (i, ei) ∈ hp → (j, ej) ∈ hp → τ i = τ j → i = j
  | [], _, i, j, ei, ej, hm, _, _ => by cases hm
  | (k, x) :: hp, hn, i, j, ei, ej, hi, hj, he => by
    simp only [List.map_cons, List.nodup_cons] at hn
    rcases List.mem_cons.1 hi with h1 | h1
    · rcases List.mem_cons.1 hj with h2 | h2
      · injection h1 with h1 _; injection h2 with h2 _; rw [h1, h2]
      · exfalso
        injection h1 with h1 _; subst h1
        exact hn.1 (by rw [he]; exact List.mem_map.2 ⟨(j, ej), h2, rfl⟩)
    · rcases List.mem_cons.1 hj with h2 | h2
      · exfalso
        injection h2 with h2 _; subst h2
        exact hn.1 (by rw [← he]; exact List.mem_map.2 ⟨(i, ei), h1, rfl⟩)
      · exact tau_inj hn.2 i j ei ej h1 h2 he

/-- All that is looked at in a state, for its form in other words. -/
def nmSl (K : List Nat) : List (Nat × SV) → Bool
  | [] => true
  | (_, v) :: l => nmIn K v && nmSl K l
theorem nmSl_mem {K : List Nat} : ∀ {l : List (Nat × SV)}, nmSl K l = true → ∀ i v, (i, v) ∈ l → nmIn K v = true
  | [], _, i, v, hm => by cases hm
  | (j, u) :: l, h, i, v, hm => by
    simp only [nmSl, Bool.and_eq_true] at h
    rcases List.mem_cons.1 hm with hm | hm
    · injection hm with h1 h2; subst h2; exact h.1
    · exact nmSl_mem h.2 i v hm

structure SeeOK (b : Nat) (s1 : St) (L : Nat) (sl : List (Nat × SV)) (hp : Heap) (τl : List (Nat × Nat)) : Prop where
  len : s1.t.length = L
  low : lowOk b (hp.map (·.1)) s1.h = true
  ts : matchT (tau τl) sl (tgets s1.t (sl.map (·.1)))
  hs : matchH (tau τl) hp (hgets s1.h (hp.map fun x => tau τl x.1))

theorem canon_of {b L : Nat} {s1 : St} {sl : List (Nat × SV)} {hp : Heap} (τl : List (Nat × Nat)) (hsee : SeeOK b s1 L sl hp τl) (hnt : nmSl (hp.map (·.1)) sl = true) (hnh : HeapN (hp.map (·.1)) hp)
    (hinj : nodupB (hp.map fun x => tau τl x.1) = true) (hfix : fixB (tau τl) b (hp.map (·.1)) = true) : Canon b s1 ⟨mkT L sl, hp⟩ := by
  have hK : ∀ j ∈ hp.map (·.1), ∃ e, get hp j = some e := fun j hj => by
    obtain ⟨⟨k, x⟩, hk, hkj⟩ := List.mem_map.1 hj
    simp only at hkj; subst hkj; exact get_of_mem hk
  refine canon_ok (tau τl) (by rw [hsee.len]; exact mkT_length _ _) (fun i v hi => tgets_match hsee.ts i v (lk_mem (mkT_get hi))) (fun i v hi => ?_) (fun j e he => hgets_match hsee.hs j e (get_mem he)) (fun j e he => (hnh.mem j e (get_mem he)).sup hK) ?_ ?_
  · exact sup_of (hp.map (·.1)) (by simp [nmInL, nmSl_mem hnt i v (lk_mem (mkT_get hi))]) hK
  · intro i j ei ej hi hj hτ
    exact tau_inj (nodupB_iff hinj) i j ei ej (get_mem hi) (get_mem hj) hτ
  · intro j e he hj
    have := lowOk_spec hsee.low j e he hj
    exact ⟨hK j this, fixB_iff hfix j this hj⟩

/-- A piece of code by the executor, its end told in other words. -/
theorem code_see {P : Program} {D : Dat} (hL : LOK P D) {b : Nat} {c : Code} {s : St} {e : Ex} {L : Nat} {sl : List (Nat × SV)} {hp : Heap} (τl : List (Nat × Nat)) (n nx : Nat) (ds : Ds) {vs : List (Option SV)} {es : List (Option Ent)} {o : List Prop}
    (hv : view b (sl.map (·.1)) (hp.map fun x => tau τl x.1) (hp.map (·.1)) (runCode P D n b c s nx ds) = some (⟨e, L, vs, es, true⟩, o)) (ho : All o)
    (hvs : matchT (tau τl) sl vs) (hes : matchH (tau τl) hp es) (hnt : nmSl (hp.map (·.1)) sl = true) (hnh : HeapN (hp.map (·.1)) hp)
    (hinj : nodupB (hp.map fun x => tau τl x.1) = true) (hfix : fixB (tau τl) b (hp.map (·.1)) = true) : CodeOK P b c s ⟨mkT L sl, hp⟩ e := by
  cases hr : runCode P D n b c s nx ds with
  | none => rw [hr] at hv; simp [view] at hv
  | some q =>
    obtain ⟨e', s1, nx', ds', o'⟩ := q
    rw [hr] at hv
    simp only [view, Option.some.injEq, Prod.mk.injEq, Look.mk.injEq] at hv
    obtain ⟨⟨rfl, rfl, rfl, rfl, hlow⟩, rfl⟩ := hv
    exact ((sound hL n).code _ _ _ _ _ _ _ _ _ _ hr ho).weaken (canon_of τl ⟨rfl, hlow, hvs, hes⟩ hnt hnh hinj hfix)

/-- A row as the answer of a function that only reads its slices. -/
theorem con_row {P : Program} {f : FuncId} {vs : List VA} {rd : List (Nat × Ent)} {k : Nat} {t : TypeId} {cs : List SV} (hf : Heap) (r m : Nat) (hfn : FnOK P f (inn 0 vs) (roH 0 vs) (.rw r 1 0 k) (hf ++ roH 0 vs)) (hg : keysGe vs.length hf = true)
    (hr : vs.length ≤ r) (hget : get hf r = some (.row t 1 cs)) (hc : Nl cs) (hnl : ∀ x ∈ vs, x.nl) (hs : ∀ x ∈ vs, x.okIn rd) (hm : m ∉ rd.map (·.1)) :
    Con P f (vs.map VA.out) rd (.rw m 1 0 k) [(m, .row t 1 cs)] := by
  obtain ⟨i0, h⟩ := con_keep (rd := rd) hf hfn hg [(r, .row t 1 cs)] [(r, m)] rfl (by simp) (by simp) (by simpa using hr) (by simpa using hget) (by simp [Ent.mine])
    (by rintro j e he; simp at he; obtain ⟨rfl, rfl⟩ := he; exact hc.sup.mono (fun _ h => h.elim)) (sup_of [r] (by simp [nmInL, nmIn, mem]) (by simp)) hnl hs (by simpa using hm)
  simpa [renH, renE, ren, sg, hc.ren] using h
/-- .. a plain value. -/
theorem con_val {P : Program} {f : FuncId} {vs : List VA} {rd : List (Nat × Ent)} {v : SV} (hf : Heap) (hfn : FnOK P f (inn 0 vs) (roH 0 vs) v (hf ++ roH 0 vs)) (hg : keysGe vs.length hf = true)
    (hv : nmIn [] v = true) (hnl : ∀ x ∈ vs, x.nl) (hs : ∀ x ∈ vs, x.okIn rd) : Con P f (vs.map VA.out) rd v [] := by
  obtain ⟨i0, h⟩ := con_keep (rd := rd) hf hfn hg [] [] rfl (by simp) (by simp) (by simp) (by simp) (by simp) (by simp) (sup_nil (by simp [nmInL, hv])) hnl hs (by simp)
  rw [ren_nil _ _ hv] at h
  simpa [renH] using h
end Go.Sx
