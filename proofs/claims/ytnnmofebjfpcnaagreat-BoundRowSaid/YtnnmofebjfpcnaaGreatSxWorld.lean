/- Part of an executor of given code on symbolic values, with its proof of soundness: what is proved stands in each theorem. -/
import Derived.Test.YtnnmofebjfpcnaaGreatSxHeap
set_option linter.unusedVariables false
set_option linter.unusedSimpArgs false

namespace Go.Sx
open Go.RowKit

def Env.upd (ρ : Env) (m : Nat) (l : Loc) : Env := fun j => if j = m then some l else ρ j
theorem Env.upd_le {ρ : Env} {m : Nat} {l : Loc} (h : ρ m = none) : Env.le ρ (ρ.upd m l) := fun j k e => by
  unfold Env.upd
  split
  · rename_i hj; subst hj; rw [h] at e; cases e
  · exact e

theorem ownsRow_block {W W' : World} {B : Nat} {e z : Nat} {v : Value} {n : Nat} {xs : List Value} (h : W.ownsRow B e z v n xs)
    (hb : ∀ k, v.ownBlock = some k → W'.heap[k]? = W.heap[k]?) : W'.ownsRow B e z v n xs := by
  obtain ⟨h1, h2⟩ := h
  refine ⟨h1, ?_⟩
  rcases h2 with h2 | ⟨g, cap, cur, hv, hg, hh, r⟩
  · exact .inl h2
  · exact .inr ⟨g, cap, cur, hv, hg, by rw [hb g (by rw [hv]; rfl)]; exact hh, r⟩

theorem Loc.val_block (l : Loc) (n : Nat) : (l.val n).ownBlock = l.blk := by
  unfold Loc.val Loc.blk; cases l.adr <;> rfl

/-- An entry in another world, where its block is as it was; and at a greater env. -/
theorem Ent.ok_mono {ρ ρ' : Env} {W W' : World} {l : Loc} {e : Ent} (hρ : Env.le ρ ρ') (hs : W.heap.size ≤ W'.heap.size)
    (hb : ∀ k, l.blk = some k → W'.heap[k]? = W.heap[k]?) (h : e.ok ρ W l) : e.ok ρ' W' l := by
  cases e with
  | own e cs =>
    obtain ⟨b, Vs, h1, h2, h3, h4⟩ := h.ex
    exact ⟨b, Vs, h1, denl_le hρ _ _ h2, by rw [hb b (by simp [Loc.blk, h1])]; exact h3, h4⟩
  | row e z cs =>
    obtain ⟨Vs, n, h1, h2, h3⟩ := h.ex
    exact ⟨Vs, n, denl_le hρ _ _ h1, h2, ownsRow_block h3 (fun k hk => hb k (by rw [← hk, Loc.val_block]))⟩
  | ro z cs =>
    obtain ⟨Vs, h1, h2, h3, h4⟩ := h.ex
    refine ⟨h.cap, Vs, denl_le hρ _ _ h1, h2, h3, fun a ha => ⟨Nat.lt_of_lt_of_le (h4 a ha).1 hs, fun i V hV => ?_⟩⟩
    rw [← (h4 a ha).2 i V hV]
    refine World.cell?_of_block ?_
    have : (a.add i).block = a.block := by unfold Addr.add; split <;> rfl
    rw [this]
    exact hb _ (by simp [Loc.blk, ha])
  | mp cs =>
    obtain ⟨b, Vs, es, ck, h1, h2, h3, h4⟩ := h.ex
    exact ⟨b, Vs, es, ck, h1, denl_le hρ _ _ h2, by rw [hb b (by simp [Loc.blk, h1])]; exact h3, h4⟩
  | dead => trivial

/-- Where a live entry's block lies. -/
theorem Ent.blk_lt {ρ : Env} {W : World} {l : Loc} {e : Ent} (h : e.ok ρ W l) (hl : e.live = true) (k : Nat) (hk : l.blk = some k) : k < W.heap.size := by
  cases e with
  | own e cs =>
    obtain ⟨b, Vs, h1, h2, h3, h4⟩ := h.ex
    simp [Loc.blk, h1] at hk; subst hk
    exact (Array.getElem?_eq_some_iff.1 h3).1
  | row e z cs =>
    obtain ⟨Vs, n, h1, h2, h3⟩ := h.ex
    exact (h3.lt k (by rw [Loc.val_block]; exact hk)).2
  | ro z cs =>
    obtain ⟨Vs, h1, h2, h3, h4⟩ := h.ex
    unfold Loc.blk at hk
    rw [Option.map_eq_some_iff] at hk
    obtain ⟨a, ha, rfl⟩ := hk
    exact (h4 a ha).1
  | mp cs =>
    obtain ⟨b, Vs, es, ck, h1, h2, h3, h4⟩ := h.ex
    simp [Loc.blk, h1] at hk; subst hk
    exact (Array.getElem?_eq_some_iff.1 h3).1
  | dead => simp [Ent.live] at hl

theorem Sat.get_env {W0 S ρ h W} (s : Sat W0 S ρ h W) {m : Nat} (hm : get h m = none) : ρ m = none := s.key m hm

/-- A world in which every live entry's block, and all outside, is as it was: a callee's own new blocks, a draw. -/
theorem Sat.below {W0 S ρ h W W'} (s : Sat W0 S ρ h W) (hb : Below W.heap.size W W') : Sat W0 S ρ h W' where
  fr := ⟨hb.os.trans s.fr.os, hb.tape.trans s.fr.tape, hb.output.trans s.fr.output, Nat.le_trans s.fr.size hb.size,
    fun k hk hS => (hb.block k (Nat.lt_of_lt_of_le hk s.fr.size)).trans (s.fr.block k hk hS)⟩
  key := s.key
  ent := fun j e he => by
    obtain ⟨l, hl, ok⟩ := s.ent j e he
    by_cases hlive : e.live = true
    · exact ⟨l, hl, Ent.ok_mono (Env.le.refl _) hb.size (fun k hk => hb.block k (Ent.blk_lt ok hlive k hk)) ok⟩
    · cases e <;> simp [Ent.live] at hlive
      exact ⟨l, hl, trivial⟩
  dist := s.dist
  mine := s.mine

/-- A new block, of whatever kind, under a new name. -/
theorem Sat.allocE {W0 S ρ h W} (s : Sat W0 S ρ h W) {m : Nat} (hm : get h m = none) (o : Obj) {e : Ent}
    (ok : e.ok (ρ.upd m ⟨some ⟨W.heap.size, 0, none⟩, 0⟩) (W.alloc o) ⟨some ⟨W.heap.size, 0, none⟩, 0⟩) :
    Sat W0 S (ρ.upd m ⟨some ⟨W.heap.size, 0, none⟩, 0⟩) (put h m e) (W.alloc o) := by
  have hρ : ρ m = none := s.key m hm
  have hle := Env.upd_le (l := ⟨some ⟨W.heap.size, 0, none⟩, 0⟩) hρ
  have hsz : (W.alloc o).heap.size = W.heap.size + 1 := by simp
  have hold : ∀ k, k < W.heap.size → (W.alloc o).heap[k]? = W.heap[k]? := fun k hk => Below.heap_alloc _ _ _ hk
  refine ⟨⟨s.fr.os, s.fr.tape, s.fr.output, ?_, ?_⟩, ?_, ?_, ?_, ?_⟩
  · have := s.fr.size; omega
  · intro k hk hS
    rw [hold k (Nat.lt_of_lt_of_le hk s.fr.size)]; exact s.fr.block k hk hS
  · intro j hj
    rw [get_put] at hj
    by_cases hjm : j = m
    · rw [if_pos hjm] at hj; cases hj
    · rw [if_neg hjm] at hj; simp [Env.upd, hjm, s.key j hj]
  · intro j f hf
    rw [get_put] at hf
    by_cases hjm : j = m
    · rw [if_pos hjm] at hf; injection hf with hf; subst hf; subst hjm
      exact ⟨⟨some ⟨W.heap.size, 0, none⟩, 0⟩, by simp [Env.upd], ok⟩
    · rw [if_neg hjm] at hf
      obtain ⟨l, hl, ok⟩ := s.ent j f hf
      refine ⟨l, by simp [Env.upd, hjm, hl], ?_⟩
      by_cases hlive : f.live = true
      · exact Ent.ok_mono hle (by omega) (fun k hk => hold k (Ent.blk_lt ok hlive k hk)) ok
      · cases f <;> simp [Ent.live] at hlive
        trivial
  · intro i j ei ej li lj b hij hi hj hmi hlj hli hlj2 hbi
    rw [get_put] at hi hj
    by_cases him : i = m
    · have hjm : ¬ j = m := fun hh => hij (him.trans hh.symm)
      rw [if_pos him] at hi; rw [if_neg hjm] at hj
      simp [Env.upd, him] at hli; simp [Env.upd, hjm] at hlj2
      subst hli; simp [Loc.blk] at hbi; subst hbi
      obtain ⟨l, hl, ok⟩ := s.ent j ej hj
      rw [hl] at hlj2; injection hlj2 with hlj2; subst hlj2
      intro hh
      have := Ent.blk_lt ok hlj _ hh
      omega
    · rw [if_neg him] at hi; simp [Env.upd, him] at hli
      by_cases hjm : j = m
      · rw [if_pos hjm] at hj; simp [Env.upd, hjm] at hlj2; subst hlj2
        simp [Loc.blk]
        obtain ⟨l, hl, ok⟩ := s.ent i ei hi
        rw [hl] at hli; injection hli with hli; subst hli
        have := Ent.blk_lt ok (by cases ei <;> simp_all [Ent.mine, Ent.live]) _ hbi
        omega
      · rw [if_neg hjm] at hj; simp [Env.upd, hjm] at hlj2
        exact s.dist i j ei ej li lj b hij hi hj hmi hlj hli hlj2 hbi
  · intro j f l b hj hm1 hl hb
    rw [get_put] at hj
    by_cases hjm : j = m
    · simp [Env.upd, hjm] at hl; subst hl; simp [Loc.blk] at hb; subst hb
      right; exact s.fr.size
    · rw [if_neg hjm] at hj; simp [Env.upd, hjm] at hl
      exact s.mine j f l b hj hm1 hl hb

/-- A new block under a new name. -/
theorem Sat.alloc {W0 S ρ h W} (s : Sat W0 S ρ h W) {m : Nat} (hm : get h m = none) {e : TypeId} {cs : List SV} {Vs : List Value}
    (hd : denl ρ cs = some Vs) (h1 : ∀ V ∈ Vs, V.oneCell' = true) :
    Sat W0 S (ρ.upd m ⟨some ⟨W.heap.size, 0, none⟩, 0⟩) (put h m (.own e cs)) (W.alloc (.cells Vs.toArray e)) :=
  s.allocE hm _ ⟨W.heap.size, Vs, rfl, denl_le (Env.upd_le (s.key m hm)) _ _ hd, heap_alloc_new W _, h1⟩

theorem heap_setRow_ne (W : World) (g : Nat) (cs : Array Value) (k : Nat) (h : k ≠ g) : (W.setRow g cs).heap[k]? = W.heap[k]? := by
  simp only [World.setRow, Array.getElem?_modify]
  rw [if_neg (by omega)]

/-- A named block turned. -/
theorem Sat.turn {W0 S ρ h W} (s : Sat W0 S ρ h W) {j : Nat} {e e' : Ent} {l : Loc} {b : Nat} (hj : get h j = some e) (hm : e.mine = true) (hl : ρ j = some l) (hb : l.blk = some b)
    {W' : World} (os : W'.os = W.os) (tape : W'.tape = W.tape) (output : W'.output = W.output) (hsz : W'.heap.size = W.heap.size) (hne : ∀ k, k ≠ b → W'.heap[k]? = W.heap[k]?) (ok' : e'.ok ρ W' l) : Sat W0 S ρ (put h j e') W' := by
  refine ⟨⟨os.trans s.fr.os, tape.trans s.fr.tape, output.trans s.fr.output, by rw [hsz]; exact s.fr.size, ?_⟩, ?_, ?_, ?_, ?_⟩
  · intro k hk hS
    by_cases hkb : k = b
    · subst hkb
      rcases s.mine j e l k hj hm hl hb with hh | hh
      · exact absurd hh hS
      · omega
    · rw [hne _ hkb]; exact s.fr.block k hk hS
  · intro i hi
    rw [get_put] at hi
    by_cases hij : i = j
    · rw [if_pos hij] at hi; cases hi
    · rw [if_neg hij] at hi; exact s.key i hi
  · intro i f hf
    rw [get_put] at hf
    by_cases hij : i = j
    · rw [if_pos hij] at hf; injection hf with hf; subst hf; subst hij
      exact ⟨l, hl, ok'⟩
    · rw [if_neg hij] at hf
      obtain ⟨k, hk, ok⟩ := s.ent i f hf
      refine ⟨k, hk, ?_⟩
      by_cases hlive : f.live = true
      · refine Ent.ok_mono (Env.le.refl _) (by omega) (fun c hc => ?_) ok
        refine hne _ ?_
        rintro rfl
        exact s.dist j i e f l k c (fun hh => hij hh.symm) hj hf hm hlive hl hk hb hc
      · cases f <;> simp [Ent.live] at hlive
        trivial
  · intro i k ei ek li lk c hik hi hk hmi hlk hli hlk2 hbi
    rw [get_put] at hi hk
    have e1 : ∃ fi, get h i = some fi ∧ fi.mine = true := by
      by_cases hij : i = j
      · subst hij; exact ⟨e, hj, hm⟩
      · rw [if_neg hij] at hi; exact ⟨ei, hi, hmi⟩
    have e2 : ∃ fk, get h k = some fk ∧ fk.live = true := by
      by_cases hkj : k = j
      · subst hkj; exact ⟨e, hj, by cases e <;> simp_all [Ent.mine, Ent.live]⟩
      · rw [if_neg hkj] at hk; exact ⟨ek, hk, hlk⟩
    obtain ⟨fi, h1, h2⟩ := e1
    obtain ⟨fk, h3, h4⟩ := e2
    exact s.dist i k fi fk li lk c hik h1 h3 h2 h4 hli hlk2 hbi
  · intro i f k c hi hmi hk hc
    rw [get_put] at hi
    by_cases hij : i = j
    · subst hij; exact s.mine i e k c hj hm hk hc
    · rw [if_neg hij] at hi; exact s.mine i f k c hi hmi hk hc

/-- Cells written into a named block. -/
theorem Sat.setRow {W0 S ρ h W} (s : Sat W0 S ρ h W) {j : Nat} {e e' : Ent} {l : Loc} {b : Nat} (hj : get h j = some e) (hm : e.mine = true) (hl : ρ j = some l) (hb : l.blk = some b)
    (cs : Array Value) (ok' : e'.ok ρ (W.setRow b cs) l) : Sat W0 S ρ (put h j e') (W.setRow b cs) :=
  s.turn hj hm hl hb rfl rfl rfl (by simp [World.setRow]) (fun k hk => heap_setRow_ne _ _ _ _ hk) ok'
end Go.Sx
