/- Part of an executor of given code on symbolic values, with its proof of soundness: what is proved stands in each theorem. -/
import Derived.Test.YtnnmofebjfpcnaaGreatSxEff5
set_option linter.unusedVariables false
set_option linter.unusedSimpArgs false

namespace Go.Sx
open Go.RowKit

/-- append onto a row (nil, or its head at a block's head): both arms. -/
theorem append_row {P : Program} {W : World} {t tx ty e : TypeId} {i : TypeInfo} {z : Value} {size : Nat} (ht : P.underlying t = some (.slice e)) (hi : P.info? e = some i) (hz : i.zero = some z)
    (hsize : i.size = size) (hzs : z.cells.size = size) {v : Value} {n : Nat} {xs : List Value} (hown : W.ownsRow 0 e size v n xs)
    {x : Value} {k : Nat} {news : List Value} (hs : Src P size tx x k news W) (hb : (n + k) * i.bytes ≤ 140737488355328 ∧ n + k ≤ 9223372036854775807) :
    ∃ v' W', (Builtin.append_ #[t, tx] ty #[v, x]).run P W = .ok v' W' ∧ W'.ownsRow 0 e size v' (n + k) (xs ++ news) ∧ W.grownBy W' v.ownBlock ∧
      (v'.ownBlock = v.ownBlock ∨ v'.ownBlock = some W.heap.size) := by
  subst hsize
  have hlen : (xs ++ news).length = (n + k) * i.size := by rw [List.length_append, hown.1, hs.newsLen, Nat.add_mul]
  have grow : ∀ (old : Nat), ∀ (base : Option Addr), v = .slice base n old → (Builtin.firstCells i.size n (.slice base n old)).run P W.drew = .ok xs.toArray W.drew → old < n + k →
      ∃ v' W', (Builtin.append_ #[t, tx] ty #[v, x]).run P W = .ok v' W' ∧ W'.ownsRow 0 e i.size v' (n + k) (xs ++ news) ∧ W.grownBy W' v.ownBlock ∧
      (v'.ownBlock = v.ownBlock ∨ v'.ownBlock = some W.heap.size) := by
    intro old base hv hf ho
    subst hv
    have hge := grownCap_ge W (n + k) old e
    have hcm : grownCap W (n + k) old e ≤ maxLen := grownCap_le_maxLen W (n + k) old e (by simp only [maxLen]; omega)
    have hfit : Builtin.nextslicecap (n + k) old * i.bytes ≤ 281474976710656 := by
      have : Builtin.nextslicecap (n + k) old ≤ 2 * (n + k) := by
        unfold Builtin.nextslicecap
        split
        · omega
        · split
          · omega
          · have : ∀ (r c : Nat), c ≤ 2 * (n + k) → n + k > 0 → 256 ≤ c → Builtin.growBy (n + k) r c ≤ 2 * (n + k) := by
              intro r
              induction r with
              | zero => intro c hc _ _; exact hc
              | succ r ih =>
                intro c hc h0 h256
                simp only [Builtin.growBy]
                split
                · exact hc
                · exact ih _ (by omega) h0 (by omega)
            exact this 4 old (by omega) (by omega) (by omega)
      calc Builtin.nextslicecap (n + k) old * i.bytes ≤ (2 * (n + k)) * i.bytes := Nat.mul_le_mul_right _ this
        _ = 2 * ((n + k) * i.bytes) := by rw [Nat.mul_assoc]
        _ ≤ 281474976710656 := by omega
    have hrun := run_append_grow_src (P := P) W t tx ty e i z ht hi hz base n old xs hf x k news hs ho (by omega) hfit
    refine ⟨_, _, hrun, ⟨hlen, .inr ⟨W.heap.size, _, _, rfl, Nat.zero_le _, heap_alloc_new W.drew _, hge, hcm, ?_, ?_⟩⟩, ⟨rfl, rfl, rfl, by simp, fun j hj _ => Below.heap_alloc W.drew _ j hj⟩, .inr rfl⟩
    · rw [Array.size_append, size_zeroCells, hzs]
      have : (xs ++ news).toArray.size = (n + k) * i.size := by simpa using hlen
      rw [this, ← Nat.add_mul]
      congr 1; omega
    · rw [Array.toList_append, ← hlen]
      exact List.take_left
  rcases hown.2 with ⟨rfl, rfl⟩ | ⟨g, cap, cur, rfl, hbg, hg, hnc, hcm, hcs, htake⟩
  · have hx : xs = [] := List.eq_nil_of_length_eq_zero (by simpa using hown.1)
    subst hx
    by_cases hk : k = 0
    · subst hk
      have hnews : news = [] := List.eq_nil_of_length_eq_zero (by simpa using hs.newsLen)
      subst hnews
      refine ⟨.slice none 0 0, W, ?_, by simpa using hown, ⟨rfl, rfl, rfl, Nat.le_refl _, fun _ _ _ => rfl⟩, .inl rfl⟩
      rcases hs.kind with ⟨e', hk⟩ | hk <;> simp [Builtin.append_, run_underlying ht, run_underlying hk, sizeOf, typeInfo, hi, hs.len, hs.cells]
    · refine grow 0 none rfl ?_ (by omega)
      simpa using run_firstCells_none (P := P) W.drew i.size 0 0 0
  · by_cases hroom : n + k ≤ cap
    · have hsz : n * i.size + news.length ≤ cur.size := by
        rw [hcs, hs.newsLen, ← Nat.add_mul]; exact Nat.mul_le_mul_right _ hroom
      have hst := run_storeCells_at P g (n * i.size) e news 0 cur W hg (by simpa using hsz) hs.one
      simp only [Nat.add_zero] at hst
      refine ⟨.slice (some ⟨g, 0, none⟩) (n + k) cap, _, ?_, ⟨hlen, .inr ⟨g, cap, _, rfl, hbg, setRow_heap W g cur (cur.toList.take (n * i.size) ++ news ++ cur.toList.drop (n * i.size + news.length)).toArray e (0, 0) hg, hroom, hcm, ?_, ?_⟩⟩, ⟨rfl, rfl, rfl, by simp [World.setRow], fun j hj hne => heap_setRow_ne _ _ _ _ (fun hh => hne (by rw [hh]; rfl))⟩, .inl rfl⟩
      · rcases hs.kind with ⟨e', hk⟩ | hk <;> simp [Builtin.append_, run_underlying ht, run_underlying hk, sizeOf, typeInfo, hi, hs.len, hroom, hs.cells, Addr.add_lit, hst]
      · simp; omega
      · rw [htake, ← hlen]
        exact List.take_left
    · refine grow cap (some ⟨g, 0, none⟩) rfl ?_ (by omega)
      refine run_firstCells_some (P := P) W.drew i.size n ⟨g, 0, none⟩ n cap xs hown.1 ?_
      intro j u hu
      have := hown.cells (g := g) rfl j u hu
      simpa using this

/-- The world behind an append: under a new name what was appended, the old name dead. -/
theorem Sat.grow {W0 S ρ h W W'} (s : Sat W0 S ρ h W) {row : Option Nat} (hg : W.grownBy W' row) {h1 : Heap} (hh : ∀ i e, get h1 i = some e → e = .dead ∨ get h i = some e) (hkey : ∀ i, get h1 i = none → get h i = none)
    (hrow : ∀ b, row = some b → (∀ i e l, get h1 i = some e → e.live = true → ρ i = some l → l.blk ≠ some b) ∧ (S b ∨ W0.heap.size ≤ b))
    (hlive : ∀ i, get h1 i = some .dead → ∃ l, ρ i = some l)
    {m : Nat} (hm : get h1 m = none) (hm0 : ρ m = none) {l : Loc} {e : Ent} (hmine : e.mine = true) (ok : e.ok (ρ.upd m l) W' l) (hl : l.blk = row ∨ l.blk = some W.heap.size ∨ l.blk = none) :
    Sat W0 S (ρ.upd m l) (put h1 m e) W' := by
  have hle := Env.upd_le (l := l) hm0
  have hblk : ∀ i f k, get h1 i = some f → f.live = true → ρ i = some k → ∀ b, k.blk = some b → W'.heap[b]? = W.heap[b]? ∧ b < W.heap.size := by
    intro i f k hi hf hk b hb
    rcases hh i f hi with rfl | hi2
    · simp [Ent.live] at hf
    · obtain ⟨k', hk', ok'⟩ := s.ent i f hi2
      rw [hk] at hk'; injection hk' with hk'; subst hk'
      have hlt := Ent.blk_lt ok' hf b hb
      refine ⟨hg.block b hlt (fun hr => ?_), hlt⟩
      exact (hrow b hr.symm).1 i f k hi hf hk hb
  refine ⟨⟨hg.os.trans s.fr.os, hg.tape.trans s.fr.tape, hg.output.trans s.fr.output, Nat.le_trans s.fr.size hg.size, ?_⟩, ?_, ?_, ?_, ?_⟩
  · intro k hk hS
    rw [hg.block k (Nat.lt_of_lt_of_le hk s.fr.size) (fun hr => ?_)]
    · exact s.fr.block k hk hS
    · rcases (hrow k hr.symm).2 with h2 | h2
      · exact hS h2
      · omega
  · intro j hj
    rw [get_put] at hj
    by_cases hjm : j = m
    · rw [if_pos hjm] at hj; cases hj
    · rw [if_neg hjm] at hj; simp [Env.upd, hjm, s.key j (hkey j hj)]
  · intro j f hf
    rw [get_put] at hf
    by_cases hjm : j = m
    · rw [if_pos hjm] at hf; injection hf with hf; subst hf; subst hjm
      exact ⟨l, by simp [Env.upd], ok⟩
    · rw [if_neg hjm] at hf
      rcases hh j f hf with rfl | hf2
      · obtain ⟨k, hk⟩ := hlive j hf
        exact ⟨k, by simp [Env.upd, hjm, hk], trivial⟩
      · obtain ⟨k, hk, okk⟩ := s.ent j f hf2
        refine ⟨k, by simp [Env.upd, hjm, hk], ?_⟩
        by_cases hlv : f.live = true
        · exact Ent.ok_mono hle hg.size (fun b hb => (hblk j f k hf hlv hk b hb).1) okk
        · cases f <;> simp [Ent.live] at hlv
          trivial
  · intro i j ei ej li lj b hij hi hj hmi hlj hli hlj2 hbi
    rw [get_put] at hi hj
    by_cases him : i = m
    · have hjm : ¬ j = m := fun hh => hij (him.trans hh.symm)
      rw [if_neg hjm] at hj
      simp [Env.upd, him] at hli; simp [Env.upd, hjm] at hlj2
      subst hli
      intro hb
      have hx := hblk j ej lj hj hlj hlj2 b hb
      rcases hl with h2 | h2 | h2
      · rw [hbi] at h2
        exact (hrow b h2.symm).1 j ej lj hj hlj hlj2 hb
      · rw [hbi] at h2; injection h2 with h2; omega
      · rw [hbi] at h2; cases h2
    · rw [if_neg him] at hi; simp [Env.upd, him] at hli
      by_cases hjm : j = m
      · simp [Env.upd, hjm] at hlj2; subst hlj2
        intro hb
        have hx := hblk i ei li hi (by cases ei <;> simp_all [Ent.mine, Ent.live]) hli b hbi
        rcases hl with h2 | h2 | h2
        · rw [hb] at h2
          exact (hrow b h2.symm).1 i ei li hi (by cases ei <;> simp_all [Ent.mine, Ent.live]) hli hbi
        · rw [hb] at h2; injection h2 with h2; omega
        · rw [hb] at h2; cases h2
      · rw [if_neg hjm] at hj; simp [Env.upd, hjm] at hlj2
        have hi2 : get h i = some ei := by
          rcases hh i ei hi with rfl | h2
          · simp [Ent.mine] at hmi
          · exact h2
        have hj2 : get h j = some ej := by
          rcases hh j ej hj with rfl | h2
          · simp [Ent.live] at hlj
          · exact h2
        exact s.dist i j ei ej li lj b hij hi2 hj2 hmi hlj hli hlj2 hbi
  · intro j f k b hj hm1 hk hb
    rw [get_put] at hj
    by_cases hjm : j = m
    · simp [Env.upd, hjm] at hk; subst hk
      rcases hl with h2 | h2 | h2
      · rw [hb] at h2; exact (hrow b h2.symm).2
      · rw [hb] at h2; injection h2 with h2; right; rw [h2]; exact s.fr.size
      · rw [hb] at h2; cases h2
    · rw [if_neg hjm] at hj; simp [Env.upd, hjm] at hk
      rcases hh j f hj with rfl | h2
      · simp [Ent.mine] at hm1
      · exact s.mine j f k b h2 hm1 hk hb
end Go.Sx
