/- Part of an executor of given code on symbolic values, with its proof of soundness: what is proved stands in each theorem. -/
import Derived.Test.YtnnmofebjfpcnaaGreatSxCon
set_option linter.unusedVariables false
set_option linter.unusedSimpArgs false

namespace Go.Sx
open Go.RowKit

mutual
def nmIn (K : List Nat) : SV → Bool
  | .ptr j _ | .sl j _ _ _ | .rw j _ _ _ | .mapp j => mem j K
  | .iface _ v => nmIn K v
  | .fn _ a b => nmInL K a && nmInL K b
  | .agg l | .tup l => nmInL K l
  | .int _ _ | .num _ _ | .bool _ | .str _ | .nilp | .nils | .nilI | .nilF => true
def nmInL (K : List Nat) : List SV → Bool
  | [] => true
  | v :: l => nmIn K v && nmInL K l
end

mutual
theorem nmIn_den {K : List Nat} {ρa ρb : Env} (h : ∀ j x, j ∈ K → ρa j = some x → ρb j = some x) : ∀ (v : SV) (V : Value), nmIn K v = true → den ρa v = some V → den ρb v = some V
  | .int k n, V, _, e => by simpa [den] using e
  | .num k n, V, _, e => by simpa [den] using e
  | .bool b, V, _, e => by simpa [den] using e
  | .str s, V, _, e => by simpa [den] using e
  | .nilp, V, _, e => by simpa [den] using e
  | .nils, V, _, e => by simpa [den] using e
  | .nilI, V, _, e => by simpa [den] using e
  | .nilF, V, _, e => by simpa [den] using e
  | .ptr j off, V, hn, e => by
    simp only [den, Option.bind_eq_some_iff] at e ⊢
    obtain ⟨l, hl, e⟩ := e; exact ⟨l, h j l (mem_iff.1 hn) hl, e⟩
  | .sl j off len cap, V, hn, e => by
    simp only [den, Option.bind_eq_some_iff] at e ⊢
    obtain ⟨l, hl, e⟩ := e; exact ⟨l, h j l (mem_iff.1 hn) hl, e⟩
  | .rw j z lo len, V, hn, e => by
    simp only [den, Option.map_eq_some_iff] at e ⊢
    obtain ⟨l, hl, e⟩ := e; exact ⟨l, h j l (mem_iff.1 hn) hl, e⟩
  | .mapp j, V, hn, e => by
    simp only [den, Option.bind_eq_some_iff] at e ⊢
    obtain ⟨l, hl, e⟩ := e; exact ⟨l, h j l (mem_iff.1 hn) hl, e⟩
  | .iface t v, V, hn, e => by
    simp only [den, Option.map_eq_some_iff] at e ⊢
    obtain ⟨x, hx, e⟩ := e; exact ⟨x, nmIn_den h v x hn hx, e⟩
  | .fn f fs cs, V, hn, e => by
    simp only [nmIn, Bool.and_eq_true] at hn
    simp only [den, Option.bind_eq_some_iff, Option.map_eq_some_iff] at e ⊢
    obtain ⟨x, hx, y, hy, e⟩ := e; exact ⟨x, nmInL_den h fs x hn.1 hx, y, nmInL_den h cs y hn.2 hy, e⟩
  | .agg l, V, hn, e => by
    simp only [den, Option.map_eq_some_iff] at e ⊢
    obtain ⟨x, hx, e⟩ := e; exact ⟨x, nmInL_den h l x hn hx, e⟩
  | .tup l, V, hn, e => by
    simp only [den, Option.map_eq_some_iff] at e ⊢
    obtain ⟨x, hx, e⟩ := e; exact ⟨x, nmInL_den h l x hn hx, e⟩
theorem nmInL_den {K : List Nat} {ρa ρb : Env} (h : ∀ j x, j ∈ K → ρa j = some x → ρb j = some x) : ∀ (l : List SV) (L : List Value), nmInL K l = true → denl ρa l = some L → denl ρb l = some L
  | [], L, _, e => by simpa [denl] using e
  | v :: l, L, hn, e => by
    simp only [nmInL, Bool.and_eq_true] at hn
    simp only [denl, Option.bind_eq_some_iff, Option.map_eq_some_iff] at e ⊢
    obtain ⟨x, hx, y, hy, e⟩ := e; exact ⟨x, nmIn_den h v x hn.1 hx, y, nmInL_den h l y hn.2 hy, e⟩
end

theorem sup_of {Kp : Nat → Prop} (K : List Nat) {l : List SV} (h : nmInL K l = true) (hK : ∀ j ∈ K, Kp j) : Sup Kp l :=
  fun _ _ hab L hL => nmInL_den (fun j x hj hx => hab j x (hK j hj) hx) l L h hL
theorem sup_nil {Kp : Nat → Prop} {l : List SV} (h : nmInL [] l = true) : Sup Kp l := sup_of [] h (fun _ hj => by cases hj)
theorem sup_ints {Kp : Nat → Prop} (k : IntKind) (l : List Int) : Sup Kp (l.map (SV.int k)) := fun _ _ _ L hL => by
  rw [denl_ints] at hL ⊢; exact hL
theorem sup_app {Kp : Nat → Prop} {a b : List SV} (ha : Sup Kp a) (hb : Sup Kp b) : Sup Kp (a ++ b) := by
  intro ρa ρb hab L hL
  induction a generalizing L with
  | nil => exact hb ρa ρb hab L hL
  | cons v a ih =>
    obtain ⟨V, M, h1, h2, rfl⟩ := denl_cons.1 hL
    have hv : Sup Kp (v :: a) := ha
    -- the head and the tail apart
    have hsplit : ∃ A B, denl ρa a = some A ∧ denl ρa b = some B := by
      clear ih ha hv hL
      induction a generalizing M with
      | nil => exact ⟨[], M, rfl, h2⟩
      | cons u a ih =>
        obtain ⟨U, N, k1, k2, rfl⟩ := denl_cons.1 h2
        obtain ⟨A, B, q1, q2⟩ := ih N k2
        exact ⟨U :: A, B, denl_cons.2 ⟨U, A, k1, q1, rfl⟩, q2⟩
    obtain ⟨A, B, q1, q2⟩ := hsplit
    have e1 := hv ρa ρb hab (V :: A) (denl_cons.2 ⟨V, A, h1, q1, rfl⟩)
    have e2 := hb ρa ρb hab B q2
    have e3 := denl_append e1 e2
    have e4 := denl_append (denl_cons.2 ⟨V, A, h1, q1, rfl⟩ : denl ρa (v :: a) = some (V :: A)) q2
    have e5 : denl ρa (v :: a ++ b) = some (V :: M) := denl_cons.2 ⟨V, M, h1, h2, rfl⟩
    rw [e4] at e5; injection e5 with e5
    rw [← e5]; exact e3

mutual
theorem ren_nil (σ : Nat → Nat) : ∀ v : SV, nmIn [] v = true → ren σ v = v
  | .int k n, _ => rfl
  | .num k n, _ => rfl
  | .bool b, _ => rfl
  | .str s, _ => rfl
  | .nilp, _ => rfl
  | .nils, _ => rfl
  | .nilI, _ => rfl
  | .nilF, _ => rfl
  | .ptr j off, h => by simp [nmIn, mem] at h
  | .sl j off _ _, h => by simp [nmIn, mem] at h
  | .rw j off _ _, h => by simp [nmIn, mem] at h
  | .mapp j, h => by simp [nmIn, mem] at h
  | .iface t v, h => by simp only [ren, ren_nil σ v h]
  | .fn f a b, h => by
    simp only [nmIn, Bool.and_eq_true] at h
    simp only [ren, renl_nil σ a h.1, renl_nil σ b h.2]
  | .agg l, h => by simp only [ren, renl_nil σ l h]
  | .tup l, h => by simp only [ren, renl_nil σ l h]
theorem renl_nil (σ : Nat → Nat) : ∀ l : List SV, nmInL [] l = true → renl σ l = l
  | [], _ => rfl
  | v :: l, h => by
    simp only [nmInL, Bool.and_eq_true] at h
    simp only [renl, ren_nil σ v h.1, renl_nil σ l h.2]
end
theorem renl_ints (σ : Nat → Nat) (k : IntKind) (l : List Int) : renl σ (l.map (SV.int k)) = l.map (SV.int k) := by
  induction l with
  | nil => rfl
  | cons n l ih => simp only [List.map_cons, renl, ren, ih]

end Go.Sx
