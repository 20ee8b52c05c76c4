/- Part of an executor of given code on symbolic values, with its proof of soundness: what is proved stands in each theorem. -/
import Derived.Test.YtnnmofebjfpcnaaGreatSxApp2
set_option linter.unusedVariables false
set_option linter.unusedSimpArgs false

namespace Go.Sx
open Go.RowKit

/-- copy(dst, src): its cells lie in a named block. -/
def xcopy (P : Program) (h : Heap) (d : Option Dir) (ts tx : TypeId) (u x : SV) : Option Out :=
  match P.underlying ts with
  | some (.slice e) => (match sizeT P e with
    | some z => (match xsrc P h tx z none x with
      | some (xs, k, o) => (match u with
        | .nils => some ⟨.num .i64 0, [], o⟩
        | .sl j off len _ => (match get h j with
          | some ent => (match ent.cells? with
            | some cs => (match d with
              | some (.at_ (.agg cs')) => (match ent.upd cs' with
                | some e' => some ⟨.int .i64 (Nat.min k len : Nat), [(j, e')], (off + Nat.min k len * z ≤ cs.length) :: (wr cs off (xs.take (Nat.min k len * z)) = cs') :: o⟩
                | none => none)
              | _ => (match takeN (Nat.min k len * z) xs with
                | some ys => if off + ys.length ≤ cs.length then (match ent.upd (wr cs off ys) with
                  | some e' => some ⟨force (Int.ofNat (Nat.min k len)) (fun m => .num .i64 m), [(j, e')], o⟩
                  | none => none) else none
                | none => none))
            | none => none)
          | none => none)
        | _ => none)
      | none => none)
    | none => none)
  | _ => none

/-- .. as the source is read. -/
theorem xsrc_part {P : Program} {hp : Heap} {tx : TypeId} {z : Nat} {x : SV} {xs : List SV} {k : Nat} {o : List Prop} (h : xsrc P hp tx z none x = some (xs, k, o)) (ho : All o)
    {ρ : Env} {W0 : World} {S : Nat → Prop} {W : World} (s : Sat W0 S ρ hp W) {X : Value} (hx : den ρ x = some X) :
    ∃ Vs, denl ρ xs = some Vs ∧ (∀ V ∈ Vs, V.oneCell' = true) ∧ xs.length = k * z ∧ (Builtin.lenOf X).run P W = .ok k W ∧
      ∀ n, n ≤ k → (Builtin.firstCells z n X).run P W = .ok (Vs.take (n * z)).toArray W := by
  obtain ⟨Vs, h1, hs⟩ := xsrc_run h ho s hx
  have hl := denl_length h1
  refine ⟨Vs, h1, hs.one, by rw [← hl]; exact hs.newsLen, hs.len W, fun n hn => ?_⟩
  have full := hs.cells
  -- by what the source is
  cases x with
  | nils =>
    simp [den] at hx; subst hx
    have hk : k = 0 := by
      simp only [xsrc] at h
      split at h
      · simp only [Option.some.injEq, Prod.mk.injEq] at h; exact h.2.1.symm
      · cases h
    subst hk
    have : n = 0 := by omega
    subst this
    simp [run_firstCells_none]
  | sl j off len cap =>
    obtain ⟨l, a, r1, r2, rfl⟩ := den_sl hx
    have hg : ∀ j V, Vs[j]? = some V → W.cell? ((a.add off).add j) = some V := by
      intro i V hV
      simp only [xsrc] at h
      split at h
      · rename_i e ent hu hent
        split at h
        · rename_i cs hcs
          split at h
          · rename_i ys hys
            simp only [Option.some.injEq, Prod.mk.injEq] at h
            obtain ⟨rfl, rfl, rfl⟩ := h
            obtain ⟨l', hl', ok⟩ := s.ent _ ent hent
            rw [r1] at hl'; injection hl' with hl'; subst hl'
            obtain ⟨Cs, k1, k2, _, k3⟩ := Ent.reads ok hcs
            obtain ⟨e1, e2⟩ := takeN_eq _ _ _ hys
            have hd := denl_take (denl_drop k1 off) (len * z)
            rw [← e1, h1] at hd
            injection hd with hd
            rw [hd] at hV
            rw [Addr.add_add]
            refine k3 a r2 _ _ ?_
            rw [List.getElem?_take] at hV
            split at hV
            · simpa using hV
            · cases hV
          · cases h
        · cases h
      · cases h
    refine run_firstCells_some W z n _ len cap _ ?_ ?_
    · rw [List.length_take, hs.newsLen]
      have := Nat.mul_le_mul_right z hn
      omega
    · intro i V hV
      rw [List.getElem?_take] at hV
      split at hV
      · exact hg i V hV
      · cases hV
  | rw j z' lo len =>
    obtain ⟨l, h2, rfl⟩ := den_rw hx
    cases ha : l.adr with
    | none =>
      have hx0 : l.row z' lo len = .slice none 0 0 := by simp [Loc.row, ha]
      rw [hx0] at full ⊢
      have : Vs = [] := by
        have h3 := run_firstCells_none (P := P) W z k 0 0
        rw [h3] at full
        injection full with full
        have := congrArg Array.toList full
        simpa using this.symm
      subst this
      simp [run_firstCells_none]
    | some a =>
      have hx0 : l.row z' lo len = .slice (some (a.add (lo * z'))) len (l.cap - lo) := by simp [Loc.row, ha]
      rw [hx0]
      have hg : ∀ j V, Vs[j]? = some V → W.cell? ((a.add (lo * z')).add j) = some V := by
        intro i V hV
        simp only [xsrc] at h
        split at h
        · rename_i e ent hu hent
          split at h
          · rename_i z2 cs hcs
            split at h
            · rename_i hz
              obtain ⟨hz1, hz2⟩ := hz
              subst hz1; subst hz2
              split at h
              · rename_i ys hys
                simp only [Option.some.injEq, Prod.mk.injEq] at h
                obtain ⟨rfl, rfl, rfl⟩ := h
                obtain ⟨l', hl', ok⟩ := s.ent _ ent hent
                rw [h2] at hl'; injection hl' with hl'; subst hl'
                obtain ⟨hcs2, _, _⟩ := Ent.zcap ok hcs
                obtain ⟨Cs, k1, k2, _, k3⟩ := Ent.reads ok hcs2
                obtain ⟨e1, e2⟩ := takeN_eq _ _ _ hys
                have hd := denl_take (denl_drop k1 (lo * z2)) (len * z2)
                rw [← e1, h1] at hd
                injection hd with hd
                rw [hd] at hV
                rw [Addr.add_add]
                refine k3 a ha _ _ ?_
                rw [List.getElem?_take] at hV
                split at hV
                · simpa using hV
                · cases hV
              · cases h
            · cases h
          · cases h
        · cases h
      refine run_firstCells_some W z n _ len _ _ ?_ ?_
      · rw [List.length_take, hs.newsLen]
        have := Nat.mul_le_mul_right z hn
        omega
      · intro i V hV
        rw [List.getElem?_take] at hV
        split at hV
        · exact hg i V hV
        · cases hV
  | _ => simp [xsrc] at h

theorem xcopy_sound {P : Program} {hp : Heap} {d : Option Dir} {ts tx ty : TypeId} {u x : SV} {out : Out} (h : xcopy P hp d ts tx u x = some out) (ho : All out.o)
    {ρ : Env} {W0 : World} {S : Nat → Prop} {W : World} (s : Sat W0 S ρ hp W) {U X : Value} (hu : den ρ u = some U) (hx : den ρ x = some X) :
    ∃ W' V, den ρ out.v = some V ∧ (Builtin.copy_ #[ts, tx] ty #[U, X]).run P W = .ok V W' ∧ Sat W0 S ρ (puts hp out.w) W' := by
  unfold xcopy at h
  split at h
  case h_2 => cases h
  rename_i e ht
  split at h
  case h_2 => cases h
  rename_i z hz
  split at h
  case h_2 => cases h
  rename_i xs k o hsrc
  have hzr := sizeT_run hz W
  have hur := run_underlying ht W
  split at h
  · simp only [Option.some.injEq] at h; subst h
    obtain ⟨Vs, a1, a2, a3, a4, a5⟩ := xsrc_part hsrc ho s hx
    simp [den] at hu; subst hu
    have h0 := a5 0 (Nat.zero_le _)
    refine ⟨W, .int .i64 0, rfl, ?_, s⟩
    simp [Builtin.copy_, hur, a4, hzr, h0, goInt]
  · rename_i j off len cap
    obtain ⟨l, a, b1, b2, rfl⟩ := den_sl hu
    split at h
    case h_2 => cases h
    rename_i ent hent
    split at h
    case h_2 => cases h
    rename_i cs hcs
    have fin : ∀ (e' : Ent) (o1 : List Prop), ent.upd (wr cs off (xs.take (Nat.min k len * z))) = some e' → All o → off + Nat.min k len * z ≤ cs.length →
        ∃ W', (Builtin.copy_ #[ts, tx] ty #[.slice (some (a.add off)) len cap, X]).run P W = .ok (.int .i64 (Nat.min k len : Nat)) W' ∧ Sat W0 S ρ (puts hp [(j, e')]) W' := by
      intro e' o1 he' ho' hle
      obtain ⟨Vs, a1, a2, a3, a4, a5⟩ := xsrc_part hsrc ho' s hx
      have h0 := a5 (Nat.min k len) (Nat.min_le_left k len)
      have hlen : (xs.take (Nat.min k len * z)).length = Nat.min k len * z := by
        rw [List.length_take, a3]
        exact Nat.min_eq_left (Nat.mul_le_mul_right z (Nat.min_le_left k len))
      have hst : xstore hp j off (xs.take (Nat.min k len * z)) none = some ⟨.tup [], [(j, e')], []⟩ := by
        unfold xstore
        simp only [hent, hcs]
        rw [if_pos (by rw [hlen]; exact hle), he']
      obtain ⟨_, W', c1, c2⟩ := xstore_sound (P := P) s hst trivial (denl_take a1 (Nat.min k len * z)) (fun V hV => a2 V (List.mem_of_mem_take hV)) b1 b2
      refine ⟨W', ?_, c2⟩
      simp [Builtin.copy_, hur, a4, hzr, h0, c1, goInt]
    split at h
    · split at h
      · rename_i e' he'
        simp only [Option.some.injEq] at h; subst h
        simp only [All] at ho
        obtain ⟨o1, o2, o3⟩ := ho
        obtain ⟨W', c1, c2⟩ := fin e' [] (by rw [o2]; exact he') o3 o1
        exact ⟨W', _, rfl, c1, c2⟩
      · cases h
    · split at h
      case h_2 => cases h
      rename_i ys hys
      obtain ⟨e1, e2⟩ := takeN_eq _ _ _ hys
      split at h
      case isFalse => cases h
      rename_i hle
      split at h
      case h_2 => cases h
      rename_i e' he'
      simp only [Option.some.injEq] at h; subst h
      have hyl : ys.length = Nat.min k len * z := by rw [e1, List.length_take]; exact Nat.min_eq_left e2
      obtain ⟨W', c1, c2⟩ := fin e' [] (by rw [← e1]; exact he') ho (by rw [← hyl]; exact hle)
      refine ⟨W', _, ?_, c1, c2⟩
      simp only [force_eq]
      rfl
  · cases h
end Go.Sx
