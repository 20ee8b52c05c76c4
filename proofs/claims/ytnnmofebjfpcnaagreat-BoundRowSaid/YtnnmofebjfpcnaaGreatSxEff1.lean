/- Part of an executor of given code on symbolic values, with its proof of soundness: what is proved stands in each theorem. -/
import Derived.Test.YtnnmofebjfpcnaaGreatSxEff0
set_option linter.unusedVariables false
set_option linter.unusedSimpArgs false

namespace Go.Sx
open Go.RowKit

/-! ## Silent: build, slice -/
def pairs (t : Tmps) : List (Nat × Operand) → Option (List (Nat × SV))
  | [] => some []
  | (i, x) :: l => (match ev t x, pairs t l with | some v, some m => some ((i, v) :: m) | _, _ => none)
theorem pairs_den {ρ : Env} {t : Tmps} {a : Act} (ag : Agree ρ t a.tmps) : ∀ {l : List (Nat × Operand)} {ps : List (Nat × SV)}, pairs t l = some ps →
    ps.map (·.1) = (l.map fun (i, x) => (i, a.eval x)).map (·.1) ∧ denl ρ (ps.map (·.2)) = some ((l.map fun (i, x) => (i, a.eval x)).map (·.2))
  | [], ps, h => by simp [pairs] at h; subst h; exact ⟨rfl, rfl⟩
  | (i, x) :: l, ps, h => by
    simp only [pairs] at h
    cases hx : ev t x with
    | none => simp [hx] at h
    | some v =>
      cases hl : pairs t l with
      | none => simp [hx, hl] at h
      | some m =>
        simp [hx, hl] at h; subst h
        obtain ⟨h1, h2⟩ := pairs_den ag hl
        exact ⟨by simp [h1], denl_cons.2 ⟨_, _, ev_den ag hx, h2, rfl⟩⟩

def placesT (P : Program) : List Field → Option (List (Nat × Nat))
  | [] => some []
  | f :: l => (match sizeT P f.type, placesT P l with | some n, some m => some ((f.offset, n) :: m) | _, _ => none)
theorem placesT_run {P : Program} (W : World) : ∀ {l : List Field} {ps : List (Nat × Nat)}, placesT P l = some ps →
    (l.mapM (m := Sem) fun f => Prod.mk f.offset <$> sizeOf f.type).run P W = .ok ps W
  | [], ps, h => by simp [placesT] at h; subst h; simp
  | f :: l, ps, h => by
    simp only [placesT] at h
    cases hs : sizeT P f.type with
    | none => simp [hs] at h
    | some n =>
      cases hl : placesT P l with
      | none => simp [hs, hl] at h
      | some m =>
        simp [hs, hl] at h; subst h
        have h1 := sizeT_run hs W
        have h2 := placesT_run W hl
        rw [List.mapM_cons]
        simp [h1, h2]

def xbuild (P : Program) (t : TypeId) (ps : List (Nat × SV)) : Option SV :=
  match zeroT P t with
  | some z => (match P.underlying t with
    | some (.struct fs) => (match placesT P fs.toList with
      | some pl => (match xfill (fun i => pl[i]?) z.cells ps with | some cs => some (.agg cs) | none => none)
      | none => none)
    | some (.array _ e) => (match sizeT P e with
      | some n => (match xfill (fun i => some (i * n, n)) z.cells ps with | some cs => some (.agg cs) | none => none)
      | none => none)
    | _ => none)
  | none => none

theorem xbuild_run {P : Program} {ty : TypeId} {ps : List (Nat × SV)} {v : SV} (h : xbuild P ty ps = some v) {ρ : Env} {Ps : Array (Nat × Value)}
    (h1 : ps.map (·.1) = Ps.toList.map (·.1)) (h2 : denl ρ (ps.map (·.2)) = some (Ps.toList.map (·.2))) (W : World) :
    ∃ V, den ρ v = some V ∧ (Instr.build ty Ps).run P W = .ok V W := by
  unfold xbuild at h
  split at h
  · rename_i z hz
    obtain ⟨Z, hZ, hZr⟩ := zeroT_run hz ρ
    split at h
    · rename_i fs hu
      have hur := run_underlying hu W
      split at h
      · rename_i pl hpl
        have hplr := placesT_run W hpl
        split at h
        · rename_i cs hcs
          simp only [Option.some.injEq] at h; subst h
          obtain ⟨O, h3, h4⟩ := xfill_run _ _ _ _ Ps.toList hcs (cells_den hZ) h1 h2
          refine ⟨.agg O.toArray, by simp [den, h3], ?_⟩
          have h5 : (fs.mapM (m := Sem) fun f => Prod.mk f.offset <$> sizeOf f.type).run P W = .ok pl.toArray W := by
            rw [Array.mapM_eq_mapM_toList]
            simp [hplr]
          simp only [Array.toArray_toList] at h4
          simp [Instr.build, hZr, hur, h5, h4]
        · cases h
      · cases h
    · rename_i n e hu
      have hur := run_underlying hu W
      split at h
      · rename_i sz hsz
        have hszr := sizeT_run hsz W
        split at h
        · rename_i cs hcs
          simp only [Option.some.injEq] at h; subst h
          obtain ⟨O, h3, h4⟩ := xfill_run _ _ _ _ Ps.toList hcs (cells_den hZ) h1 h2
          refine ⟨.agg O.toArray, by simp [den, h3], ?_⟩
          simp only [Array.toArray_toList] at h4
          simp [Instr.build, hZr, hur, hszr, h4]
        · cases h
      · cases h
    · cases h
  · cases h
end Go.Sx
