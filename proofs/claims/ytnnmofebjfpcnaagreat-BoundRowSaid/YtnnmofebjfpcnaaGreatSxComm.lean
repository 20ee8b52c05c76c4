/- Part of an executor of given code on symbolic values, with its proof of soundness: what is proved stands in each theorem. -/
import Derived.Test.YtnnmofebjfpcnaaGreatSxReg
set_option linter.unusedVariables false
set_option linter.unusedSimpArgs false

namespace Go.Sx
open Go.RowKit

theorem evs_congr {t t' : Tmps} : ∀ {l : List Operand}, (∀ x ∈ l, ev t x = ev t' x) → evs t l = evs t' l
  | [], _ => rfl
  | x :: l, h => by simp only [evs]; rw [h x (by simp), evs_congr (l := l) (fun y hy => h y (by simp [hy]))]
theorem pairs_congr {t t' : Tmps} : ∀ {l : List (Nat × Operand)}, (∀ x ∈ l.map (·.2), ev t x = ev t' x) → pairs t l = pairs t' l
  | [], _ => rfl
  | (i, x) :: l, h => by simp only [pairs]; rw [h x (by simp), pairs_congr (l := l) (fun y hy => h y (by simp only [List.map_cons, List.mem_cons]; exact .inr hy))]

section
variable {P : Program} {D : Dat}

theorem xs_tmps {h : Heap} {t t' : Tmps} {d : Option Dir} {op : Op} (he : ∀ x ∈ op.operands, ev t x = ev t' x) : xs P D h t d op = xs P D h t' d op := by
  cases op with
  | build ty ps =>
    simp only [xs]
    rw [pairs_congr (t' := t') (fun x hx => he x (by simp [Op.operands] at hx ⊢; exact hx))]
  | slice ty x lo hi mx =>
    simp only [xs]
    simp only [Op.operands, Array.mem_append, List.mem_toArray, Option.mem_toArray] at he
    rw [he x (by simp), evs_congr (t := t) (t' := t') (l := lo.toList) (fun y hy => he y (by simp at hy; simp [hy])), evs_congr (t := t) (t' := t') (l := hi.toList) (fun y hy => he y (by simp at hy; simp [hy])), evs_congr (t := t) (t' := t') (l := mx.toList) (fun y hy => he y (by simp at hy; simp [hy]))]
  | call c =>
    obtain ⟨cl, args, ats⟩ := c
    cases cl with
    | builtin b =>
      simp only [Op.operands, Call.operands] at he
      cases b <;> try rfl
      · simp only [xs, xq]
        split
        · rename_i ty x h1 h2
          rw [he x (by simp; exact Array.mem_of_getElem? h2)]
        · rfl
      · simp only [xs, xq]
        split
        · rename_i x y h1
          have e1 : args = #[x, y] := by apply Array.ext'; simpa using h1
          rw [he x (by simp [e1]), he y (by simp [e1])]
        · rfl
      · simp only [xs, xq]
        split
        · rename_i x y h1
          have e1 : args = #[x, y] := by apply Array.ext'; simpa using h1
          rw [he x (by simp [e1]), he y (by simp [e1])]
        · rfl
    | value x =>
      cases x <;> try rfl
      simp only [Op.operands, Call.operands] at he
      simp only [xs]
      rw [evs_congr (t := t) (t' := t') (l := args.toList) (fun y hy => he y (by simp at hy; simp [hy]))]
    | invoke x n => rfl
  | makeFunc fn fs cs =>
    simp only [Op.operands] at he
    cases fn <;> try rfl
    simp only [xs, xq]
    rw [evs_congr (t := t) (t' := t') (l := fs.toList) (fun y hy => he y (by simp at hy; simp [hy])), evs_congr (t := t) (t' := t') (l := cs.toList) (fun y hy => he y (by simp at hy; simp [hy]))]
  | move x => simp only [Op.operands] at he; simp only [xs, xq]; rw [he x (by simp)]
  | assign x => simp only [Op.operands] at he; simp only [xs, xq]; rw [he x (by simp)]
  | pick c a b => simp only [Op.operands] at he; simp only [xs, xq]; rw [he c (by simp), he a (by simp), he b (by simp)]
  | load ty x => simp only [Op.operands] at he; simp only [xs, xq]; rw [he x (by simp)]
  | nilCheck x => simp only [Op.operands] at he; simp only [xs, xq]; rw [he x (by simp)]
  | binOp o ty x y t2 => simp only [Op.operands] at he; simp only [xs, xq]; rw [he x (by simp), he y (by simp)]
  | unOp o ty x => simp only [Op.operands] at he; simp only [xs, xq]; rw [he x (by simp)]
  | convert a b x => simp only [Op.operands] at he; simp only [xs, xq]; rw [he x (by simp)]
  | makeInterface a x => simp only [Op.operands] at he; simp only [xs, xq]; rw [he x (by simp)]
  | fieldAddr a x f => simp only [Op.operands] at he; simp only [xs, xq]; rw [he x (by simp)]
  | field a x f => simp only [Op.operands] at he; simp only [xs, xq]; rw [he x (by simp)]
  | indexAddr a x f => simp only [Op.operands] at he; simp only [xs, xq]; rw [he x (by simp), he f (by simp)]
  | index a x f => simp only [Op.operands] at he; simp only [xs, xq]; rw [he x (by simp), he f (by simp)]
  | extract x i => simp only [Op.operands] at he; simp only [xs, xq]; rw [he x (by simp)]
  | _ => rfl

theorem xop_tmps {h : Heap} {t t' : Tmps} {m : Nat} {d : Option Dir} {op : Op} (he : ∀ x ∈ op.operands, ev t x = ev t' x) : xop P D h t m d op = xop P D h t' m d op := by
  cases op with
  | alloc e => rfl
  | box e x => simp only [Op.operands] at he; simp only [xop, xe]; rw [he x (by simp)]
  | buildSlice e n ps =>
    simp only [xop, xe]
    rw [pairs_congr (t' := t') (fun x hx => he x (by simp [Op.operands] at hx ⊢; exact hx))]
  | makeSlice e x y => simp only [Op.operands] at he; simp only [xop, xe]; rw [he x (by simp), he y (by simp)]
  | store e x y => simp only [Op.operands] at he; simp only [xop, xe]; rw [he x (by simp), he y (by simp)]
  | makeMap e r =>
    simp only [Op.operands, Option.mem_toArray] at he
    simp only [xop, xmap]
    rw [evs_congr (t := t) (t' := t') (l := r.toList) (fun y hy => he y (by simpa using hy))]
  | insert e x y z => simp only [Op.operands] at he; simp only [xop, xmap]; rw [he x (by simp), he y (by simp), he z (by simp)]
  | mapUpdate e x y z => simp only [Op.operands] at he; simp only [xop, xmap]; rw [he x (by simp), he y (by simp), he z (by simp)]
  | lookup e x y ok => simp only [Op.operands] at he; simp only [xop, xmap]; rw [he x (by simp), he y (by simp)]
  | call c =>
    have hx := xs_tmps (P := P) (D := D) (h := h) (d := d) he
    obtain ⟨cl, args, ats⟩ := c
    cases cl with
    | builtin b =>
      by_cases hb : b = .append
      · subst hb
        simp only [Op.operands, Call.operands] at he
        simp only [xop]
        split
        · rename_i x y tx ty h1 h2
          have e1 : args = #[x, y] := by apply Array.ext'; simpa using h1
          rw [he x (by simp [e1]), he y (by simp [e1])]
        · rfl
      · by_cases hb2 : b = .copy
        · subst hb2
          simp only [Op.operands, Call.operands] at he
          simp only [xop]
          split
          · rename_i x y tx ty h1 h2
            have e1 : args = #[x, y] := by apply Array.ext'; simpa using h1
            rw [he x (by simp [e1]), he y (by simp [e1])]
          · rfl
        · cases b <;> first | (exact absurd rfl hb) | (exact absurd rfl hb2) | (simp only [xop]; rw [hx])
    | value x =>
      simp only [Op.operands, Call.operands] at he
      simp only [xop, hx, callee]
      rw [he x (by simp), evs_congr (t := t) (t' := t') (l := args.toList) (fun y hy => he y (by simp at hy; simp [hy]))]
    | invoke x n =>
      simp only [Op.operands, Call.operands] at he
      simp only [xop, hx, callee]
      rw [he x (by simp), evs_congr (t := t) (t' := t') (l := args.toList) (fun y hy => he y (by simp at hy; simp [hy]))]
  | _ =>
    have hx := xs_tmps (P := P) (D := D) (h := h) (d := d) he
    simp only [xop]
    rw [hx]

theorem rds_tmps {t t' : Tmps} {op : Op} (he : ∀ x ∈ op.operands, ev t x = ev t' x) : rds t op = rds t' op := by
  cases op with
  | slice ty x lo hi mx => simp only [Op.operands] at he; simp only [rds]; rw [he x (by simp)]
  | load ty x => simp only [Op.operands] at he; simp only [rds, rdq]; rw [he x (by simp)]
  | indexAddr ty x i => simp only [Op.operands] at he; simp only [rds, rdq]; rw [he x (by simp)]
  | call c =>
    obtain ⟨cl, args, ats⟩ := c
    cases cl with
    | builtin b =>
      simp only [Op.operands, Call.operands] at he
      cases b <;> try rfl
      simp only [rds, rdq]
      split
      · rename_i x h1
        rw [he x (by simp; exact Array.mem_of_getElem? h1)]
      · rfl
    | _ => rfl
  | _ => rfl

theorem fp_tmps {t t' : Tmps} {m : Nat} {d : Option Dir} {op : Op} (he : ∀ x ∈ op.operands, ev t x = ev t' x) : fp t m d op = fp t' m d op := by
  cases op with
  | store e x y => simp only [Op.operands] at he; simp only [fp]; rw [he x (by simp)]
  | insert e x y z => simp only [Op.operands] at he; simp only [fp]; rw [he x (by simp)]
  | mapUpdate e x y z => simp only [Op.operands] at he; simp only [fp]; rw [he x (by simp)]
  | lookup e x y ok => simp only [Op.operands] at he; simp only [fp]; rw [he x (by simp)]
  | call c =>
    have hr := rds_tmps he
    obtain ⟨cl, args, ats⟩ := c
    cases cl with
    | builtin b =>
      by_cases hb : b = .append
      · subst hb
        simp only [Op.operands, Call.operands] at he
        simp only [fp]
        split
        · rename_i x y h1
          have e1 : args = #[x, y] := by apply Array.ext'; simpa using h1
          rw [he x (by simp [e1]), he y (by simp [e1])]
        · rfl
      · by_cases hb2 : b = .copy
        · subst hb2
          simp only [Op.operands, Call.operands] at he
          simp only [fp]
          split
          · rename_i x y h1
            have e1 : args = #[x, y] := by apply Array.ext'; simpa using h1
            rw [he x (by simp [e1]), he y (by simp [e1])]
          · rfl
        · cases b <;> first | (exact absurd rfl hb) | (exact absurd rfl hb2) | (simp only [fp]; rw [hr])
    | _ => rfl
  | _ =>
    have hr := rds_tmps he
    first
      | rfl
      | (simp only [fp]; rw [hr])

/-- Only names of the second list are written. -/
theorem xop_writes {h : Heap} {t : Tmps} {m : Nat} {d : Option Dir} {op : Op} {out : Out} (hx : xop P D h t m d op = some out) : ∀ j ∈ out.w.map (·.1), j ∈ (fp t m d op).2 := by
  have new : ∀ {e cs v o} {out : Out}, xnew h m e cs v o = some out → out.w.map (·.1) = [m] := by
    intro e cs v o out hh
    unfold xnew at hh
    split at hh
    · simp only [Option.some.injEq] at hh; subst hh; rfl
    · cases hh
  cases op with
  | alloc e =>
    simp only [xop, xe] at hx
    split at hx
    · rw [new hx]; simp [fp]
    · cases hx
  | box e x =>
    simp only [xop, xe] at hx
    split at hx
    · rw [new hx]; simp [fp]
    · cases hx
  | buildSlice e n ps =>
    simp only [xop, xe] at hx
    split at hx
    · split at hx
      · split at hx
        · split at hx
          · rw [new hx]; simp [fp]
          · cases hx
        · cases hx
      · cases hx
    · cases hx
  | makeSlice e x y =>
    simp only [xop, xe] at hx
    split at hx
    case h_2 => cases hx
    unfold xmake at hx
    split at hx
    · split at hx
      · split at hx
        case h_2 => cases hx
        split at hx
        · split at hx
          · simp only [Option.some.injEq] at hx; subst hx; simp [fp]
          · cases hx
        · cases hx
      · cases hx
    · cases hx
  | store e x y =>
    simp only [xop, xe] at hx
    split at hx
    · rename_i j off v n hX hY hn
      split at hx
      · simp only [fp, hX]
        unfold xstore at hx
        split at hx
        · split at hx
          · split at hx
            · split at hx
              · simp only [Option.some.injEq] at hx; subst hx; simp
              · cases hx
            · split at hx
              · split at hx
                · simp only [Option.some.injEq] at hx; subst hx; simp
                · cases hx
              · cases hx
          · cases hx
        · cases hx
      · cases hx
    · cases hx
  | makeMap e r =>
    simp only [xop, xmap] at hx
    split at hx
    case h_2 => cases hx
    split at hx
    case h_2 => cases hx
    split at hx
    · simp only [Option.some.injEq] at hx; subst hx; simp [fp]
    · cases hx
  | insert e x y z =>
    simp only [xop, xmap] at hx
    split at hx
    case h_2 => cases hx
    rename_i j ks vs kd hX hk hv hkt
    split at hx
    case h_2 => cases hx
    split at hx
    case isFalse => cases hx
    split at hx
    · simp only [Option.some.injEq] at hx; subst hx; simp [fp, hX]
    · cases hx
  | mapUpdate e x y z =>
    simp only [xop, xmap] at hx
    split at hx
    case h_2 => cases hx
    rename_i j ks vs kd hX hk hv hkt
    split at hx
    case h_2 => cases hx
    split at hx
    case isFalse => cases hx
    split at hx
    · simp only [Option.some.injEq] at hx; subst hx; simp [fp, hX]
    · cases hx
  | lookup e x y ok =>
    simp only [xop, xmap] at hx
    split at hx
    case h_2 => cases hx
    split at hx
    case h_2 => cases hx
    split at hx
    case isFalse => cases hx
    split at hx
    · simp only [Option.some.injEq] at hx; subst hx; simp
    · split at hx
      · simp only [Option.some.injEq] at hx; subst hx; simp
      · simp only [Option.some.injEq] at hx; subst hx; simp
      · cases hx
  | call c =>
    obtain ⟨cl, args, ats⟩ := c
    cases cl with
    | builtin b =>
      by_cases hb : b = .append
      · subst hb
        simp only [xop] at hx
        split at hx
        · rename_i x y tx ty h1 h2
          split at hx
          · rename_i u w hu hw
            simp only [fp, h1, hu]
            unfold xapp at hx
            split at hx
            · split at hx
              · split at hx
                · split at hx
                  · rename_i cs n ww o1 xs k o2 hdst hsrc
                    split at hx
                    · simp only [Option.some.injEq] at hx; subst hx
                      simp only [List.map_append, List.map_cons, List.map_nil]
                      unfold xdst at hdst
                      split at hdst
                      · simp only [Option.some.injEq, Prod.mk.injEq] at hdst
                        obtain ⟨_, _, rfl, _⟩ := hdst; simp
                      · split at hdst
                        · split at hdst
                          · simp only [Option.some.injEq, Prod.mk.injEq] at hdst
                            obtain ⟨_, _, rfl, _⟩ := hdst; simp
                          · cases hdst
                        · cases hdst
                      · split at hdst
                        · split at hdst
                          · split at hdst
                            · simp only [Option.some.injEq, Prod.mk.injEq] at hdst
                              obtain ⟨_, _, rfl, _⟩ := hdst; simp
                            · cases hdst
                          · cases hdst
                        · cases hdst
                      · cases hdst
                    · cases hx
                  · cases hx
                · cases hx
              · cases hx
            · cases hx
          · cases hx
        · cases hx
      · by_cases hb2 : b = .copy
        · subst hb2
          simp only [xop] at hx
          split at hx
          · rename_i x y tx ty h1 h2
            split at hx
            · rename_i u w hu hw
              simp only [fp, h1, hu]
              unfold xcopy at hx
              split at hx
              case h_2 => cases hx
              split at hx
              case h_2 => cases hx
              split at hx
              case h_2 => cases hx
              split at hx
              · simp only [Option.some.injEq] at hx; subst hx; simp
              · split at hx
                case h_2 => cases hx
                split at hx
                case h_2 => cases hx
                split at hx
                · split at hx
                  · simp only [Option.some.injEq] at hx; subst hx; simp
                  · cases hx
                · split at hx
                  case h_2 => cases hx
                  split at hx
                  case isFalse => cases hx
                  split at hx
                  · simp only [Option.some.injEq] at hx; subst hx; simp
                  · cases hx
              · cases hx
            · cases hx
          · cases hx
        have : ∀ b, b ≠ .append → b ≠ .copy → xop P D h t m d (.call ⟨.builtin b, args, ats⟩) = some out → ∀ j ∈ out.w.map (·.1), False := by
          intro b hb hb2 hx
          cases b <;> first
            | (exact absurd rfl hb)
            | (exact absurd rfl hb2)
            | (simp only [xop] at hx
               split at hx
               · simp only [Option.some.injEq] at hx; subst hx; simp
               · cases hx)
        intro j hj
        exact (this b hb hb2 hx j hj).elim
    | value x =>
      simp only [xop] at hx
      split at hx
      · split at hx
        · split at hx
          · split at hx
            · simp only [Option.some.injEq] at hx; subst hx; simp [fp]
            · cases hx
          · cases hx
        · cases hx
      · split at hx
        · simp only [Option.some.injEq] at hx; subst hx; simp
        · cases hx
    | invoke x n =>
      simp only [xop] at hx
      split at hx
      · split at hx
        · split at hx
          · split at hx
            · simp only [Option.some.injEq] at hx; subst hx; simp [fp]
            · cases hx
          · cases hx
        · cases hx
      · split at hx
        · simp only [Option.some.injEq] at hx; subst hx; simp
        · cases hx
  | _ =>
    simp only [xop] at hx
    split at hx
    · simp only [Option.some.injEq] at hx; subst hx; simp
    · cases hx
end
end Go.Sx
