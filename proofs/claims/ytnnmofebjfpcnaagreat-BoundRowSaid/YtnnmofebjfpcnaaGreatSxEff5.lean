/- Part of an executor of given code on symbolic values, with its proof of soundness: what is proved stands in each theorem. -/
import Derived.Test.YtnnmofebjfpcnaaGreatSxEff4
set_option linter.unusedVariables false
set_option linter.unusedSimpArgs false

namespace Go.Sx
open Go.RowKit

theorem toArr (A : Array Value) : A.toList.toArray = A := by simp

theorem xe_sound {P : Program} (o : Oper) {hp : Heap} {t : Tmps} {m : Nat} {d : Option Dir} {out : Out} (h : xe P hp t m d o.op = some out) (ho : All out.o)
    {ρ : Env} {a : Act} (ag : Agree ρ t a.tmps) {W0 : World} {S : Nat → Prop} {W : World} (s : Sat W0 S ρ hp W) : Eff P W0 S ρ hp W out ((execOp a.eval o).run P W) := by
  cases hop : o.op with
  | alloc e =>
    rw [hop] at h; simp only [xe] at h
    split at h
    · rename_i z hz
      obtain ⟨Z, hZ, hZr⟩ := zeroT_run hz ρ
      have hc := cells_den hZ
      have hv : out.v = .ptr m 0 := by
        unfold xnew at h; split at h
        · simp only [Option.some.injEq] at h; subst h; rfl
        · cases h
      refine xnew_sound (V := .pointer (some ⟨W.heap.size, 0, none⟩)) s h hc ?_ (by simp [den, Env.upd, Addr.add])
      simp [execOp, hop, Instr.alloc, hZr, newVar, newRow]
    · cases h
  | box e x =>
    rw [hop] at h; simp only [xe] at h
    split at h
    · rename_i v hv
      have hc := cells_den (ev_den ag hv)
      refine xnew_sound (V := .pointer (some ⟨W.heap.size, 0, none⟩)) s h hc ?_ (by simp [den, Env.upd, Addr.add])
      simp [execOp, hop, Instr.box, newVar, newRow]
    · cases h
  | buildSlice ty len ps =>
    rw [hop] at h; simp only [xe] at h
    split at h
    · rename_i e l hu hl
      have hur := run_underlying hu W
      split at h
      · rename_i z zv hz hzv
        have hzr := sizeT_run hz W
        obtain ⟨Z, hZ, hZr⟩ := zeroT_run hzv ρ
        split at h
        · rename_i hc
          split at h
          · rename_i cs hcs
            obtain ⟨k1, k2⟩ := pairs_den ag hl
            have hmc := madeCells_rep hZ len z hc.1
            have hsz : Z.cells.size = z := by
              have := denl_length (cells_den hZ)
              rw [hc.1] at this; simpa using this
            obtain ⟨O, h3, h4⟩ := xfill_run _ _ _ _ ((ps.map fun (i, x) => (i, a.eval x)).toList) hcs hmc (by simpa using k1) (by simpa using k2)
            refine xnew_sound (V := .slice (some ⟨W.heap.size, 0, none⟩) len len) s h h3 ?_ (by simp [den, Env.upd, Addr.add])
            have hn : ¬ len * z > 2 ^ 24 := by omega
            have h5 : Instr.fill (fun i => some (i * z, z)) ((Array.range (len * z)).map (Z.cells[· % Z.cells.size]!)) (ps.map fun (i, x) => (i, a.eval x)).toList = some O.toArray := by
              rw [← h4]
            by_cases h0 : len * z = 0
            · have h6 : ((Array.range (len * z)).map ((#[] : Array Value)[· % (#[] : Array Value).size]!)) = ((Array.range (len * z)).map (Z.cells[· % Z.cells.size]!)) := by
                rw [h0]; simp
              have h7 : Instr.fill (fun i => some (i * z, z)) ((Array.range (len * z)).map ((#[] : Array Value)[· % (#[] : Array Value).size]!)) (ps.map fun (i, x) => (i, a.eval x)).toList = some O.toArray := by rw [h6]; exact h5
              simp only [execOp, hop, Instr.buildSlice, Sem.run_bind, hur, Result.andThen_ok, hzr, if_neg hn, if_pos h0, Sem.run_pure]
              rw [h7]
              simp [newRow]
            · simp only [execOp, hop, Instr.buildSlice, Sem.run_bind, hur, Result.andThen_ok, hzr, if_neg hn, if_neg h0, Sem.run_pure, hZr]
              rw [h5]
              simp [newRow]
          · cases h
        · cases h
      · cases h
    · cases h
  | makeSlice ty l c =>
    rw [hop] at h; simp only [xe] at h
    split at h
    case h_2 => cases h
    rename_i lv cv hl hc
    have hl := ev_den ag hl
    have hc := ev_den ag hc
    rw [← den_soft] at hl hc
    generalize soft lv = ls at h hl
    generalize soft cv = cs at h hc
    unfold xmake at h
    split at h
    · rename_i e kl li kc ci hu
      split at h
      · rename_i i zv ob1 hi hzv hk1
        split at h
        case h_2 => cases h
        rename_i ob2 hk2
        obtain ⟨Z, hZ, hZr⟩ := zeroT_run hzv ρ
        split at h
        · rename_i hsz
          split at h
          · rename_i hcc
            simp only [Bool.and_eq_true] at hcc
            simp only [Option.some.injEq] at h; subst h
            obtain ⟨ho1, ho2⟩ := All_append.1 ho
            obtain ⟨o1, o2, o4⟩ := chk_ok hk1 ho1
            have o3 := chk_ok hk2 ho2
            simp [den] at hl hc
            have hm := isNone_iff hcc.2
            have hz : i.zero = some Z := by
              unfold zeroT at hzv
              rw [hi] at hzv
              simp only at hzv
              cases hz2 : i.zero with
              | none => rw [hz2] at hzv; simp at hzv
              | some Z' =>
                rw [hz2] at hzv; simp only at hzv
                have := den_lift ρ Z' zv hzv
                rw [hZ] at this; exact this.symm ▸ rfl
            have hrun := run_make (P := P) W ty e i Z hu hi hz kl kc li ci o1 o2 o3 o4
            have hmc := madeCells_rep hZ ci.toNat i.size hsz
            have hmade : (madeCells Z.cells (ci.toNat * i.size)).toList = ((Array.range (ci.toNat * i.size)).map (Z.cells[· % Z.cells.size]!)).toList := rfl
            rw [← hmade] at hmc
            have h1 : ∀ V ∈ (madeCells Z.cells (ci.toNat * i.size)).toList, V.oneCell' = true := by
              refine ones_den hmc ?_
              have : ∀ n, ones (rep n zv.cells) = true := by
                intro n
                induction n with
                | zero => rfl
                | succ n ih =>
                  rw [rep_succ]
                  have app : ∀ (x y : List SV), ones x = true → ones y = true → ones (x ++ y) = true := by
                    intro x
                    induction x with
                    | nil => intro y _ hy; exact hy
                    | cons v x ihx =>
                      intro y hx hy
                      simp only [ones, Bool.and_eq_true, List.cons_append] at hx ⊢
                      exact ⟨hx.1, ihx y hx.2 hy⟩
                  exact app _ _ hcc.1 ih
              exact this _
            have hsat := s.alloc hm (e := e) hmc h1
            rw [toArr] at hsat
            exact ⟨_, _, .slice (some ⟨W.heap.size, 0, none⟩) li.toNat ci.toNat, _, Env.upd_le (s.key m hm), by simp [den, Env.upd, Addr.add], by simp [execOp, hop, ← hl, ← hc, hrun], .inl rfl, hsat⟩
          · cases h
        · cases h
      · cases h
    · cases h
  | store ty x y =>
    rw [hop] at h; simp only [xe] at h
    split at h
    · rename_i j off v n hx hy hn
      split at h
      · rename_i hc
        simp only [Bool.and_eq_true] at hc
        obtain ⟨l, ad, h1, h2, hX⟩ := den_ptr (ev_den ag hx)
        have hY := ev_den ag hy
        have hcd := cells_den hY
        obtain ⟨h3, W', h4, h5⟩ := xstore_sound (P := P) s h ho hcd (ones_den hcd hc.1) h1 h2
        have hlen : (a.eval y).cells.size = n := by
          have := denl_length hcd
          have h6 := Nat.eq_of_beq_eq_true hc.2
          simp at this; omega
        have hnr := sizeT_run hn W
        refine ⟨ρ, W', undef, .skip, Env.le.refl _, h3, ?_, .inr ⟨rfl, rfl⟩, h5⟩
        simp [execOp, hop, hX, Instr.storeAt, Instr.sureAddr, storeVar, hnr, hlen, h4]
      · cases h
    · cases h
  | _ => rw [hop] at h; simp [xe] at h
end Go.Sx
