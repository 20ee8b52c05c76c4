/- Part of an executor of given code on symbolic values, with its proof of soundness: what is proved stands in each theorem. -/
import Derived.Test.YtnnmofebjfpcnaaGreatSxSound
set_option linter.unusedVariables false
set_option linter.unusedSimpArgs false

namespace Go.Sx
open Go.RowKit

section
variable {P : Program} {D : Dat}

theorem runCode_succ (n b : Nat) (c : Code) (s : St) (nx : Nat) (ds : Ds) : runCode P D (n + 1) b c s nx ds = codeF P D (recs P D n) b c s nx ds := rfl
theorem runLoop_succ (n b : Nat) (c : Code) (s : St) (nx : Nat) (ds : Ds) : runLoop P D (n + 1) b c s nx ds = loopF (recs P D n) b c s nx ds := rfl
theorem runOps_succ (n b : Nat) (ops l : List Oper) (i m : Nat) (s : St) (nx : Nat) (ds : Ds) : runOps P D (n + 1) b ops l i m s nx ds = opsF P D (recs P D n) b ops l i m s nx ds := rfl
theorem callFn_succ (n : Nat) (f : FuncId) (as : List SV) (h : Heap) (nx : Nat) (ds : Ds) : callFn P D (n + 1) f as h nx ds = fnF P (recs P D n) f as h nx ds := rfl
theorem rc (n : Nat) : (recs P D n).code = runCode P D n := rfl
theorem rl (n : Nat) : (recs P D n).loop = runLoop P D n := rfl
theorem ro (n : Nat) : (recs P D n).ops = runOps P D n := rfl
theorem rf (n : Nat) : (recs P D n).fn = callFn P D n := rfl

theorem Ex.then_of {e : Ex} (he : e ≠ .normal) {K : Act → World → Prop} {Q : Exit → Act → World → Prop} {a : Act} {w : World} : Exit.then K Q e.of a w = Q e.of a w := by
  cases e <;> first | exact absurd rfl he | rfl

theorem CodeOK.le_refl {b : Nat} (ρ : Env) : leB b ρ ρ := fun _ _ _ h => h

structure Sound (P : Program) (D : Dat) (n : Nat) : Prop where
  code : ∀ b c s nx ds e s' nx' ds' o, runCode P D n b c s nx ds = some (e, s', nx', ds', o) → All o → CodeOK P b c s s' e
  loop : ∀ b c s nx ds e s' nx' ds' o, runLoop P D n b c s nx ds = some (e, s', nx', ds', o) → All o →
    ∀ (W0 : World) (S : Nat → Prop) (ρ : Env) (a : Act) (W : World) (Q : Exit → Act → World → Prop), Agree ρ s.t a.tmps → a.defers = [] → Sat W0 S ρ s.h W →
    (∀ ρ' a' W', leB b ρ ρ' → Agree ρ' s'.t a'.tmps → a'.defers = [] → Sat W0 S ρ' s'.h W' → Q e.of a' W') → Code.rounds P c Q n a W
  ops : ∀ b ops rest i m s nx ds s' nx' ds' o, runOps P D n b ops rest i m s nx ds = some (s', nx', ds', o) → All o →
    ∀ (W0 : World) (S : Nat → Prop) (ρ : Env) (a : Act) (W : World) (Q : Exit → Act → World → Prop), Agree ρ s.t a.tmps → a.defers = [] → Sat W0 S ρ s.h W →
    (∀ ρ' a' W', leB b ρ ρ' → Agree ρ' s'.t a'.tmps → a'.defers = [] → Sat W0 S ρ' s'.h W' → Q .normal a' W') → wpList P ops.toArray Q rest a W
  fn : ∀ f as h nx ds v h' nx' ds' o, callFn P D n f as h nx ds = some (v, h', nx', ds', o) → All o → FnOK P f as h v h'

theorem sound (hL : LOK P D) : ∀ n, Sound P D n
  | 0 => by
    refine ⟨?_, ?_, ?_, ?_⟩
    · intro b c s nx ds e s' nx' ds' o h; simp [runCode, recs] at h
    · intro b c s nx ds e s' nx' ds' o h; simp [runLoop, recs] at h
    · intro b ops rest i m s nx ds s' nx' ds' o h; simp [runOps, recs] at h
    · intro f as h nx ds v h' nx' ds' o hh; simp [callFn, recs] at hh
  | n + 1 => by
    have IH := sound hL n
    refine ⟨?_, ?_, ?_, ?_⟩
    · intro b c s nx ds e s' nx' ds' o h ho W0 S ρ a W Q hag hdf hsat hQ
      cases c with
      | skip =>
        simp only [runCode_succ, codeF, Option.some.injEq, Prod.mk.injEq] at h
        obtain ⟨rfl, rfl, rfl, rfl, rfl⟩ := h
        exact wp_skip (hQ ρ a W (CodeOK.le_refl ρ) hag hdf hsat)
      | label l =>
        simp only [runCode_succ, codeF, Option.some.injEq, Prod.mk.injEq] at h
        obtain ⟨rfl, rfl, rfl, rfl, rfl⟩ := h
        exact wp_label (hQ ρ a W (CodeOK.le_refl ρ) hag hdf hsat)
      | exit id =>
        simp only [runCode_succ, codeF, Option.some.injEq, Prod.mk.injEq] at h
        obtain ⟨rfl, rfl, rfl, rfl, rfl⟩ := h
        exact wp_exit (hQ ρ a W (CodeOK.le_refl ρ) hag hdf hsat)
      | goto l =>
        simp only [runCode_succ, codeF, Option.some.injEq, Prod.mk.injEq] at h
        obtain ⟨rfl, rfl, rfl, rfl, rfl⟩ := h
        exact wp_goto (hQ ρ a W (CodeOK.le_refl ρ) hag hdf hsat)
      | ret =>
        simp only [runCode_succ, codeF, Option.some.injEq, Prod.mk.injEq] at h
        obtain ⟨rfl, rfl, rfl, rfl, rfl⟩ := h
        exact wp_ret (hQ ρ a W (CodeOK.le_refl ρ) hag hdf hsat)
      | seq x y =>
        simp only [runCode_succ, codeF, rc, rl, ro] at h
        split at h
        · rename_i s1 nx1 ds1 o1 h1
          split at h
          · rename_i e2 s2 nx2 ds2 o2 h2
            simp only [Option.some.injEq, Prod.mk.injEq] at h
            obtain ⟨rfl, rfl, rfl, rfl, rfl⟩ := h
            obtain ⟨p1, p2⟩ := All_append.1 ho
            refine wp_seq ?_
            refine IH.code _ _ _ _ _ _ _ _ _ _ h1 p1 W0 S ρ a W _ hag hdf hsat (fun ρ1 a1 W1 k1 k2 k3 k4 => ?_)
            exact IH.code _ _ _ _ _ _ _ _ _ _ h2 p2 W0 S ρ1 a1 W1 Q k2 k3 k4 (fun ρ2 a2 W2 l1 l2 l3 l4 => hQ ρ2 a2 W2 (k1.trans l1) l2 l3 l4)
          · cases h
        · rename_i r hne
          cases hr : runCode P D n b x s nx ds with
          | none => rw [hr] at h; cases h
          | some q =>
            rw [hr] at h; simp only [Option.some.injEq] at h; subst h
            refine wp_seq ?_
            refine IH.code _ _ _ _ _ _ _ _ _ _ hr ho W0 S ρ a W _ hag hdf hsat (fun ρ1 a1 W1 k1 k2 k3 k4 => ?_)
            rw [Ex.then_of]
            · exact hQ ρ1 a1 W1 k1 k2 k3 k4
            · intro he; subst he; exact hne _ _ _ _ hr
      | cond cnd x y =>
        simp only [runCode_succ, codeF, rc, rl, ro] at h
        split at h
        · rename_i hc
          have hc := ev_den hag hc
          simp [den] at hc
          exact wp_cond_true hc.symm (IH.code _ _ _ _ _ _ _ _ _ _ h ho W0 S ρ a W Q hag hdf hsat hQ)
        · rename_i hc
          have hc := ev_den hag hc
          simp [den] at hc
          exact wp_cond_false hc.symm (IH.code _ _ _ _ _ _ _ _ _ _ h ho W0 S ρ a W Q hag hdf hsat hQ)
        · cases h
      | block id x =>
        simp only [runCode_succ, codeF, rc, rl, ro] at h
        refine wp_block ?_
        split at h
        · rename_i i s1 nx1 ds1 o1 h1
          split at h
          · rename_i hi
            simp only [Option.some.injEq, Prod.mk.injEq] at h
            obtain ⟨rfl, rfl, rfl, rfl, rfl⟩ := h
            refine IH.code _ _ _ _ _ _ _ _ _ _ h1 ho W0 S ρ a W _ hag hdf hsat (fun ρ1 a1 W1 k1 k2 k3 k4 => ?_)
            simp only [Ex.of, Exit.inBlock, hi, if_true]
            exact hQ ρ1 a1 W1 k1 k2 k3 k4
          · rename_i hi
            simp only [Option.some.injEq, Prod.mk.injEq] at h
            obtain ⟨rfl, rfl, rfl, rfl, rfl⟩ := h
            refine IH.code _ _ _ _ _ _ _ _ _ _ h1 ho W0 S ρ a W _ hag hdf hsat (fun ρ1 a1 W1 k1 k2 k3 k4 => ?_)
            simp only [Ex.of, Exit.inBlock, hi, if_false]
            exact hQ ρ1 a1 W1 k1 k2 k3 k4
        · rename_i r hne
          cases hr : runCode P D n b x s nx ds with
          | none => rw [hr] at h; cases h
          | some q =>
            rw [hr] at h; simp only [Option.some.injEq] at h; subst h
            refine IH.code _ _ _ _ _ _ _ _ _ _ hr ho W0 S ρ a W _ hag hdf hsat (fun ρ1 a1 W1 k1 k2 k3 k4 => ?_)
            cases e with
            | exit i => exact absurd hr (hne _ _ _ _ _)
            | _ => exact hQ ρ1 a1 W1 k1 k2 k3 k4
      | loop x =>
        simp only [runCode_succ, codeF, rc, rl] at h
        split at h
        · simp only [Option.some.injEq, Prod.mk.injEq] at h
          obtain ⟨rfl, rfl, rfl, rfl, rfl⟩ := h
          exact ho.1 W0 S ρ a W Q hag hdf hsat hQ
        · exact wp_loop_rounds n (IH.loop _ _ _ _ _ _ _ _ _ _ h ho W0 S ρ a W Q hag hdf hsat hQ)
      | scope x =>
        simp only [runCode_succ, codeF, rc, rl] at h
        split at h
        · simp only [Option.some.injEq, Prod.mk.injEq] at h
          obtain ⟨rfl, rfl, rfl, rfl, rfl⟩ := h
          exact ho.1 W0 S ρ a W Q hag hdf hsat hQ
        · refine wp_scope_straight ?_
          split at h
          · cases h
          · rename_i r hne
            cases hr : runCode P D n b x s nx ds with
            | none => rw [hr] at h; cases h
            | some q =>
              rw [hr] at h; simp only [Option.some.injEq] at h; subst h
              refine IH.code _ _ _ _ _ _ _ _ _ _ hr ho W0 S ρ a W _ hag hdf hsat (fun ρ1 a1 W1 k1 k2 k3 k4 => ?_)
              cases e with
              | goto i => exact absurd hr (hne _ _)
              | _ => exact hQ ρ1 a1 W1 k1 k2 k3 k4
      | rangeFunc f p x y =>
        simp only [runCode_succ, codeF, rc, rl] at h
        split at h
        · simp only [Option.some.injEq, Prod.mk.injEq] at h
          obtain ⟨rfl, rfl, rfl, rfl, rfl⟩ := h
          exact ho.1 W0 S ρ a W Q hag hdf hsat hQ
        · cases h
      | region id ops draw =>
        cases draw with
        | false =>
          simp only [runCode_succ, codeF, rc, rl, ro] at h
          split at h
          · rename_i s1 nx1 ds1 o1 h1
            simp only [Option.some.injEq, Prod.mk.injEq] at h
            obtain ⟨rfl, rfl, rfl, rfl, rfl⟩ := h
            refine wp_region_list ?_
            have := IH.ops _ _ _ _ _ _ _ _ _ _ _ _ h1 ho W0 S ρ a W Q hag hdf hsat hQ
            simpa using this
          · cases h
        | true =>
          simp only [runCode_succ, codeF, rc, rl, ro] at h
          split at h
          · rename_i l s1 o1 h1
            split at h
            · rename_i hc
              simp only [Bool.and_eq_true] at hc
              simp only [Option.some.injEq, Prod.mk.injEq] at h
              obtain ⟨rfl, rfl, rfl, rfl, rfl⟩ := h
              exact draw_sound hL (fun f as h v h' nx dsx nx' ds' o hh hoo => IH.fn _ _ _ _ _ _ _ _ _ _ hh hoo) h1 ho hc.1 hc.2 b W0 S ρ a W Q hag hdf hsat hQ
            · cases h
          · cases h
      | refuse w => simp [runCode_succ, codeF] at h
    · intro b c s nx ds e s' nx' ds' o h ho W0 S ρ a W Q hag hdf hsat hQ
      simp only [runLoop_succ, loopF, rc, rl] at h
      show c.wp P (Exit.then (Code.rounds P c Q n) Q) a W
      split at h
      · rename_i s1 nx1 ds1 o1 h1
        split at h
        · rename_i e2 s2 nx2 ds2 o2 h2
          simp only [Option.some.injEq, Prod.mk.injEq] at h
          obtain ⟨rfl, rfl, rfl, rfl, rfl⟩ := h
          obtain ⟨p1, p2⟩ := All_append.1 ho
          refine IH.code _ _ _ _ _ _ _ _ _ _ h1 p1 W0 S ρ a W _ hag hdf hsat (fun ρ1 a1 W1 k1 k2 k3 k4 => ?_)
          exact IH.loop _ _ _ _ _ _ _ _ _ _ h2 p2 W0 S ρ1 a1 W1 Q k2 k3 k4 (fun ρ2 a2 W2 l1 l2 l3 l4 => hQ ρ2 a2 W2 (k1.trans l1) l2 l3 l4)
        · cases h
      · rename_i r hne
        cases hr : runCode P D n b c s nx ds with
        | none => rw [hr] at h; cases h
        | some q =>
          rw [hr] at h; simp only [Option.some.injEq] at h; subst h
          refine IH.code _ _ _ _ _ _ _ _ _ _ hr ho W0 S ρ a W _ hag hdf hsat (fun ρ1 a1 W1 k1 k2 k3 k4 => ?_)
          rw [Ex.then_of]
          · exact hQ ρ1 a1 W1 k1 k2 k3 k4
          · intro he; subst he; exact hne _ _ _ _ hr
    · intro b ops rest i m s nx ds s' nx' ds' o h ho W0 S ρ a W Q hag hdf hsat hQ
      cases rest with
      | nil =>
        simp only [runOps_succ, opsF, Option.some.injEq, Prod.mk.injEq] at h
        obtain ⟨rfl, rfl, rfl, rfl⟩ := h
        exact hQ ρ a W (CodeOK.le_refl ρ) hag hdf hsat
      | cons op rest =>
        simp only [runOps_succ, opsF, ro] at h
        have put_defers : ∀ V, (a.put op.dst V).defers = a.defers := fun V => by unfold Act.put; split <;> rfl
        split at h
        · rename_i f as hinl
          split at h
          · rename_i v hp nx1 ds1 o1 hcall
            -- the call entered
            have hfn : ∀ p1, All p1 → o1 = p1 → FnOK P f as s.h v hp := fun p1 h1 h2 => callL_ok hcall (fun _ _ _ _ _ hh => IH.fn _ _ _ _ _ _ _ _ _ _ hh (by rw [h2]; exact h1))
            unfold inl at hinl
            split at hinl
            · rename_i c hop
              split at hinl
              · cases hinl
              · split at hinl
                · rename_i hw
                  have hwant := wantedS_run hw hag
                  have hinl : callee D s.t c = some (f, as) := by
                    split at hinl
                    · split at hinl
                      · rename_i hc _
                        rw [hc]; exact hinl
                      · cases hinl
                    · cases hinl
                  have hbody : ∃ fn, P.funcs[f]? = some fn ∧ fn.body.isSome = true := by
                    obtain ⟨h0, q0, hcall⟩ := callL_some hcall
                    rw [rf] at hcall
                    cases n with
                    | zero => simp [callFn, recs] at hcall
                    | succ n =>
                      simp only [callFn_succ, fnF, rc] at hcall
                      split at hcall
                      · rename_i fn hf
                        split at hcall
                        · rename_i cc hb
                          exact ⟨fn, hf, by simp [hb]⟩
                        · cases hcall
                      · cases hcall
                  obtain ⟨fn, hf, hb⟩ := hbody
                  obtain ⟨As, hA, hrun⟩ := callee_run hL hop hinl hag hf hb W
                  have main : ∀ (u : SV) dsx s2 nx2 ds2 o2, soft v = soft u → FnOK P f as s.h v hp → runOps P D n b ops rest (i + 1) (m + 4) ⟨setD s.t op.dst u, hp⟩ nx1 dsx = some (s2, nx2, ds2, o2) → All o2 → s2 = s' → wpList P ops.toArray Q (op :: rest) a W := by
                    intro u dsx s2 nx2 ds2 o2 hvu hok hrest ho2 hs2
                    subst hs2
                    unfold wpList
                    rw [hwant]
                    simp only [if_true]
                    left
                    unfold Oper.wp
                    rw [hrun]
                    refine (hok W0 S ρ W As hA hsat).mono ?_
                    rintro e W' ⟨ρ', V, hle, hd, rfl, hs⟩
                    exact IH.ops _ _ _ _ _ _ _ _ _ _ _ _ hrest ho2 W0 S ρ' _ W' Q ((hag.le hle).setD _ (by rw [← den_soft, ← hvu, den_soft]; exact hd)) ((put_defers V).trans hdf) hs (fun ρ2 a2 W2 l1 l2 l3 l4 => hQ ρ2 a2 W2 ((hle.leB b).trans l1) l2 l3 l4)
                  split at h
                  · rename_i u _
                    split at h
                    · rename_i s2 nx2 ds2 o2 hrest
                      simp only [Option.some.injEq, Prod.mk.injEq] at h
                      obtain ⟨rfl, rfl, rfl, rfl⟩ := h
                      simp only [All] at ho
                      obtain ⟨p1, p2⟩ := All_append.1 ho.2
                      exact main u _ _ _ _ _ ho.1 (hfn _ p1 rfl) hrest p2 rfl
                    · cases h
                  · split at h
                    · rename_i s2 nx2 ds2 o2 hrest
                      simp only [Option.some.injEq, Prod.mk.injEq] at h
                      obtain ⟨rfl, rfl, rfl, rfl⟩ := h
                      obtain ⟨p1, p2⟩ := All_append.1 ho
                      exact main v _ _ _ _ _ rfl (hfn _ p1 rfl) hrest p2 rfl
                    · cases h
                · cases hinl
            · cases hinl
          · cases h
        · split at h
          · rename_i s1 o1 h1
            split at h
            · rename_i s2 nx2 ds2 o2 h2
              simp only [Option.some.injEq, Prod.mk.injEq] at h
              obtain ⟨rfl, rfl, rfl, rfl⟩ := h
              obtain ⟨p1, p2⟩ := All_append.1 ho
              exact xitem_wp hL h1 p1 hag hsat (K := wpList P ops.toArray Q rest) (Q := Q) (fun ρ1 a1 W1 k1 k2 k3 k4 =>
                IH.ops _ _ _ _ _ _ _ _ _ _ _ _ h2 p2 W0 S ρ1 a1 W1 Q k2 (k3.trans hdf) k4 (fun ρ2 a2 W2 l1 l2 l3 l4 => hQ ρ2 a2 W2 ((k1.leB b).trans l1) l2 l3 l4))
            · cases h
          · cases h
    · intro f as h nx ds v h' nx' ds' o hh ho W0 S ρ W As hA hsat
      simp only [callFn_succ, fnF, rc] at hh
      split at hh
      · rename_i fn hf
        split at hh
        · rename_i c hb
          split at hh
          · rename_i hk
            refine calls_of_wp hf hb ?_
            have hag := agree_enter hA fn.ntmps
            have fin : ∀ (e : Ex) s1 nx1 ds1 o1 l, (e = .normal ∨ e = .ret) → runCode P D n nx c ⟨as.map some ++ noneN (fn.ntmps - as.length), h⟩ nx ds = some (e, s1, nx1, ds1, o1) → All o1 → xres P s1.t s1.h fn.results.toList = some l → one1 l = v → s1.h = h' →
                c.wp P (bodyPost P fn (fun e W' => ∃ ρ' V, Env.le ρ ρ' ∧ den ρ' v = some V ∧ e = .returned V ∧ Sat W0 S ρ' h' W')) { tmps := As.toArray ++ Array.replicate (fn.ntmps - As.toArray.size) undef, defers := [] } W := by
              intro e s1 nx1 ds1 o1 l he hr ho1 hx hv hh'
              refine IH.code _ _ _ _ _ _ _ _ _ _ hr ho1 W0 S ρ _ W _ hag rfl hsat (fun ρ1 a1 W1 k1 k2 k3 k4 => ?_)
              obtain ⟨V, q1, q2⟩ := results_xres (P := P) k2 k4 hx
              have hle := leB_le hk hsat.key k1
              rw [hv] at q1; rw [hh'] at k4
              rcases he with rfl | rfl
              · exact ⟨k3, V, q2, ρ1, V, hle, q1, rfl, k4⟩
              · exact ⟨k3, V, q2, ρ1, V, hle, q1, rfl, k4⟩
            split at hh
            · rename_i s1 nx1 ds1 o1 hr
              split at hh
              · rename_i l hx
                simp only [Option.some.injEq, Prod.mk.injEq] at hh
                obtain ⟨h1, h2, _, _, rfl⟩ := hh
                exact fin .normal _ _ _ _ l (.inl rfl) hr ho hx h1 h2
              · cases hh
            · rename_i s1 nx1 ds1 o1 hr
              split at hh
              · rename_i l hx
                simp only [Option.some.injEq, Prod.mk.injEq] at hh
                obtain ⟨h1, h2, _, _, rfl⟩ := hh
                exact fin .ret _ _ _ _ l (.inr rfl) hr ho hx h1 h2
              · cases hh
            · cases hh
          · cases hh
        · cases hh
      · cases hh
end
end Go.Sx
