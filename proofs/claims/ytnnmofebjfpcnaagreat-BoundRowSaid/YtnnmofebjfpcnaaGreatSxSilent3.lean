/- Part of an executor of given code on symbolic values, with its proof of soundness: what is proved stands in each theorem. -/
import Derived.Test.YtnnmofebjfpcnaaGreatSxSilent2
set_option linter.unusedVariables false
set_option linter.unusedSimpArgs false

namespace Go.Sx
open Go.RowKit

theorem runBin_eq (o : Oper) (op : BinOp) (t t2 : TypeId) (x y : Operand) (h : o.op = .binOp op t x y t2) (e : Operand → Value) (P : Program) (W : World) (V : Value)
    (hr : (runBin op t x y (e x) (e y)).run P W = .ok V W) : (execOp e o).run P W = .ok (.value V) W := by
  simp only [execOp, h]
  have : (do eqGuard op t x y (e x) (e y); binOp op t (e x) (e y) : Sem Value) = runBin op t x y (e x) (e y) := rfl
  rw [this]
  simp [hr]

theorem xq_sound {P : Program} {D : Dat} (hL : LOK P D) (o : Oper) {hp : Heap} {t : Tmps} {d : Option Dir} {v : SV} {obs : List Prop} (h : xq P D hp t d o.op = some (v, obs)) (ho : All obs)
    {ρ : Env} {a : Act} (ag : Agree ρ t a.tmps) {W0 : World} {S : Nat → Prop} {W : World} (s : Sat W0 S ρ hp W) :
    ∃ V, den ρ v = some V ∧ (execOp a.eval o).run P W = .ok (.value V) W := by
  cases hop : o.op with
  | move x =>
    rw [hop] at h; simp only [xq] at h
    replace h := (addO_some h).1
    exact ⟨_, ev_den ag h, by simp [execOp, hop]⟩
  | assign x =>
    rw [hop] at h; simp only [xq] at h
    replace h := (addO_some h).1
    exact ⟨_, ev_den ag h, by simp [execOp, hop]⟩
  | pick c x y =>
    rw [hop] at h; simp only [xq] at h
    split at h
    · rename_i hc
      have hc := ev_den ag hc
      simp [den] at hc
      replace h := (addO_some h).1
      exact ⟨_, ev_den ag h, by simp [execOp, hop, ← hc, asBool]⟩
    · rename_i hc
      have hc := ev_den ag hc
      simp [den] at hc
      replace h := (addO_some h).1
      exact ⟨_, ev_den ag h, by simp [execOp, hop, ← hc, asBool]⟩
    · cases h
  | load ty x =>
    rw [hop] at h; simp only [xq] at h
    split at h
    · rename_i j off hx
      obtain ⟨l, ad, h1, h2, hV⟩ := den_ptr (ev_den ag hx)
      split at h
      · rename_i e he
        split at h
        · rename_i cs hcs
          obtain ⟨l', hl', ok⟩ := s.ent j e he
          rw [h1] at hl'; injection hl' with hl'; subst hl'
          obtain ⟨Vs, hd, _, _, hr⟩ := Ent.reads ok hcs
          have key : xcut P ty cs off = some v := by
            split at h
            · simp only [Option.some.injEq, Prod.mk.injEq] at h
              obtain ⟨rfl, rfl⟩ := h
              exact ho.1
            · exact (addO_some h).1
          obtain ⟨V, h3, h4⟩ := xcut_run key hd (hr ad h2)
          exact ⟨V, h3, by simp [execOp, hop, hV, Instr.loadAt, Instr.sureAddr, h4]⟩
        · cases h
      · cases h
    · cases h
  | nilCheck x =>
    rw [hop] at h; simp only [xq] at h
    split at h
    · rename_i u hx
      have hx := ev_den ag hx
      replace h := (addO_some h).1
      unfold xnil at h
      split at h
      · simp only [Option.some.injEq] at h; subst h
        refine ⟨_, hx, ?_⟩
        obtain ⟨l, ad, h1, h2, hV⟩ := den_ptr hx
        simp [execOp, hop, hV]
      · simp only [Option.some.injEq] at h; subst h
        refine ⟨_, hx, ?_⟩
        obtain ⟨A, B, h1, h2, hV⟩ := den_fn hx
        simp [execOp, hop, hV]
      · simp only [Option.some.injEq] at h; subst h
        refine ⟨_, hx, ?_⟩
        obtain ⟨A, h1, hV⟩ := den_iface hx
        simp [execOp, hop, hV]
      · cases h
    · cases h
  | binOp op ty x y t2 =>
    rw [hop] at h; simp only [xq] at h
    split at h
    · rename_i u w hx hy
      obtain ⟨V, h1, h2⟩ := xbinN_run hL h ho (ev_den ag hx) (ev_den ag hy) W
      exact ⟨V, h1, runBin_eq o op ty t2 x y hop _ _ _ _ h2⟩
    · cases h
  | unOp op ty x =>
    rw [hop] at h; simp only [xq] at h
    split at h
    · rename_i u hx
      have hx := ev_den ag hx
      obtain ⟨v', h, hvv⟩ := hardO_some h
      rw [hvv]
      rw [← den_soft] at hx
      replace h := (addO_some h).1
      generalize soft u = us at h hx
      unfold xun at h
      split at h
      · simp [den] at hx
        split at h
        · simp only [Option.some.injEq] at h; subst h
          exact ⟨_, rfl, by simp [execOp, hop, ← hx, Op.unary, Op.intArith]⟩
        · simp only [Option.some.injEq] at h; subst h
          exact ⟨_, rfl, by simp [execOp, hop, ← hx, Op.unary, Op.intBits]⟩
        · cases h
      · simp [den] at hx
        split at h
        · simp only [Option.some.injEq] at h; subst h
          exact ⟨_, rfl, by simp [execOp, hop, ← hx, Op.unary]⟩
        · cases h
      · cases h
    · cases h
  | convert s' d' x =>
    rw [hop] at h; simp only [xq] at h
    split at h
    · rename_i u hx
      have hx := ev_den ag hx
      obtain ⟨v', h, hvv⟩ := hardO_some h
      rw [hvv]
      rw [← den_soft] at hx
      replace h := (addO_some h).1
      generalize soft u = us at h hx
      unfold xconv at h
      split at h
      · simp [den] at hx
        split at h
        · rename_i u1 u2 k h1 h2
          simp only [Option.some.injEq] at h; subst h
          have hr1 := run_underlying h1 W
          have hr2 := run_underlying h2 W
          exact ⟨_, rfl, by simp [execOp, hop, ← hx, convert, hr1, hr2, Conv.intToInt]⟩
        · cases h
      · cases h
    · cases h
  | makeInterface ty x =>
    rw [hop] at h; simp only [xq] at h
    split at h
    · rename_i u hx
      have hx := ev_den ag hx
      replace h := (addO_some h).1
      unfold xmi at h
      split at h
      · cases h
      · rename_i dd hne hu
        simp only [Option.some.injEq] at h; subst h
        have hr := run_underlying hu W
        refine ⟨.iface ty (a.eval x), by simp [den, hx], ?_⟩
        cases dd <;> first | (exact absurd rfl (hne _)) | simp [execOp, hop, Instr.makeInterface, hr]
      · cases h
    · cases h
  | makeFunc fn fs cs =>
    rw [hop] at h
    cases fn with
    | func f =>
      simp only [xq] at h
      split at h
      · rename_i A B hA hB
        simp only [Option.some.injEq, Prod.mk.injEq] at h
        obtain ⟨rfl, rfl⟩ := h
        have h1 := evs_den ag hA
        have h2 := evs_den ag hB
        refine ⟨.func (.func f) (fs.map a.eval) (cs.map a.eval), ?_, by simp [execOp, hop, Instr.makeFunc]⟩
        simp only [den, h1, h2, Option.bind_some, Option.map_some]
        congr 2 <;> (apply Array.ext'; simp)
      · cases h
    | _ => simp [xq] at h
  | fieldAddr st x f =>
    rw [hop] at h; simp only [xq] at h
    split at h
    · rename_i u hx
      replace h := (addO_some h).1
      obtain ⟨V, h1, h2⟩ := xfa_run h (ev_den ag hx) W
      exact ⟨V, h1, by simp [execOp, hop, h2]⟩
    · cases h
  | field st x f =>
    rw [hop] at h; simp only [xq] at h
    split at h
    · rename_i u hx
      replace h := (addO_some h).1
      obtain ⟨V, h1, h2⟩ := xfield_run h (ev_den ag hx) W
      exact ⟨V, h1, by simp [execOp, hop, h2]⟩
    · cases h
  | indexAddr ty x i =>
    rw [hop] at h; simp only [xq] at h
    split at h
    · rename_i u w hx hy
      have key : ∀ (r : Option (SV × List Prop)), r = some (v, obs) → (r = xia0 P ty u w ∨ r = xia2 P hp ty u w) → ∃ V, den ρ v = some V ∧ (execOp a.eval o).run P W = .ok (.value V) W := by
        rintro r hr (h0 | h0)
        · rw [h0] at hr
          obtain ⟨V, h1, h2⟩ := xia0_run hr (ev_den ag hx) (ev_den ag hy) W
          exact ⟨V, h1, by simp [execOp, hop, h2]⟩
        · rw [h0] at hr
          obtain ⟨V, h1, h2⟩ := xia2_run hr ho s (ev_den ag hx) (ev_den ag hy)
          exact ⟨V, h1, by simp [execOp, hop, h2]⟩
      have hys : den ρ (soft w) = some (a.eval i) := by rw [den_soft]; exact ev_den ag hy
      have key2 : ∀ (r : Option (SV × List Prop)), r = some (v, obs) → (r = xia0 P ty u (soft w) ∨ r = xia2 P hp ty u (soft w)) → ∃ V, den ρ v = some V ∧ (execOp a.eval o).run P W = .ok (.value V) W := by
        rintro r hr (h0 | h0)
        · rw [h0] at hr
          obtain ⟨V, h1, h2⟩ := xia0_run hr (ev_den ag hx) hys W
          exact ⟨V, h1, by simp [execOp, hop, h2]⟩
        · rw [h0] at hr
          obtain ⟨V, h1, h2⟩ := xia2_run hr ho s (ev_den ag hx) hys
          exact ⟨V, h1, by simp [execOp, hop, h2]⟩
      split at h
      · split at h
        · rename_i r hr
          exact key2 _ h (.inl hr.symm)
        · exact key2 _ h (.inr rfl)
      · exact key _ h (.inr rfl)
    · cases h
  | index ty x i =>
    rw [hop] at h; simp only [xq] at h
    split at h
    · rename_i u w hx hy
      split at h
      · simp only [Option.some.injEq, Prod.mk.injEq] at h
        obtain ⟨rfl, rfl⟩ := h
        obtain ⟨v', o', k1, k2, k3⟩ := ho.1
        have k4 : ∀ l : List Prop, (∀ p ∈ l, p) → All l := by
          intro l
          induction l with
          | nil => intro _; trivial
          | cons p l ih => intro hl; exact ⟨hl p (by simp), ih (fun q hq => hl q (by simp [hq]))⟩
        obtain ⟨V, h1, h2⟩ := xix_run k1 (k4 _ k3) (ev_den ag hx) (by rw [den_soft]; exact ev_den ag hy) W
        exact ⟨V, by rw [← den_soft, ← k2, den_soft]; exact h1, by simp [execOp, hop, h2]⟩
      · obtain ⟨v', h, hvv⟩ := hardO_some h
        rw [hvv]
        obtain ⟨V, h1, h2⟩ := xix_run h ho (ev_den ag hx) (by rw [den_soft]; exact ev_den ag hy) W
        exact ⟨V, h1, by simp [execOp, hop, h2]⟩
    · cases h
  | extract x i =>
    rw [hop] at h; simp only [xq] at h
    split at h
    · rename_i l hx
      obtain ⟨A, h1, hV⟩ := den_tup (ev_den ag hx)
      replace h := (addO_some h).1
      obtain ⟨V, h2, h3⟩ := denl_get h1 i v h
      exact ⟨V, h2, by simp [execOp, hop, hV, Instr.extract, h3]⟩
    · cases h
  | call c =>
    rw [hop] at h
    obtain ⟨callee, args, argTypes⟩ := c
    cases callee with
    | builtin b =>
      cases b with
      | len =>
        simp only [xq] at h
        split at h
        · rename_i ty x hty hx0
          split at h
          · rename_i u hx
            obtain ⟨v', h, hvv⟩ := hardO_some h
            rw [hvv]
            obtain ⟨V, h1, h2⟩ := xlen2_run (ats := argTypes) (as := args.map a.eval) (ty := o.type) h ho s (ev_den ag hx) hty (by simp [hx0])
            exact ⟨V, h1, by simp [execOp, hop, resolve, invoke, builtin, h2]⟩
          · cases h
        · cases h
      | min =>
        simp only [xq] at h
        split at h
        · rename_i x y hxy
          split at h
          · rename_i u w hx hy
            obtain ⟨v', h, hvv⟩ := hardO_some h
            rw [hvv]
            replace h := (addO_some h).1
            obtain ⟨V, h1, h2, _⟩ := xmin_run (P := P) h (by rw [den_soft]; exact ev_den ag hx) (by rw [den_soft]; exact ev_den ag hy) argTypes o.type W
            have hargs : args = #[x, y] := by apply Array.ext'; simpa using hxy
            have h2' := h2 rfl
            exact ⟨V, h1, by simp [execOp, hop, resolve, invoke, builtin, hargs, h2']⟩
          · cases h
        · cases h
      | max =>
        simp only [xq] at h
        split at h
        · rename_i x y hxy
          split at h
          · rename_i u w hx hy
            obtain ⟨v', h, hvv⟩ := hardO_some h
            rw [hvv]
            replace h := (addO_some h).1
            obtain ⟨V, h1, _, h2⟩ := xmin_run (P := P) h (by rw [den_soft]; exact ev_den ag hx) (by rw [den_soft]; exact ev_den ag hy) argTypes o.type W
            have hargs : args = #[x, y] := by apply Array.ext'; simpa using hxy
            have h2' := h2 rfl
            exact ⟨V, h1, by simp [execOp, hop, resolve, invoke, builtin, hargs, h2']⟩
          · cases h
        · cases h
      | _ => simp [xq] at h
    | _ => simp [xq] at h
  | _ => rw [hop] at h; simp [xq] at h
end Go.Sx
