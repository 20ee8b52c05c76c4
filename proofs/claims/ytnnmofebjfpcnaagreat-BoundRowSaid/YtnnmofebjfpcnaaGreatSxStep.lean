/- Part of an executor of given code on symbolic values, with its proof of soundness: what is proved stands in each theorem. -/
import Derived.Test.YtnnmofebjfpcnaaGreatSxMap
set_option linter.unusedVariables false
set_option linter.unusedSimpArgs false

namespace Go.Sx
open Go.RowKit

/-- A call, by what it answers and what it does to the named blocks. -/
def Con (P : Program) (f : FuncId) (args : List SV) (rd : List (Nat × Ent)) (v : SV) (w : List (Nat × Ent)) : Prop :=
  ∀ (W0 : World) (S : Nat → Prop) (ρ : Env) (h : Heap) (W : World) (As : List Value), Sat W0 S ρ h W → (∀ j e, (j, e) ∈ rd → get h j = some e) →
    (∀ j, j ∈ w.map (·.1) → j ∈ rd.map (·.1) ∨ get h j = none) → denl ρ args = some As →
    Calls P f As.toArray W (fun e W' => ∃ ρ' V, Env.le ρ ρ' ∧ den ρ' v = some V ∧ e = .returned V ∧ Sat W0 S ρ' (puts h w) W')

theorem Con.args {P : Program} {f : FuncId} {as as' : List SV} {rd : List (Nat × Ent)} {v : SV} {w : List (Nat × Ent)} (h : Con P f as rd v w) (he : ∀ ρ, denl ρ as' = denl ρ as) : Con P f as' rd v w :=
  fun W0 S ρ hp W As h1 h2 h3 h4 => h W0 S ρ hp W As h1 h2 h3 (by rw [← he]; exact h4)
theorem Con.ans {P : Program} {f : FuncId} {as : List SV} {rd : List (Nat × Ent)} {v v' : SV} {w : List (Nat × Ent)} (h : Con P f as rd v w) (he : ∀ ρ, den ρ v = den ρ v') : Con P f as rd v' w :=
  fun W0 S ρ hp W As h1 h2 h3 h4 => (h W0 S ρ hp W As h1 h2 h3 h4).mono (fun e W' ⟨ρ', V, k1, k2, k3⟩ => ⟨ρ', V, k1, by rw [← he]; exact k2, k3⟩)
theorem Con.soft {P : Program} {f : FuncId} {as as' : List SV} {rd : List (Nat × Ent)} {v v' : SV} {w : List (Nat × Ent)} (h : Con P f as rd v w) (ha : softL as = softL as') (hv : soft v = soft v') : Con P f as' rd v' w :=
  (h.args (fun ρ => by rw [← denl_soft ρ as', ← ha, denl_soft])).ans (fun ρ => by rw [← den_soft ρ v, hv, den_soft])

/-- What a call of the executor's says. -/
def FnOK (P : Program) (f : FuncId) (as : List SV) (h : Heap) (v : SV) (h' : Heap) : Prop :=
  ∀ (W0 : World) (S : Nat → Prop) (ρ : Env) (W : World) (As : List Value), denl ρ as = some As → Sat W0 S ρ h W →
    Calls P f As.toArray W (fun e W' => ∃ ρ' V, Env.le ρ ρ' ∧ den ρ' v = some V ∧ e = .returned V ∧ Sat W0 S ρ' h' W')

/-- Which function is called, with which arguments. -/
def callee (D : Dat) (t : Tmps) (c : Call) : Option (FuncId × List SV) :=
  match c.callee with
  | .value x => (match ev t x, evs t c.args.toList with
    | some (.fn f fs cs), some as => some (f, (fs ++ as) ++ cs)
    | _, _ => none)
  | .invoke x name => (match ev t x, evs t c.args.toList with
    | some (.iface ty v), some as => (match D.meth ty name with | some f => some (f, v :: as) | none => none)
    | _, _ => none)
  | .builtin _ => none

def gets (h : Heap) : List (Nat × Ent) → List Prop
  | [] => []
  | (j, e) :: l => (get h j = some e) :: gets h l
theorem gets_mem {h : Heap} : ∀ {l : List (Nat × Ent)}, All (gets h l) → ∀ j e, (j, e) ∈ l → get h j = some e
  | [], _, j, e, hm => by cases hm
  | (k, x) :: l, ho, j, e, hm => by
    simp only [gets, All] at ho
    rcases List.mem_cons.1 hm with hm | hm
    · injection hm with h1 h2; subst h1; subst h2; exact ho.1
    · exact gets_mem ho.2 j e hm
def mem (j : Nat) : List Nat → Bool
  | [] => false
  | k :: l => Nat.beq k j || mem j l
theorem mem_iff {j : Nat} : ∀ {l : List Nat}, mem j l = true ↔ j ∈ l
  | [] => by simp [mem]
  | k :: l => by
    simp only [mem, Bool.or_eq_true, List.mem_cons, mem_iff (l := l)]
    constructor
    · rintro (h | h)
      · exact .inl (Nat.eq_of_beq_eq_true h).symm
      · exact .inr h
    · rintro (h | h)
      · subst h; exact .inl (by simp)
      · exact .inr h
def freshOk (h : Heap) (rd : List Nat) : List Nat → Bool
  | [] => true
  | j :: l => (mem j rd || isNone (get h j)) && freshOk h rd l
theorem freshOk_iff {h : Heap} {rd : List Nat} : ∀ {l : List Nat}, freshOk h rd l = true → ∀ j, j ∈ l → j ∈ rd ∨ get h j = none
  | [], _, j, hm => by cases hm
  | k :: l, ho, j, hm => by
    simp only [freshOk, Bool.and_eq_true, Bool.or_eq_true] at ho
    rcases List.mem_cons.1 hm with rfl | hm
    · rcases ho.1 with h | h
      · exact .inl (mem_iff.1 h)
      · exact .inr (isNone_iff h)
    · exact freshOk_iff ho.2 j hm

/-- Any operation, but a callee entered. -/
def xop (P : Program) (D : Dat) (h : Heap) (t : Tmps) (m : Nat) (d : Option Dir) (op : Op) : Option Out :=
  match op with
  | .call c => (match c.callee with
    | .builtin .append => (match c.args.toList, c.argTypes.toList with
      | [x, y], [tx, ty] => (match ev t x, ev t y with | some a, some b => xapp P h m d tx ty a b | _, _ => none)
      | _, _ => none)
    | .builtin .copy => (match c.args.toList, c.argTypes.toList with
      | [x, y], [tx, ty] => (match ev t x, ev t y with | some a, some b => xcopy P h d tx ty a b | _, _ => none)
      | _, _ => none)
    | .builtin _ => (match xs P D h t d (.call c) with | some (v, o) => some ⟨v, [], o⟩ | none => none)
    | _ => (match d with
      | some (.con v rd wr) => (match callee D t c with
        | some (f, as) => (match P.funcs[f]? with
          | some fn => if fn.body.isSome && freshOk h (rd.map (·.1)) (wr.map (·.1)) then some ⟨v, wr, Con P f (softL as) rd v wr :: gets h rd⟩ else none
          | none => none)
        | none => none)
      | _ => (match xs P D h t d (.call c) with | some (v, o) => some ⟨v, [], o⟩ | none => none)))
  | .alloc e => xe P h t m d (.alloc e)
  | .box e x => xe P h t m d (.box e x)
  | .buildSlice a b c => xe P h t m d (.buildSlice a b c)
  | .makeSlice a b c => xe P h t m d (.makeSlice a b c)
  | .store a b c => xe P h t m d (.store a b c)
  | .makeMap a b => xmap P h t m d (.makeMap a b)
  | .insert a b c e => xmap P h t m d (.insert a b c e)
  | .mapUpdate a b c e => xmap P h t m d (.mapUpdate a b c e)
  | .lookup a b c e => xmap P h t m d (.lookup a b c e)
  | op => (match xs P D h t d op with | some (v, o) => some ⟨v, [], o⟩ | none => none)

/-- .. and the value in other words. -/
def xopd (P : Program) (D : Dat) (h : Heap) (t : Tmps) (m : Nat) (d : Option Dir) (op : Op) : Option Out :=
  match xop P D h t m d op with
  | some out => (match d with
    | some (.eqv u) => some ⟨u, out.w, (soft out.v = soft u) :: out.o⟩
    | _ => some out)
  | none => none

def setD (t : Tmps) (d : Option Tmp) (v : SV) : Tmps := match d with | some i => tset t i (some v) | none => t

theorem Agree.setD {ρ : Env} {t : Tmps} {a : Act} (ag : Agree ρ t a.tmps) (d : Option Tmp) {v : SV} {V : Value} (h : den ρ v = some V) : Agree ρ (setD t d v) (a.put d V).tmps := by
  cases d with
  | some i => exact ag.put i h
  | none => exact ag

section
variable {P : Program} {D : Dat}

theorem callFunc_run (hL : LOK P D) {f : FuncId} {fn : Func} (hf : P.funcs[f]? = some fn) (hb : fn.body.isSome = true) (As : Array Value) (W : World) :
    (callFunc f As).run P W = .ok (.enter f As) W := by
  have hn := hL.name f fn hf
  have hn' : fn.name ≠ "runtime.NumGoroutine" := by simpa using hn
  have hb2 : fn.body ≠ none := by cases h : fn.body <;> simp_all
  simp [callFunc, hf, hn', hb2]

theorem callee_run (hL : LOK P D) {o : Oper} {c : Call} (hop : o.op = .call c) {t : Tmps} {f : FuncId} {as : List SV} (h : callee D t c = some (f, as)) {ρ : Env} {a : Act} (ag : Agree ρ t a.tmps)
    {fn : Func} (hf : P.funcs[f]? = some fn) (hb : fn.body.isSome = true) (W : World) :
    ∃ As, denl ρ as = some As ∧ (execOp a.eval o).run P W = .ok (.enter f As.toArray) W := by
  obtain ⟨cl, args, ats⟩ := c
  unfold callee at h
  cases cl with
  | value x =>
    simp only at h
    split at h
    · rename_i f' fs cs as' hx has
      simp only [Option.some.injEq, Prod.mk.injEq] at h
      obtain ⟨rfl, rfl⟩ := h
      obtain ⟨A, B, h1, h2, hX⟩ := den_fn (ev_den ag hx)
      have h3 := evs_den ag has
      refine ⟨_, denl_append (denl_append h1 h3) h2, ?_⟩
      have hcf := callFunc_run hL hf hb (A.toArray ++ (args.map a.eval) ++ B.toArray) W
      have e1 : ((A ++ List.map a.eval args.toList) ++ B).toArray = A.toArray ++ (args.map a.eval) ++ B.toArray := by
        apply Array.ext'; simp
      rw [e1]
      simp only [execOp, hop, resolve, hX, Deferred.ofValue, Sem.run_bind, Sem.run_pure, Result.andThen_ok, invoke, hcf]
    · cases h
  | invoke x name =>
    simp only at h
    split at h
    · rename_i ty v as' hx has
      split at h
      · rename_i f' hm
        simp only [Option.some.injEq, Prod.mk.injEq] at h
        obtain ⟨rfl, rfl⟩ := h
        obtain ⟨A, h1, hX⟩ := den_iface (ev_den ag hx)
        have h3 := evs_den ag has
        refine ⟨_, denl_cons.2 ⟨_, _, h1, h3, rfl⟩, ?_⟩
        have hmr := hL.meth ty name f' hm A W
        have hcf := callFunc_run hL hf hb (#[A] ++ (args.map a.eval)) W
        have e1 : (A :: List.map a.eval args.toList).toArray = #[A] ++ (args.map a.eval) := by
          apply Array.ext'; simp
        rw [e1]
        have e2 : (#[Value.iface ty A] ++ args.map a.eval).extract 1 (#[Value.iface ty A] ++ args.map a.eval).size = args.map a.eval := by
          apply Array.ext'; simp; rw [List.take_of_length_le (by simp)]
        have e3 : (#[Value.iface ty A] ++ args.map a.eval)[0]? = some (Value.iface ty A) := by
          rw [Array.getElem?_append_left (by simp)]; rfl
        simp only [execOp, hop, resolve, hX, Sem.run_bind, Sem.run_pure, Result.andThen_ok, invoke, e3, e2, callMethod, run_program, hmr, hcf]
      · cases h
    · cases h
  | builtin b => cases h

/-- One operation, in the walk's terms. -/
theorem xopd_wp (hL : LOK P D) {o : Oper} {hp : Heap} {t : Tmps} {m : Nat} {d : Option Dir} {out : Out} (h : xopd P D hp t m d o.op = some out) (ho : All out.o)
    {ρ : Env} {a : Act} (ag : Agree ρ t a.tmps) {W0 : World} {S : Nat → Prop} {W : World} (s : Sat W0 S ρ hp W) {K : Act → World → Prop} {Q : Exit → Act → World → Prop}
    (hK : ∀ ρ' a' W', Env.le ρ ρ' → Agree ρ' (setD t o.dst out.v) a'.tmps → a'.defers = a.defers → Sat W0 S ρ' (puts hp out.w) W' → K a' W') : o.wp P a W K Q := by
  have put_defers : ∀ V, (a.put o.dst V).defers = a.defers := fun V => by unfold Act.put; split <;> rfl
  have core : ∀ out0, xop P D hp t m d o.op = some out0 → All out0.o → (∀ ρ, den ρ out0.v = den ρ out.v) → out0.w = out.w → o.wp P a W K Q := by
    intro out0 h0 ho0 hv hw
    have fromEff : Eff P W0 S ρ hp W out0 ((execOp a.eval o).run P W) → o.wp P a W K Q := by
      rintro ⟨ρ', W', V, N, hle, hd, hr, hN, hs⟩
      unfold Oper.wp
      rw [hr]
      rw [hv] at hd; rw [hw] at hs
      rcases hN with rfl | ⟨rfl, rfl⟩
      · exact hK ρ' _ W' hle ((ag.le hle).setD _ hd) (put_defers _) hs
      · exact hK ρ' _ W' hle ((ag.le hle).setD _ hd) (put_defers _) hs
    have fromSilent : ∀ v o', xs P D hp t d o.op = some (v, o') → out0 = ⟨v, [], o'⟩ → o.wp P a W K Q := by
      rintro v o' hx rfl
      obtain ⟨V, h1, h2⟩ := xs_sound hL o hx ho0 ag s
      exact fromEff ⟨ρ, W, V, _, Env.le.refl _, h1, h2, .inl rfl, s⟩
    cases hop : o.op with
    | call c =>
      rw [hop] at h0
      simp only [xop] at h0
      split at h0
      · rename_i hcl
        split at h0
        · rename_i x y tx ty hargs hats
          split at h0
          · rename_i u w hu hw'
            obtain ⟨ρ', W', V, h1, h2, h3, h4⟩ := xapp_sound (ty := o.type) h0 ho0 s (ev_den ag hu) (ev_den ag hw')
            refine fromEff ⟨ρ', W', V, .value V, h1, h2, ?_, .inl rfl, h4⟩
            obtain ⟨cl, args, ats⟩ := c
            simp only at hcl hargs hats
            subst hcl
            have e1 : args = #[x, y] := by apply Array.ext'; simpa using hargs
            have e2 : ats = #[tx, ty] := by apply Array.ext'; simpa using hats
            subst e1; subst e2
            simp [execOp, hop, resolve, invoke, builtin, h3]
          · cases h0
        · cases h0
      · rename_i hcl
        split at h0
        · rename_i x y tx ty hargs hats
          split at h0
          · rename_i u w hu hw'
            obtain ⟨W', V, h2, h3, h4⟩ := xcopy_sound (ty := o.type) h0 ho0 s (ev_den ag hu) (ev_den ag hw')
            refine fromEff ⟨ρ, W', V, .value V, Env.le.refl _, h2, ?_, .inl rfl, h4⟩
            obtain ⟨cl, args, ats⟩ := c
            simp only at hcl hargs hats
            subst hcl
            have e1 : args = #[x, y] := by apply Array.ext'; simpa using hargs
            have e2 : ats = #[tx, ty] := by apply Array.ext'; simpa using hats
            subst e1; subst e2
            simp [execOp, hop, resolve, invoke, builtin, h3]
          · cases h0
        · cases h0
      · rename_i b hne hne2 hcl
        split at h0
        · rename_i v o' hx
          simp only [Option.some.injEq] at h0
          rw [← hop] at hx
          exact fromSilent v o' hx h0.symm
        · cases h0
      · rename_i hnb
        split at h0
        · rename_i v rd wr
          split at h0
          · rename_i f as hc
            split at h0
            · rename_i fn hfn
              split at h0
              · rename_i hcc
                simp only [Bool.and_eq_true] at hcc
                simp only [Option.some.injEq] at h0; subst h0
                simp only [All] at ho0
                obtain ⟨hcon, hgets⟩ := ho0
                obtain ⟨As, h1, h2⟩ := callee_run hL hop hc ag hfn hcc.1 W
                unfold Oper.wp
                rw [h2]
                refine (hcon W0 S ρ hp W As s (gets_mem hgets) (freshOk_iff hcc.2) (by rw [denl_soft]; exact h1)).mono ?_
                rintro e W' ⟨ρ', V, hle, hd, rfl, hs⟩
                simp only at hv hw
                rw [hv] at hd; rw [hw] at hs
                exact hK ρ' _ W' hle ((ag.le hle).setD _ hd) (put_defers _) hs
              · cases h0
            · cases h0
          · cases h0
        · split at h0
          · rename_i v o' hx
            simp only [Option.some.injEq] at h0
            rw [← hop] at hx
            exact fromSilent v o' hx h0.symm
          · cases h0
    | alloc e => rw [hop] at h0; simp only [xop] at h0; rw [← hop] at h0; exact fromEff (xe_sound o h0 ho0 ag s)
    | box e x => rw [hop] at h0; simp only [xop] at h0; rw [← hop] at h0; exact fromEff (xe_sound o h0 ho0 ag s)
    | buildSlice e x y => rw [hop] at h0; simp only [xop] at h0; rw [← hop] at h0; exact fromEff (xe_sound o h0 ho0 ag s)
    | makeSlice e x y => rw [hop] at h0; simp only [xop] at h0; rw [← hop] at h0; exact fromEff (xe_sound o h0 ho0 ag s)
    | store e x y => rw [hop] at h0; simp only [xop] at h0; rw [← hop] at h0; exact fromEff (xe_sound o h0 ho0 ag s)
    | makeMap e x => rw [hop] at h0; simp only [xop] at h0; rw [← hop] at h0; exact fromEff (xmap_sound o h0 ho0 ag s)
    | insert e x y z => rw [hop] at h0; simp only [xop] at h0; rw [← hop] at h0; exact fromEff (xmap_sound o h0 ho0 ag s)
    | mapUpdate e x y z => rw [hop] at h0; simp only [xop] at h0; rw [← hop] at h0; exact fromEff (xmap_sound o h0 ho0 ag s)
    | lookup e x y z => rw [hop] at h0; simp only [xop] at h0; rw [← hop] at h0; exact fromEff (xmap_sound o h0 ho0 ag s)
    | _ =>
      rw [hop] at h0; simp only [xop] at h0
      split at h0
      · rename_i v o' hx
        simp only [Option.some.injEq] at h0
        rw [← hop] at hx
        exact fromSilent v o' hx h0.symm
      · cases h0
  unfold xopd at h
  split at h
  · rename_i out0 h0
    split at h
    · rename_i u
      simp only [Option.some.injEq] at h; subst h
      simp only [All] at ho
      exact core out0 h0 ho.2 (fun ρ => by rw [← den_soft, ho.1, den_soft]) rfl
    · simp only [Option.some.injEq] at h; subst h
      exact core out0 h0 ho (fun _ => rfl) rfl
  · cases h
end
end Go.Sx
