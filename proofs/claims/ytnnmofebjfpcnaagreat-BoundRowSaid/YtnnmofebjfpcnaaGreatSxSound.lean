/- Part of an executor of given code on symbolic values, with its proof of soundness: what is proved stands in each theorem. -/
import Derived.Test.YtnnmofebjfpcnaaGreatSxRun
set_option linter.unusedVariables false
set_option linter.unusedSimpArgs false

namespace Go.Sx
open Go.RowKit

section
variable {P : Program} {D : Dat} {r : Rec}

def resF (tm : Array Value) : ResultVar → Sem Value
  | .tmp t => pure (tm.getD t undef)
  | .cell x ty => do loadVar ty (← asAddr (tm.getD x undef))
theorem resF_cell {tm : Array Value} {x : Tmp} {ty : TypeId} {ad : Addr} (h : tm.getD x undef = .pointer (some ad)) : resF tm (.cell x ty) = loadVar ty ad := by
  simp only [resF, h]; rfl
theorem results_eq (fn : Func) (tm : Array Value) : results fn tm = (do let vs ← fn.results.mapM (resF tm); pure (if h : vs.size = 1 then vs[0] else .tuple vs)) := by
  unfold results
  congr 1

theorem xres_run {t : Tmps} {h : Heap} {ρ : Env} {a : Act} (ag : Agree ρ t a.tmps) {W0 : World} {S : Nat → Prop} {W : World} (s : Sat W0 S ρ h W) : ∀ {rs : List ResultVar} {l : List SV}, xres P t h rs = some l →
    ∃ L, denl ρ l = some L ∧ (rs.mapM (m := Sem) (resF a.tmps)).run P W = .ok L W
  | [], l, h => by simp [xres] at h; subst h; exact ⟨[], rfl, by simp⟩
  | .tmp i :: rs, l, hh => by
    simp only [xres] at hh
    split at hh
    · rename_i v m hv hm
      simp only [Option.some.injEq] at hh; subst hh
      obtain ⟨M, h1, h2⟩ := xres_run ag s hm
      refine ⟨_, denl_cons.2 ⟨_, _, ag.val i v hv, h1, rfl⟩, ?_⟩
      rw [List.mapM_cons]
      simp only [resF, Sem.run_bind, Sem.run_pure, Result.andThen_ok, h2]
    · cases hh
  | .cell i ty :: rs, l, hh => by
    simp only [xres] at hh
    split at hh
    · rename_i j off hp
      obtain ⟨lc, ad, k1, k2, k3⟩ := den_ptr (ag.val i _ hp)
      split at hh
      · rename_i e he
        split at hh
        · rename_i cs hcs
          split at hh
          · rename_i v m hv hm
            simp only [Option.some.injEq] at hh; subst hh
            obtain ⟨M, h1, h2⟩ := xres_run ag s hm
            obtain ⟨l', hl', ok⟩ := s.ent j e he
            rw [k1] at hl'; injection hl' with hl'; subst hl'
            obtain ⟨Vs, hd, _, _, hr⟩ := Ent.reads ok hcs
            obtain ⟨V, h3, h4⟩ := xcut_run hv hd (hr ad k2)
            refine ⟨_, denl_cons.2 ⟨_, _, h3, h1, rfl⟩, ?_⟩
            rw [List.mapM_cons]
            rw [resF_cell k3]
            simp only [Sem.run_bind, Sem.run_pure, Result.andThen_ok, h4, h2]
          · cases hh
        · cases hh
      · cases hh
    · cases hh

theorem results_xres {fn : Func} {h : Heap} {t : Tmps} {ρ : Env} {a : Act} (ag : Agree ρ t a.tmps) {W0 : World} {S : Nat → Prop} {W : World} (s : Sat W0 S ρ h W) {l : List SV} (hx : xres P t h fn.results.toList = some l) :
    ∃ V, den ρ (one1 l) = some V ∧ (results fn a.tmps).run P W = .ok V W := by
  obtain ⟨L, h1, h2⟩ := xres_run (P := P) ag s hx
  have h3 : (fn.results.mapM (m := Sem) (resF a.tmps)).run P W = .ok L.toArray W := by
    rw [Array.mapM_eq_mapM_toList]
    simp only [map_eq_pure_bind, Sem.run_bind, h2, Result.andThen_ok, Sem.run_pure]
  refine ⟨if h : L.toArray.size = 1 then L.toArray[0] else .tuple L.toArray, ?_, ?_⟩
  · cases l with
    | nil => rw [denl_nil.1 h1]; rfl
    | cons v l =>
      cases l with
      | nil =>
        obtain ⟨V, M, hv, hm, rfl⟩ := denl_cons.1 h1
        rw [denl_nil.1 hm]; simpa [one1] using hv
      | cons u l =>
        obtain ⟨V, M, hv, hm, rfl⟩ := denl_cons.1 h1
        obtain ⟨U, N, hu, hn, rfl⟩ := denl_cons.1 hm
        simp only [one1, den, h1]
        simp
  · rw [results_eq]
    simp only [Sem.run_bind, h3, Result.andThen_ok, Sem.run_pure]

theorem keysLt_spec {n : Nat} : ∀ {h : Heap}, keysLt n h = true → ∀ j, n ≤ j → get h j = none
  | [], _, j, _ => rfl
  | (k, e) :: h, hk, j, hj => by
    simp only [keysLt, Bool.and_eq_true, Nat.blt_eq] at hk
    have : Nat.beq k j = false := beq_ne (by omega)
    simp only [get, this, cond_false]
    exact keysLt_spec hk.2 j hj

theorem leB_le {n : Nat} {ρ ρ' : Env} {h : Heap} (hk : keysLt n h = true) (hkey : ∀ j, get h j = none → ρ j = none) (hl : leB n ρ ρ') : Env.le ρ ρ' := by
  intro j l e
  by_cases hj : j < n
  · exact hl j l hj e
  · have := hkey j (keysLt_spec hk j (by omega))
    rw [this] at e; cases e

theorem keysGe_spec {n : Nat} : ∀ {h : Heap}, keysGe n h = true → ∀ j e, get h j = some e → n ≤ j
  | [], _, j, e, he => by simp [get] at he
  | (k, x) :: h, hk, j, e, he => by
    simp only [keysGe, Bool.and_eq_true, Nat.ble_eq] at hk
    simp only [get] at he
    cases hb : Nat.beq k j with
    | true => have := Nat.eq_of_beq_eq_true hb; omega
    | false => rw [hb] at he; exact keysGe_spec hk.2 j e he
theorem noRo_spec : ∀ {h : Heap}, noRo h = true → ∀ j e, get h j = some e → e.live = true → e.mine = true
  | [], _, j, e, he => by simp [get] at he
  | (k, x) :: h, hk, j, e, he => by
    simp only [get] at he
    cases hb : Nat.beq k j with
    | true =>
      rw [hb] at he; simp only [cond_true, Option.some.injEq] at he; subst he
      cases x <;> simp [noRo, Ent.live, Ent.mine] at hk ⊢
    | false =>
      rw [hb] at he
      refine noRo_spec ?_ j e he
      cases x <;> simp [noRo] at hk <;> exact hk
theorem get_app : ∀ (a b : Heap) (j : Nat), get (a ++ b) j = (match get a j with | some e => some e | none => get b j)
  | [], b, j => rfl
  | (k, x) :: a, b, j => by
    simp only [List.cons_append, get]
    cases hb : Nat.beq k j with
    | true => rfl
    | false => exact get_app a b j

theorem fn_pure {f : FuncId} {as : List SV} {v : SV} {h h' : Heap} (hn : nmInL [] as = true) (hv : nmIn [] v = true) (hf : FnOK P f as [] v h') : FnOK P f as h v h := by
  intro W0 S ρ W As hA hsat
  have h0 : Sat W (fun _ => False) (fun _ => none) [] W := ⟨⟨rfl, rfl, rfl, Nat.le_refl _, fun _ _ _ => rfl⟩, fun _ _ => rfl, fun j e he => by simp [get] at he, fun i j ei ej li lj b _ hi => by simp [get] at hi, fun j e l b hj => by simp [get] at hj⟩
  have hA0 : denl (fun _ => none) as = some As := nmInL_den (K := []) (fun j x hj => by cases hj) as As hn hA
  refine (hf W _ _ W As hA0 h0).mono ?_
  rintro e W' ⟨ρ', V, _, hd, rfl, hs⟩
  refine ⟨ρ, V, Env.le.refl _, ?_, rfl, hsat.below ⟨hs.fr.os, hs.fr.tape, hs.fr.output, hs.fr.size, fun k hk => hs.fr.block k hk (fun h => h)⟩⟩
  have h1 : nmInL [] [v] = true := by simp [nmInL, hv]
  have := nmInL_den (K := []) (ρa := ρ') (ρb := ρ) (fun j x hj => by cases hj) [v] [V] h1 (denl_cons.2 ⟨V, [], hd, rfl, rfl⟩)
  obtain ⟨V', M, h2, _, h3⟩ := denl_cons.1 this
  injection h3 with h3 _; rw [h3]; exact h2

theorem fn_frame {f : FuncId} {as : List SV} {v : SV} {h h' : Heap} {n : Nat} (hn : nmInL [] as = true) (hk : keysLt n h = true) (hg : keysGe n h' = true) (hr : noRo h' = true) (hf : FnOK P f as [] v h') : FnOK P f as h v (h' ++ h) := by
  intro W0 S ρ W As hA hsat
  have h0 : Sat W (fun _ => False) (fun _ => none) [] W := ⟨⟨rfl, rfl, rfl, Nat.le_refl _, fun _ _ _ => rfl⟩, fun _ _ => rfl, fun j e he => by simp [get] at he, fun i j ei ej li lj b _ hi => by simp [get] at hi, fun j e l b hj => by simp [get] at hj⟩
  have hA0 : denl (fun _ => none) as = some As := nmInL_den (K := []) (fun j x hj => by cases hj) as As hn hA
  refine (hf W _ _ W As hA0 h0).mono ?_
  rintro e W' ⟨ρ', V, _, hd, rfl, hs⟩
  let ρ2 : Env := fun j => match ρ j with | some l => some l | none => ρ' j
  have hnone : ∀ j, (∃ e, get h' j = some e) → get h j = none := fun j ⟨e, he⟩ => keysLt_spec hk j (keysGe_spec hg j e he)
  have l1 : Env.le ρ ρ2 := fun j l hl => by simp only [ρ2, hl]
  have l2 : Env.le ρ' ρ2 := by
    intro j l hl
    have : ∃ e, get h' j = some e := by
      cases hh : get h' j with
      | none => rw [hs.key j hh] at hl; cases hl
      | some e => exact ⟨e, rfl⟩
    have h1 := hsat.key j (hnone j this)
    simp only [ρ2, h1]; exact hl
  have hb := hsat.below (W' := W') ⟨hs.fr.os, hs.fr.tape, hs.fr.output, hs.fr.size, fun k hk => hs.fr.block k hk (fun h => h)⟩
  have old : ∀ j e, get h j = some e → ∃ l, ρ j = some l ∧ ρ2 j = some l ∧ e.ok ρ W l := fun j e he => by
    obtain ⟨l, hl, ok⟩ := hsat.ent j e he
    exact ⟨l, hl, l1 j l hl, ok⟩
  have new : ∀ j e, get h' j = some e → ∃ l, ρ' j = some l ∧ ρ2 j = some l ∧ e.ok ρ' W' l := fun j e he => by
    obtain ⟨l, hl, ok⟩ := hs.ent j e he
    exact ⟨l, hl, l2 j l hl, ok⟩
  have newblk : ∀ j e l b, get h' j = some e → e.live = true → ρ2 j = some l → l.blk = some b → W.heap.size ≤ b := by
    intro j e l b he hl hρ hbl
    obtain ⟨l', h1, h2, _⟩ := new j e he
    rw [hρ] at h2; injection h2 with h2; subst h2
    rcases hs.mine j e l b he (noRo_spec hr j e he hl) h1 hbl with h | h
    · exact absurd h (fun h => h)
    · exact h
  have oldblk : ∀ j e l b, get h j = some e → e.live = true → ρ2 j = some l → l.blk = some b → b < W.heap.size := by
    intro j e l b he hl hρ hbl
    obtain ⟨l', h1, h2, ok⟩ := old j e he
    rw [hρ] at h2; injection h2 with h2; subst h2
    exact Ent.blk_lt ok hl b hbl
  have mineLive : ∀ e : Ent, e.mine = true → e.live = true := by intro e; cases e <;> simp [Ent.mine, Ent.live]
  refine ⟨ρ2, V, l1, den_le l2 _ _ hd, rfl, ⟨hb.fr, ?_, ?_, ?_, ?_⟩⟩
  · intro j hj
    rw [get_app] at hj
    cases hh : get h' j with
    | some e => rw [hh] at hj; cases hj
    | none =>
      rw [hh] at hj
      simp only [ρ2, hsat.key j hj, hs.key j hh]
  · intro j e hj
    rw [get_app] at hj
    cases hh : get h' j with
    | some e' =>
      rw [hh] at hj; simp only [Option.some.injEq] at hj; subst hj
      obtain ⟨l, _, h2, ok⟩ := new j e' hh
      exact ⟨l, h2, Ent.ok_mono l2 (Nat.le_refl _) (fun _ _ => rfl) ok⟩
    | none =>
      rw [hh] at hj
      obtain ⟨l, h1, h2, _⟩ := old j e hj
      obtain ⟨l', h3, ok⟩ := hb.ent j e hj
      rw [h1] at h3; injection h3 with h3; subst h3
      exact ⟨l, h2, Ent.ok_mono l1 (Nat.le_refl _) (fun _ _ => rfl) ok⟩
  · intro i j ei ej li lj b hij hi hj hmi hlj hli hlj2 hbi
    rw [get_app] at hi hj
    have hli' := mineLive _ hmi
    cases hhi : get h' i with
    | some e1 =>
      rw [hhi] at hi; simp only [Option.some.injEq] at hi; subst hi
      have hge := newblk i e1 li b hhi hli' hli hbi
      cases hhj : get h' j with
      | some e2 =>
        rw [hhj] at hj; simp only [Option.some.injEq] at hj; subst hj
        obtain ⟨l3, a1, a2, _⟩ := new i e1 hhi
        obtain ⟨l4, b1, b2, _⟩ := new j e2 hhj
        rw [hli] at a2; injection a2 with a2; subst a2
        rw [hlj2] at b2; injection b2 with b2; subst b2
        exact hs.dist i j e1 e2 li lj b hij hhi hhj hmi hlj a1 b1 hbi
      | none =>
        rw [hhj] at hj
        intro hc
        have := oldblk j ej lj b hj hlj hlj2 hc
        omega
    | none =>
      rw [hhi] at hi
      have hlt := oldblk i ei li b hi hli' hli hbi
      cases hhj : get h' j with
      | some e2 =>
        rw [hhj] at hj; simp only [Option.some.injEq] at hj; subst hj
        intro hc
        have := newblk j e2 lj b hhj hlj hlj2 hc
        omega
      | none =>
        rw [hhj] at hj
        obtain ⟨l3, a1, a2, _⟩ := old i ei hi
        obtain ⟨l4, b1, b2, _⟩ := old j ej hj
        rw [hli] at a2; injection a2 with a2; subst a2
        rw [hlj2] at b2; injection b2 with b2; subst b2
        exact hsat.dist i j ei ej li lj b hij hi hj hmi hlj a1 b1 hbi
  · intro j e l b hj hm hl hbl
    rw [get_app] at hj
    cases hh : get h' j with
    | some e' =>
      rw [hh] at hj; simp only [Option.some.injEq] at hj; subst hj
      have := newblk j e' l b hh (mineLive _ hm) hl hbl
      exact .inr (Nat.le_trans hsat.fr.size this)
    | none =>
      rw [hh] at hj
      obtain ⟨l3, a1, a2, _⟩ := old j e hj
      rw [hl] at a2; injection a2 with a2; subst a2
      exact hsat.mine j e l b hj hm a1 hbl

theorem callL_ok {f : FuncId} {as : List SV} {h : Heap} {nx : Nat} {ds : Ds} {v : SV} {h' : Heap} {nx' : Nat} {ds' : Ds} {o : List Prop} (hc : callL r f as h nx ds = some (v, h', nx', ds', o))
    (hn : ∀ h v h' nx' ds', r.fn f as h nx ds = some (v, h', nx', ds', o) → FnOK P f as h v h') : FnOK P f as h v h' := by
  unfold callL at hc
  split at hc
  · rename_i hna
    split at hc
    · rename_i v1 h1 nx1 ds1 o1 hr
      split at hc
      · rename_i hk
        split at hc
        · rename_i hv
          simp only [Option.some.injEq, Prod.mk.injEq] at hc
          obtain ⟨rfl, rfl, rfl, rfl, rfl⟩ := hc
          exact fn_pure hna hv (hn _ _ _ _ _ hr)
        · split at hc
          · rename_i hgr
            simp only [Bool.and_eq_true] at hgr
            simp only [Option.some.injEq, Prod.mk.injEq] at hc
            obtain ⟨rfl, rfl, rfl, rfl, rfl⟩ := hc
            exact fn_frame hna hk hgr.1 hgr.2 (hn _ _ _ _ _ hr)
          · cases hc
      · cases hc
    · cases hc
  · exact hn _ _ _ _ _ hc

theorem callL_some {f : FuncId} {as : List SV} {h : Heap} {nx : Nat} {ds : Ds} {q : SV × Heap × Nat × Ds × List Prop} (hc : callL r f as h nx ds = some q) : ∃ h0 q0, r.fn f as h0 nx ds = some q0 := by
  unfold callL at hc
  split at hc
  · split at hc
    · rename_i hr; exact ⟨_, _, hr⟩
    · cases hc
  · exact ⟨_, _, hc⟩

theorem agree_none {n : Nat} : ∀ i, tget (noneN n) i = none := by
  induction n with
  | zero => intro i; cases i <;> rfl
  | succ n ih => intro i; cases i with
    | zero => rfl
    | succ i => exact ih i
theorem noneN_length (n : Nat) : (noneN n).length = n := by induction n with
  | zero => rfl
  | succ n ih => simp [noneN, ih]

theorem agree_enter {ρ : Env} {as : List SV} {As : List Value} (h : denl ρ as = some As) (n : Nat) : Agree ρ (as.map some ++ noneN (n - as.length)) (As.toArray ++ Array.replicate (n - As.toArray.size) undef) := by
  have hl := denl_length h
  refine ⟨by simp [noneN_length, hl], ?_⟩
  intro i v hv
  have hget : ∀ (l : List SV) (m : Nat) (i : Nat) (v : SV), tget (l.map some ++ noneN m) i = some v → l[i]? = some v := by
    intro l
    induction l with
    | nil => intro m i v hh; simp only [List.map_nil, List.nil_append] at hh; rw [agree_none] at hh; cases hh
    | cons u l ih =>
      intro m i v hh
      cases i with
      | zero => simpa [tget] using hh
      | succ i => simp only [List.map_cons, List.cons_append, tget] at hh; simpa using ih m i v hh
  have h1 := hget as _ i v hv
  obtain ⟨V, h2, h3⟩ := denl_get h i v h1
  rw [h2]; congr 1
  rw [Array.getD_eq_getD_getElem?, Array.getElem?_append_left (by simp; rcases List.getElem?_eq_some_iff.1 h3 with ⟨h, _⟩; exact h)]
  simp [h3]

theorem items_spec : ∀ (l : List Oper) (i m : Nat) (ds : Ds), ((items l i m ds).1.map fun it => (it.i, it.o)) = (l.zipIdx i).map fun (x : Oper × Nat) => (x.2, x.1)
  | [], i, m, ds => rfl
  | o :: l, i, m, ds => by
    simp only [items, List.map_cons, List.zipIdx_cons, items_spec l (i + 1)]

mutual
theorem ren_id : ∀ v : SV, ren (fun j => j) v = v
  | .int k n => rfl
  | .num k n => rfl
  | .bool b => rfl
  | .str s => rfl
  | .nilp => rfl
  | .nils => rfl
  | .nilI => rfl
  | .nilF => rfl
  | .ptr j off => rfl
  | .sl j off _ _ => rfl
  | .rw j off _ _ => rfl
  | .mapp j => rfl
  | .iface t v => by simp only [ren, ren_id v]
  | .fn f a b => by simp only [ren, renl_id a, renl_id b]
  | .agg l => by simp only [ren, renl_id l]
  | .tup l => by simp only [ren, renl_id l]
theorem renl_id : ∀ l : List SV, renl (fun j => j) l = l
  | [] => rfl
  | v :: l => by simp only [renl, ren_id v, renl_id l]
end
theorem renE_id (e : Ent) : renE (fun j => j) e = e := by cases e <;> simp only [renE, renl_id]
theorem renH_id (h : List (Nat × Ent)) : renH (fun j => j) h = h := by
  unfold renH
  simp only [renE_id]
  induction h with
  | nil => rfl
  | cons x h ih => simp

theorem get_restr {K : List Nat} : ∀ {h : Heap} {j : Nat} {e : Ent}, get (restr K h) j = some e → get h j = some e
  | [], j, e, hh => hh
  | (k, x) :: h, j, e, hh => by
    simp only [restr] at hh
    simp only [get]
    cases hm : mem k K with
    | true =>
      rw [hm] at hh; simp only [cond_true, get] at hh
      cases hb : Nat.beq k j with
      | true => rw [hb] at hh; exact hh
      | false => rw [hb] at hh; simp only [cond_false] at hh ⊢; exact get_restr hh
    | false =>
      rw [hm] at hh; simp only [cond_false] at hh
      cases hb : Nat.beq k j with
      | true =>
        exfalso
        have := Nat.eq_of_beq_eq_true hb
        subst this
        have := get_mem hh
        have hk : ∀ {h : Heap} {j : Nat} {e : Ent}, (j, e) ∈ restr K h → mem j K = true := by
          intro h
          induction h with
          | nil => intro j e hm; cases hm
          | cons y h ih =>
            intro j e hm2
            obtain ⟨a, b⟩ := y
            simp only [restr] at hm2
            cases hma : mem a K with
            | true =>
              rw [hma] at hm2; simp only [cond_true, List.mem_cons, Prod.mk.injEq] at hm2
              rcases hm2 with ⟨rfl, _⟩ | hm2
              · exact hma
              · exact ih hm2
            | false => rw [hma] at hm2; exact ih hm2
        rw [hk this] at hm; cases hm
      | false => simp only [cond_false]; exact get_restr hh

theorem nodB_iff : ∀ {l : List Nat}, nodB l = true → l.Nodup
  | [], _ => List.nodup_nil
  | j :: l, h => by
    simp only [nodB, Bool.and_eq_true, Bool.not_eq_true'] at h
    refine List.nodup_cons.2 ⟨fun hm => ?_, nodB_iff h.2⟩
    rw [mem_iff.2 hm] at h; cases h.1
theorem get_nodup : ∀ {w : Heap} {j : Nat} {e : Ent}, (w.map (·.1)).Nodup → (j, e) ∈ w → get w j = some e
  | [], j, e, _, hm => by cases hm
  | (k, x) :: w, j, e, hn, hm => by
    simp only [List.map_cons, List.nodup_cons] at hn
    simp only [get]
    rcases List.mem_cons.1 hm with hm | hm
    · injection hm with h1 h2; subst h1; subst h2; simp
    · have : ¬ k = j := fun hh => hn.1 (by rw [hh]; exact List.mem_map.2 ⟨(j, e), hm, rfl⟩)
      rw [beq_ne this]; exact get_nodup hn.2 hm
theorem get_of_key : ∀ {h : Heap} {k : Nat}, k ∈ h.map (·.1) → ∃ e, get h k = some e
  | [], k, hm => by cases hm
  | (a, b) :: h, k, hm => by
    simp only [get]
    cases hb : Nat.beq a k with
    | true => exact ⟨b, rfl⟩
    | false =>
      simp only [cond_false]
      simp only [List.map_cons, List.mem_cons] at hm
      rcases hm with hm | hm
      · subst hm; simp at hb
      · exact get_of_key hm
theorem closedH_mem {K : List Nat} : ∀ {h : Heap}, closedH K h = true → ∀ j e, (j, e) ∈ h → inE K e = true
  | [], _, j, e, hm => by cases hm
  | (k, x) :: h, hc, j, e, hm => by
    simp only [closedH, Bool.and_eq_true] at hc
    rcases List.mem_cons.1 hm with hm | hm
    · injection hm with h1 h2; subst h2; exact hc.1
    · exact closedH_mem hc.2 j e hm
theorem inE_sup {K : List Nat} {Kp : Nat → Prop} {e : Ent} (h : inE K e = true) (hK : ∀ j ∈ K, Kp j) : SupE Kp e := by
  cases e with
  | dead => trivial
  | own t cs => exact sup_of K h hK
  | row t z cs => exact sup_of K h hK
  | ro z cs => exact sup_of K h hK
  | mp cs => exact sup_of K h hK
theorem noRo_mem : ∀ {h : Heap}, noRo h = true → ∀ j e, (j, e) ∈ h → e.mine = true ∨ e = .dead
  | [], _, j, e, hm => by cases hm
  | (k, x) :: h, hc, j, e, hm => by
    rcases List.mem_cons.1 hm with hm | hm
    · injection hm with h1 h2; subst h2
      cases e <;> simp [noRo, Ent.mine] at hc ⊢
    · refine noRo_mem ?_ j e hm
      cases x <;> simp [noRo] at hc <;> exact hc
theorem allMem_spec {K : List Nat} : ∀ {l : List Nat}, allMem K l = true → ∀ j ∈ l, j ∈ K
  | [], _, j, hj => by cases hj
  | k :: l, h, j, hj => by
    simp only [allMem, Bool.and_eq_true] at h
    rcases List.mem_cons.1 hj with rfl | hj
    · exact mem_iff.1 h.1
    · exact allMem_spec h.2 j hj
theorem gets_all {h : Heap} : ∀ {l : List (Nat × Ent)}, (∀ j e, (j, e) ∈ l → get h j = some e) → All (gets h l)
  | [], _ => trivial
  | (k, x) :: l, hh => ⟨hh k x (by simp), gets_all (fun j e hm => hh j e (by simp [hm]))⟩

theorem subCall_con {f : FuncId} {as : List SV} {h : Heap} {nx : Nat} {ds : Ds} {v : SV} {hK w : Heap} {o : List Prop} (hc : subCall r f as h nx ds = some (v, hK, w, o))
    (hn : ∀ h h' v nx' ds', r.fn f as h nx ds = some (v, h', nx', ds', o) → FnOK P f as h v h') : Con P f as hK v w ∧ All (gets h hK) := by
  unfold subCall at hc
  simp only at hc
  split at hc
  · rename_i hk
    simp only [Bool.and_eq_true] at hk
    obtain ⟨k1, k2, k3, k4⟩ := hk
    split at hc
    · rename_i v1 h' nx1 ds1 o1 hr
      split at hc
      · rename_i hw
        simp only [Bool.and_eq_true] at hw
        obtain ⟨w1, w2, w3, w4, w5⟩ := hw
        simp only [Option.some.injEq, Prod.mk.injEq] at hc
        obtain ⟨rfl, rfl, rfl, rfl⟩ := hc
        have hfn := hn _ _ _ _ _ hr
        generalize hKd : restr (reach h 100000 (nmVL as) []) h = hK at *
        generalize hWd : restr (reach h' 100000 (nmV v1 ++ hK.map (·.1)) []) h' = w at *
        refine ⟨?_, gets_all (fun j e hm => ?_)⟩
        · have := con_of_fn hfn (fun j => j) w (by rw [renH_id]; exact nodB_iff w4) (fun i j _ _ hh => hh) (fun j e hm => ⟨?_, ?_, noRo_mem w3 j e hm⟩) (fun j e he hjw => ?_) (fun j e he => ?_) ?_ ?_
          · rw [renl_id, renH_id, ren_id, renH_id] at this; exact this
          · have := get_nodup (nodB_iff w4) hm
            rw [← hWd] at this
            exact get_restr this
          · exact inE_sup (closedH_mem w2 j e hm) (fun i hi => by
              obtain ⟨e', he'⟩ := get_of_key hi
              exact .inr ⟨e', get_mem he'⟩)
          · exact absurd (allMem_spec w5 j (List.mem_map.2 ⟨(j, e), get_mem he, rfl⟩)) hjw
          · exact inE_sup (closedH_mem k2 j e (get_mem he)) (fun i hi => get_of_key hi)
          · exact sup_of _ k1 (fun i hi => get_of_key hi)
          · exact sup_of (w.map (·.1)) (by simp [nmInL, w1]) (fun i hi => by
              obtain ⟨e', he'⟩ := get_of_key hi
              exact .inr ⟨e', get_mem he'⟩)
        · have := get_nodup (nodB_iff k4) hm
          rw [← hKd] at this
          exact get_restr this
      · cases hc
    · cases hc
  · cases hc

theorem auto_spec (hn : ∀ f as h v h' nx ds nx' ds' o, r.fn f as h nx ds = some (v, h', nx', ds', o) → All o → FnOK P f as h v h') {ops : List Oper} {cb : Nat} {it it' : Item} {s s1 : St} {o o1 : List Prop}
    (h : auto D r ops cb it s = some (it', o)) (ho : All o) (hx : xitem P D ops it' s = some (s1, o1)) : All o1 ∧ it'.i = it.i ∧ it'.o = it.o := by
  unfold auto at h
  split at h
  · split at h
    · rename_i f as hinl
      have main : ∀ v rd wr, it' = { it with d := some (.con v rd wr) } → Con P f as rd v wr → All (gets s.h rd) → All o1 ∧ it'.i = it.i ∧ it'.o = it.o := by
        rintro v rd wr rfl hcon hgets
        refine ⟨?_, rfl, rfl⟩
        unfold inl at hinl
        split at hinl
        · rename_i c hop
          split at hinl
          · cases hinl
          · split at hinl
            · rename_i hw
              split at hinl
              · rename_i f' as' hcal
                split at hinl
                · simp only [Option.some.injEq, Prod.mk.injEq] at hinl
                  obtain ⟨rfl, rfl⟩ := hinl
                  unfold xitem at hx
                  simp only [hw, xopd, hop] at hx
                  have hnb : ∀ b, c.callee ≠ .builtin b := by
                    intro b hb
                    unfold callee at hcal
                    rw [hb] at hcal; cases hcal
                  have hxo : ∀ out, xop P D s.h s.t it.m (some (Dir.con v rd wr)) (.call c) = some out → All out.o := by
                    intro out hout
                    unfold xop at hout
                    simp only at hout
                    split at hout
                    · rename_i hb; exact absurd hb (hnb _)
                    · rename_i hb; exact absurd hb (hnb _)
                    · rename_i hb; exact absurd hb (hnb _)
                    · simp only [hcal] at hout
                      split at hout
                      · split at hout
                        · simp only [Option.some.injEq] at hout
                          subst hout
                          exact ⟨hcon.args (fun ρ => denl_soft ρ _), hgets⟩
                        · cases hout
                      · cases hout
                  cases hq : xop P D s.h s.t it.m (some (Dir.con v rd wr)) (.call c) with
                  | none => rw [hq] at hx; simp at hx
                  | some out =>
                    rw [hq] at hx
                    simp only [Option.some.injEq, Prod.mk.injEq] at hx
                    obtain ⟨_, rfl⟩ := hx
                    exact hxo out hq
                · cases hinl
              · cases hinl
            · cases hinl
        · cases hinl
      split at h
      · rename_i v rd wr o2 hcall
        have key : All o2 → Con P f as rd v wr ∧ All (gets s.h rd) := by
          intro ho2
          split at hcall
          · rename_i hna
            split at hcall
            · rename_i v' h1 nx1 ds1 oo hrun
              split at hcall
              · rename_i hnv
                simp only [Option.some.injEq, Prod.mk.injEq] at hcall
                obtain ⟨rfl, rfl, rfl, rfl⟩ := hcall
                have hfn := hn _ _ _ _ _ _ _ _ _ _ hrun ho2
                have hcon : Con P f as [] v' [] := by
                  have := con_of_fn hfn id [] (by simp [renH]) (fun i j hi hj _ => by rcases hi with ⟨e, he⟩ | ⟨e, he⟩ <;> simp [get] at he) (by simp) (by simp [get]) (by simp [get]) (sup_nil hna) (sup_nil (by simp [nmInL, hnv]))
                  rw [renl_nil _ _ hna, ren_nil _ _ hnv] at this
                  exact this
                exact ⟨hcon, trivial⟩
              · cases hcall
            · cases hcall
          · exact subCall_con (P := P) hcall (fun h h' v nx' ds' hr => hn _ _ _ _ _ _ _ _ _ _ hr ho2)
        split at h
        · rename_i u _
          simp only [Option.some.injEq, Prod.mk.injEq] at h
          obtain ⟨rfl, rfl⟩ := h
          obtain ⟨c1, c2⟩ := key ho.2
          exact main u rd wr rfl (c1.ans (fun ρ => by rw [← den_soft, ho.1, den_soft])) c2
        · simp only [Option.some.injEq, Prod.mk.injEq] at h
          obtain ⟨rfl, rfl⟩ := h
          obtain ⟨c1, c2⟩ := key ho
          exact main v rd wr rfl c1 c2
      · cases h
    · cases h
  · cases h

theorem runItemsA_chain (hn : ∀ f as h v h' nx ds nx' ds' o, r.fn f as h nx ds = some (v, h', nx', ds', o) → All o → FnOK P f as h v h') {ops : List Oper} {cb : Nat} : ∀ {l : List Item} {s s' : St} {q : List IT} {o : List Prop}, runItemsA P D r ops cb l s = some (q, s', o) → All o → Chain P D ops q s s' ∧ q.map (fun x => (x.it.i, x.it.o)) = l.map (fun it => (it.i, it.o))
  | [], s, s', q, o, h, _ => by simp [runItemsA] at h; obtain ⟨rfl, rfl, _⟩ := h; exact ⟨rfl, rfl⟩
  | it :: l, s, s', q, o, h, ho => by
    simp only [runItemsA] at h
    split at h
    · rename_i it' o1 ha
      split at h
      · rename_i s1 o3 h1
        split at h
        · rename_i r2 s2 o2 h2
          simp only [Option.some.injEq, Prod.mk.injEq] at h
          obtain ⟨rfl, rfl, rfl⟩ := h
          obtain ⟨p1, p2⟩ := All_append.1 ho
          obtain ⟨c1, c2⟩ := runItemsA_chain hn h2 p2
          obtain ⟨q1, q2, q3⟩ := auto_spec hn ha p1 h1
          exact ⟨⟨s1, _, h1, q1, rfl, c1⟩, by simp [c2, q2, q3]⟩
        · cases h
      · cases h
    · split at h
      · rename_i s1 o1 h1
        split at h
        · rename_i r2 s2 o2 h2
          simp only [Option.some.injEq, Prod.mk.injEq] at h
          obtain ⟨rfl, rfl, rfl⟩ := h
          obtain ⟨p1, p2⟩ := All_append.1 ho
          obtain ⟨c1, c2⟩ := runItemsA_chain hn h2 p2
          exact ⟨⟨s1, o1, h1, p1, rfl, c1⟩, by simp [c2]⟩
        · cases h
      · cases h

/-- A region that draws. -/
theorem draw_sound (hL : LOK P D) (hn : ∀ f as h v h' nx ds nx' ds' o, r.fn f as h nx ds = some (v, h', nx', ds', o) → All o → FnOK P f as h v h') {id : Nat} {ops : Array Oper} {nx cb : Nat} {ds : Ds} {s s' : St} {l : List IT} {o : List Prop} (h : runItemsA P D r ops.toList cb (items ops.toList 0 nx ds).1 s = some (l, s', o)) (ho : All o)
    (he : edgesOk ops.toList 0 = true) (hp : pairOk ops.toList (clos ops.toList []) l = true) (b : Nat) : CodeOK P b (.region id ops true) s s' .normal := by
  intro W0 S ρ a W Q hag hdf hsat hQ
  obtain ⟨hch, hits⟩ := runItemsA_chain hn h ho
  have hz := items_spec ops.toList 0 nx ds
  have hzi : l.map (fun x => (x.it.i, x.it.o)) = ops.toList.zipIdx.map fun (x : Oper × Nat) => (x.2, x.1) := by
    rw [hits, ← hz]
  have hlen : l.length = ops.size := by
    have := congrArg List.length hzi
    simpa using this
  have hops : ∀ x ∈ l, ops.toList[x.it.i]? = some x.it.o := by
    intro x hx
    have : (x.it.i, x.it.o) ∈ ops.toList.zipIdx.map fun (x : Oper × Nat) => (x.2, x.1) := by
      rw [← hzi]; exact List.mem_map.2 ⟨x, hx, rfl⟩
    obtain ⟨⟨o, j⟩, h1, h2⟩ := List.mem_map.1 this
    simp only [Prod.mk.injEq] at h2
    obtain ⟨rfl, rfl⟩ := h2
    have := List.mem_zipIdx_iff_getElem?.1 h1
    simpa using this
  have hidx : l.map (fun x => x.it.i) = List.range ops.size := by
    have h1 : l.map (fun x => x.it.i) = (l.map (fun x => (x.it.i, x.it.o))).map (·.1) := by simp
    rw [h1, hzi, List.map_map]
    have h2 : ((fun x : Nat × Oper => x.1) ∘ fun (x : Oper × Nat) => (x.2, x.1)) = fun x => x.2 := by funext x; rfl
    have h3 : ops.toList.zipIdx.map (fun x => x.2) = List.range ops.toList.length := by
      rw [List.zipIdx_map_snd, List.range_eq_range']
    simp only [Array.length_toList] at h3
    rw [← h3]
    rfl
  refine wp_region_any hL.mixed ?_
  have := wpAny_chain (ops := ops.toList) (cl := clos ops.toList []) hL rfl he (s' := s') (ρ0 := ρ) (a0 := a) (W0 := W0) (S := S) (Q := Q)
    (fun ρ' a' W' h1 h2 h3 h4 => hQ ρ' a' W' (h1.leB b) h2 (h3.trans hdf) h4) l (Array.replicate ops.size false) s ρ a { W with drawn := W.drawn + 1 } (by simp) ?_ hops ?_ hp ?_ hch (Env.le.refl _) hag rfl hsat.drew
  · rw [hlen] at this; simpa using this
  · intro i hi
    have hi' : i < ops.size := by simpa using hi
    constructor
    · intro _
      have : i ∈ l.map (fun x => x.it.i) := by rw [hidx]; simpa using hi'
      obtain ⟨x, hx, hxi⟩ := List.mem_map.1 this
      exact ⟨x, hx, hxi⟩
    · intro _; simp [Array.getD, hi']
  · have : l.map (fun x => x.it.i) = List.range ops.size := hidx
    show (l.map (fun x => x.it.i)).Pairwise (· < ·)
    rw [this]; exact List.pairwise_lt_range
  · intro i hi hh
    have hi' : i < ops.size := by simpa using hi
    simp [Array.getD, hi'] at hh
end
end Go.Sx
