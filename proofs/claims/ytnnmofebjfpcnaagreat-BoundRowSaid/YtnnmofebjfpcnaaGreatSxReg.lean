/- Part of an executor of given code on symbolic values, with its proof of soundness: what is proved stands in each theorem. -/
import Derived.Test.YtnnmofebjfpcnaaGreatSxStep
import Derived.Orders
set_option linter.unusedVariables false
set_option linter.unusedSimpArgs false

namespace Go.Sx
open Go.RowKit

structure Item where
  i : Nat
  o : Oper
  m : Nat
  d : Option Dir

def gdst (ops : List Oper) (j : Nat) : Option Tmp := match ops[j]? with | some o => o.dst | none => none

/-- Is the operation carried out? -/
def wantedS (ops : List Oper) (o : Oper) (t : Tmps) : Option Bool :=
  match o.guard with
  | none => some true
  | some (j, w) => (match gdst ops j with
    | some d => (match tget t d with
      | some (.bool b) => some (b == w)
      | some (.tup []) => some false
      | _ => none)
    | none => none)

theorem wantedS_run {ops : List Oper} {o : Oper} {t : Tmps} {b : Bool} (h : wantedS ops o t = some b) {ρ : Env} {tm : Array Value} (ag : Agree ρ t tm) : Region.wanted o (yielded ops.toArray tm) = b := by
  unfold wantedS at h
  unfold Region.wanted
  cases hg : o.guard with
  | none => rw [hg] at h; simpa using h
  | some jw =>
    obtain ⟨j, w⟩ := jw
    rw [hg] at h
    simp only at h ⊢
    cases hd : gdst ops j with
    | none => rw [hd] at h; simp at h
    | some d =>
      rw [hd] at h; simp only at h
      have hd2 : ((ops.toArray[j]?).bind (·.dst)) = some d := by
        unfold gdst at hd
        simp only [List.getElem?_toArray]
        cases hj : ops[j]? with
        | none => rw [hj] at hd; simp at hd
        | some o' => rw [hj] at hd; simpa using hd
      unfold yielded
      rw [hd2]
      simp only [Option.bind_some]
      split at h
      · rename_i c hc
        have h1 := ag.val d _ hc
        have h2 := tget_lt t d _ hc
        rw [ag.len] at h2
        simp [den, Array.getD, h2] at h1
        simp only [Option.some.injEq] at h
        have : tm[d]? = some (.bool c) := by simp [h2, ← h1]
        rw [this, ← h]
        simp only
        cases c <;> cases w <;> rfl
      · rename_i hc
        have h1 := ag.val d _ hc
        have h2 := tget_lt t d _ hc
        rw [ag.len] at h2
        simp [den, denl, Array.getD, h2] at h1
        simp only [Option.some.injEq] at h
        have : tm[d]? = some (.tuple #[]) := by simp [h2, ← h1]
        rw [this, ← h]
        simp only
        cases w <;> rfl
      · cases h

def xitem (P : Program) (D : Dat) (ops : List Oper) (it : Item) (s : St) : Option (St × List Prop) :=
  match wantedS ops it.o s.t with
  | some false => some (⟨setD s.t it.o.dst (.tup []), s.h⟩, [])
  | some true => (match xopd P D s.h s.t it.m it.d it.o.op with
    | some out => some (⟨setD s.t it.o.dst out.v, puts s.h out.w⟩, out.o)
    | none => none)
  | none => none

section
variable {P : Program} {D : Dat}

/-- What the walk owes at one operation. -/
theorem xitem_wp (hL : LOK P D) {ops : List Oper} {it : Item} {s s' : St} {obs : List Prop} (h : xitem P D ops it s = some (s', obs)) (ho : All obs)
    {ρ : Env} {a : Act} (ag : Agree ρ s.t a.tmps) {W0 : World} {S : Nat → Prop} {W : World} (st : Sat W0 S ρ s.h W) {K : Act → World → Prop} {Q : Exit → Act → World → Prop}
    (hK : ∀ ρ' a' W', Env.le ρ ρ' → Agree ρ' s'.t a'.tmps → a'.defers = a.defers → Sat W0 S ρ' s'.h W' → K a' W') :
    if Region.wanted it.o (yielded ops.toArray a.tmps) then it.o.wp P a W K Q ∨ (it.o.asks P a W ∧ LetsOut Q) else K (a.put it.o.dst undef) W := by
  unfold xitem at h
  split at h
  · rename_i hw
    simp only [Option.some.injEq, Prod.mk.injEq] at h
    obtain ⟨rfl, rfl⟩ := h
    rw [wantedS_run hw ag]
    simp only [Bool.false_eq_true, if_false]
    refine hK ρ _ W (Env.le.refl _) (ag.setD _ ?_) (by unfold Act.put; split <;> rfl) st
    simp [den, denl, undef]
  · rename_i hw
    rw [wantedS_run hw ag]
    simp only [if_true]
    split at h
    · rename_i out hx
      simp only [Option.some.injEq, Prod.mk.injEq] at h
      obtain ⟨rfl, rfl⟩ := h
      exact .inl (xopd_wp hL hx ho ag st hK)
    · cases h
  · cases h
end

/-! ## What an operation reads and writes -/
/-- the names that it reads or writes; those that it writes -/
def fp (t : Tmps) (m : Nat) (d : Option Dir) (op : Op) : List Nat × List Nat :=
  match op with
  | .alloc _ | .box _ _ | .buildSlice _ _ _ | .makeSlice _ _ _ | .makeMap _ _ => ([m], [m])
  | .insert _ x _ _ | .mapUpdate _ x _ _ => (match ev t x with | some (.mapp j) => ([j], [j]) | _ => ([], []))
  | .lookup _ x _ _ => (match ev t x with | some (.mapp j) => ([j], []) | _ => ([], []))
  | .store _ x _ => (match ev t x with | some (.ptr j _) => ([j], [j]) | _ => ([], []))
  | .call c => (match c.callee with
    | .builtin .append => (match c.args.toList with
      | [x, y] =>
        let rx := match ev t x with | some (.rw j _ _ _) => [j] | some (.sl j _ _ _) => [j] | _ => []
        let ry := match ev t y with | some (.rw j _ _ _) => [j] | some (.sl j _ _ _) => [j] | _ => []
        (m :: (rx ++ ry), m :: rx)
      | _ => ([], []))
    | .builtin .copy => (match c.args.toList with
      | [x, y] =>
        let rx := match ev t x with | some (.rw j _ _ _) => [j] | some (.sl j _ _ _) => [j] | _ => []
        let ry := match ev t y with | some (.rw j _ _ _) => [j] | some (.sl j _ _ _) => [j] | _ => []
        (rx ++ ry, rx)
      | _ => ([], []))
    | .builtin _ => (rds t (.call c), [])
    | _ => (match d with
      | some (.con _ rd wr) => (rd.map (·.1) ++ wr.map (·.1), wr.map (·.1))
      | _ => ([], [])))
  | op => (rds t op, [])

theorem xstore_reads {h h' : Heap} {j off : Nat} {vs : List SV} {d : Option Dir} (hj : get h j = get h' j) : xstore h j off vs d = xstore h' j off vs d := by
  unfold xstore; rw [hj]
theorem xnew_reads {h h' : Heap} {m : Nat} {e : TypeId} {cs : List SV} {v : SV} {o : List Prop} (hj : get h m = get h' m) : xnew h m e cs v o = xnew h' m e cs v o := by
  unfold xnew; rw [hj]

theorem xdst_reads {h h' : Heap} {e : TypeId} {z : Nat} {u : SV} (hr : ∀ j, j ∈ (match u with | .rw j _ _ _ => [j] | .sl j _ _ _ => [j] | _ => []) → get h j = get h' j) : xdst h e z u = xdst h' e z u := by
  cases u <;> try rfl
  · simp only [xdst]; rw [hr _ (by simp)]
  · simp only [xdst]; rw [hr _ (by simp)]
theorem xsrc_reads {P : Program} {h h' : Heap} {tx : TypeId} {z : Nat} {d : Option Dir} {u : SV} (hr : ∀ j, j ∈ (match u with | .rw j _ _ _ => [j] | .sl j _ _ _ => [j] | _ => []) → get h j = get h' j) : xsrc P h tx z d u = xsrc P h' tx z d u := by
  cases u <;> try rfl
  · simp only [xsrc]; rw [hr _ (by simp)]
  · simp only [xsrc]; rw [hr _ (by simp)]

theorem freshOk_reads {h h' : Heap} {rd : List Nat} : ∀ {l : List Nat}, (∀ j ∈ l, get h j = get h' j) → freshOk h rd l = freshOk h' rd l
  | [], _ => rfl
  | k :: l, hr => by simp only [freshOk]; rw [hr k (by simp), freshOk_reads (l := l) (fun j hj => hr j (by simp [hj]))]
theorem gets_reads {h h' : Heap} : ∀ {l : List (Nat × Ent)}, (∀ j ∈ l.map (·.1), get h j = get h' j) → gets h l = gets h' l
  | [], _ => rfl
  | (k, e) :: l, hr => by simp only [gets]; rw [hr k (by simp), gets_reads (l := l) (fun j hj => hr j (by simp only [List.map_cons, List.mem_cons]; exact .inr hj))]

theorem xop_reads {P : Program} {D : Dat} {h h' : Heap} {t : Tmps} {m : Nat} {d : Option Dir} {op : Op} (hr : ∀ j ∈ (fp t m d op).1, get h j = get h' j) : xop P D h t m d op = xop P D h' t m d op := by
  have silent : ∀ op, (fp t m d op).1 = rds t op → (∀ j ∈ (fp t m d op).1, get h j = get h' j) → xs P D h t d op = xs P D h' t d op := fun op he hr => xs_reads (fun j hj => hr j (by rw [he]; exact hj))
  cases op with
  | call c =>
    obtain ⟨cl, args, ats⟩ := c
    cases cl with
    | builtin b =>
      by_cases hb : b = .append
      · subst hb
        simp only [xop]
        simp only [fp] at hr
        split
        · rename_i x y tx ty hargs hats
          rw [hargs] at hr
          simp only at hr
          split
          · rename_i u w hu hw
            rw [hu, hw] at hr
            have e1 : ∀ e z, xdst h e z u = xdst h' e z u := by
              intro e z
              apply xdst_reads
              intro j hj
              apply hr
              simp only [List.mem_cons, List.mem_append]
              right; left
              cases u <;> simp_all
            have e2 : ∀ z, xsrc P h ty z d w = xsrc P h' ty z d w := by
              intro z
              apply xsrc_reads
              intro j hj
              apply hr
              simp only [List.mem_cons, List.mem_append]
              right; right
              cases w <;> simp_all
            have e3 : get h m = get h' m := hr m (by simp)
            simp only [xapp, e1, e2, e3]
          · rfl
        · rfl
      · by_cases hb2 : b = .copy
        · subst hb2
          simp only [xop]
          simp only [fp] at hr
          split
          · rename_i x y tx ty hargs hats
            rw [hargs] at hr
            simp only at hr
            split
            · rename_i u w hu hw
              rw [hu, hw] at hr
              have e2 : ∀ z, xsrc P h ty z none w = xsrc P h' ty z none w := by
                intro z
                apply xsrc_reads
                intro j hj
                apply hr
                simp only [List.mem_append]
                right
                cases w <;> simp_all
              have e1 : ∀ j off len cap, u = .sl j off len cap → get h j = get h' j := by
                rintro j off len cap rfl
                apply hr
                simp
              unfold xcopy
              simp only [e2]
              cases u <;> try rfl
              rename_i j off len cap
              simp only [e1 j off len cap rfl]
            · rfl
          · rfl
        · have e1 : (fp t m d (.call ⟨.builtin b, args, ats⟩)).1 = rds t (.call ⟨.builtin b, args, ats⟩) := by
            cases b <;> first | (exact absurd rfl hb) | (exact absurd rfl hb2) | rfl
          have := silent _ e1 hr
          cases b <;> first | (exact absurd rfl hb) | (exact absurd rfl hb2) | (simp only [xop]; rw [this])
    | value x =>
      simp only [xop]
      split
      · rename_i v rd wr
        simp only [fp] at hr
        have e1 : gets h rd = gets h' rd := gets_reads (fun j hj => hr j (by simp only [List.mem_append]; exact .inl hj))
        have e2 : freshOk h (rd.map (·.1)) (wr.map (·.1)) = freshOk h' (rd.map (·.1)) (wr.map (·.1)) := freshOk_reads (fun j hj => hr j (by simp only [List.mem_append]; exact .inr hj))
        simp only [e1, e2]
      · rw [silent _ (by simp only [fp]; rfl) hr]
    | invoke x name =>
      simp only [xop]
      split
      · rename_i v rd wr
        simp only [fp] at hr
        have e1 : gets h rd = gets h' rd := gets_reads (fun j hj => hr j (by simp only [List.mem_append]; exact .inl hj))
        have e2 : freshOk h (rd.map (·.1)) (wr.map (·.1)) = freshOk h' (rd.map (·.1)) (wr.map (·.1)) := freshOk_reads (fun j hj => hr j (by simp only [List.mem_append]; exact .inr hj))
        simp only [e1, e2]
      · rw [silent _ (by simp only [fp]; rfl) hr]
  | alloc e =>
    simp only [fp, List.mem_singleton, forall_eq] at hr
    simp only [xop, xe]; split
    · exact xnew_reads hr
    · rfl
  | box e x =>
    simp only [fp, List.mem_singleton, forall_eq] at hr
    simp only [xop, xe]; split
    · exact xnew_reads hr
    · rfl
  | buildSlice e x y =>
    simp only [fp, List.mem_singleton, forall_eq] at hr
    simp only [xop, xe]
    split
    · split
      · split
        · split
          · exact xnew_reads hr
          · rfl
        · rfl
      · rfl
    · rfl
  | makeSlice e x y =>
    simp only [fp, List.mem_singleton, forall_eq] at hr
    simp only [xop, xe, xmake]
    rw [hr]
  | store e x y =>
    simp only [fp] at hr
    simp only [xop, xe]
    split
    · rename_i j off v n hx hy hn
      rw [hx] at hr
      split
      · exact xstore_reads (hr j (by simp))
      · rfl
    · rfl
  | makeMap e x =>
    simp only [fp, List.mem_singleton, forall_eq] at hr
    simp only [xop, xmap]
    rw [hr]
  | insert e x k v =>
    simp only [fp] at hr
    simp only [xop, xmap]
    split
    · rename_i j ks vs kd hx hk hv hkt
      rw [hx] at hr
      rw [hr j (by simp)]
    · rfl
  | mapUpdate e x k v =>
    simp only [fp] at hr
    simp only [xop, xmap]
    split
    · rename_i j ks vs kd hx hk hv hkt
      rw [hx] at hr
      rw [hr j (by simp)]
    · rfl
  | lookup e x k ok =>
    simp only [fp] at hr
    simp only [xop, xmap]
    split
    · rename_i j ks kd et hx hk hkt het
      rw [hx] at hr
      rw [hr j (by simp)]
    · rfl
  | _ =>
    rename_i _
    simp only [xop]
    rw [silent _ rfl hr]
end Go.Sx
