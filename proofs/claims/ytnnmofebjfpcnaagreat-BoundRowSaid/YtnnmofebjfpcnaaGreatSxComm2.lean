/- Part of an executor of given code on symbolic values, with its proof of soundness: what is proved stands in each theorem. -/
import Derived.Test.YtnnmofebjfpcnaaGreatSxComm
set_option linter.unusedVariables false
set_option linter.unusedSimpArgs false

namespace Go.Sx
open Go.RowKit

theorem get_puts : ∀ (w : List (Nat × Ent)) (h : Heap) (j : Nat), j ∉ w.map (·.1) → get (puts h w) j = get h j
  | [], h, j, _ => rfl
  | (k, e) :: w, h, j, hj => by
    simp only [List.map_cons, List.mem_cons, not_or] at hj
    simp only [puts]
    rw [get_puts w _ j hj.2, get_put, if_neg hj.1]

theorem puts_put : ∀ (w : List (Nat × Ent)) (h : Heap) (j : Nat) (e : Ent), j ∉ w.map (·.1) → put (puts h w) j e = puts (put h j e) w
  | [], h, j, e, _ => rfl
  | (k, x) :: w, h, j, e, hj => by
    simp only [List.map_cons, List.mem_cons, not_or] at hj
    simp only [puts]
    rw [puts_put w _ j e hj.2, put_comm h k j x e (fun hh => hj.1 hh.symm)]

theorem puts_comm : ∀ (a b : List (Nat × Ent)) (h : Heap), (∀ j ∈ a.map (·.1), j ∉ b.map (·.1)) → puts (puts h a) b = puts (puts h b) a
  | [], b, h, _ => rfl
  | (k, e) :: a, b, h, hd => by
    simp only [puts]
    have hk : k ∉ b.map (·.1) := hd k (by simp)
    rw [puts_comm a b _ (fun j hj => hd j (by simp only [List.map_cons, List.mem_cons]; exact .inr hj)), puts_put b h k e hk]

theorem tset_comm : ∀ (t : Tmps) (i j : Nat) (u v : Option SV), i ≠ j → tset (tset t i u) j v = tset (tset t j v) i u
  | [], i, j, u, v, _ => rfl
  | x :: t, 0, 0, u, v, h => absurd rfl h
  | x :: t, 0, j + 1, u, v, _ => rfl
  | x :: t, i + 1, 0, u, v, _ => rfl
  | x :: t, i + 1, j + 1, u, v, h => by simp only [tset]; rw [tset_comm t i j u v (by omega)]

theorem setD_comm {t : Tmps} {i j : Option Tmp} {u v : SV} (h : ∀ d, i = some d → j ≠ some d) : setD (setD t i u) j v = setD (setD t j v) i u := by
  cases i with
  | none => rfl
  | some i =>
    cases j with
    | none => rfl
    | some j => exact tset_comm t i j _ _ (fun hh => h i rfl (by rw [hh]))

theorem tget_setD {t : Tmps} {i : Option Tmp} {v : SV} {j : Nat} (h : i ≠ some j) : tget (setD t i v) j = tget t j := by
  cases i with
  | none => rfl
  | some i =>
    simp only [setD, tget_tset]
    have : ¬ (j = i ∧ i < t.length) := fun hh => h (by rw [hh.1])
    rw [if_neg this]

def opTmps : List Operand → List Nat
  | [] => []
  | .tmp t :: l => t :: opTmps l
  | _ :: l => opTmps l
theorem opTmps_mem : ∀ {l : List Operand} {j : Nat}, .tmp j ∈ l → j ∈ opTmps l
  | [], j, h => by cases h
  | x :: l, j, h => by
    rcases List.mem_cons.1 h with rfl | h
    · simp [opTmps]
    · have := opTmps_mem h
      cases x <;> simp [opTmps, this]
def looks (ops : List Oper) (o : Oper) : List Nat :=
  opTmps o.op.operands.toList ++ (match o.guard with
    | some (g, _) => (match gdst ops g with | some d => [d] | none => [])
    | none => [])
def isDst (d : Option Tmp) (j : Nat) : Bool := match d with | some i => Nat.beq i j | none => false
def apartS (ops : List Oper) (a b : Oper) : Bool :=
  (match a.dst with | some d => !mem d (looks ops b) && !isDst b.dst d | none => true) && (match b.dst with | some d => !mem d (looks ops a) | none => true)
theorem apartS_spec {ops : List Oper} {a b : Oper} (h : apartS ops a b = true) :
    (∀ d, a.dst = some d → d ∉ looks ops b) ∧ (∀ d, a.dst = some d → b.dst ≠ some d) ∧ (∀ d, b.dst = some d → d ∉ looks ops a) := by
  unfold apartS at h
  simp only [Bool.and_eq_true] at h
  obtain ⟨h1, h2⟩ := h
  refine ⟨fun d hd => ?_, fun d hd => ?_, fun d hd => ?_⟩
  · rw [hd] at h1; simp only [Bool.and_eq_true, Bool.not_eq_true'] at h1
    intro hm; rw [mem_iff.2 hm] at h1; simp at h1
  · rw [hd] at h1; simp only [Bool.and_eq_true, Bool.not_eq_true'] at h1
    intro hb; rw [hb] at h1; simp [isDst] at h1
  · rw [hd] at h2; simp only [Bool.not_eq_true'] at h2
    intro hm; rw [mem_iff.2 hm] at h2; cases h2

def disj : List Nat → List Nat → Bool
  | [], _ => true
  | j :: l, m => !mem j m && disj l m
theorem disj_spec : ∀ {l m : List Nat}, disj l m = true → ∀ j ∈ l, j ∉ m
  | [], m, _, j, hj => by cases hj
  | k :: l, m, h, j, hj => by
    simp only [disj, Bool.and_eq_true, Bool.not_eq_true'] at h
    rcases List.mem_cons.1 hj with rfl | hj
    · intro hm; rw [mem_iff.2 hm] at h; simp at h
    · exact disj_spec h.2 j hj

section
variable {P : Program} {D : Dat} {ops : List Oper}

theorem ev_looks {o : Oper} {t t' : Tmps} (h : ∀ j ∈ looks ops o, tget t j = tget t' j) : ∀ x ∈ o.op.operands, ev t x = ev t' x := by
  intro x hx
  cases x with
  | tmp j => exact h j (by simp only [looks, List.mem_append]; exact .inl (opTmps_mem (by simpa using hx)))
  | _ => rfl
theorem wantedS_looks {o : Oper} {t t' : Tmps} (h : ∀ j ∈ looks ops o, tget t j = tget t' j) : wantedS ops o t = wantedS ops o t' := by
  unfold wantedS
  split
  · rfl
  · rename_i g w hg
    split
    · rename_i d hd
      rw [h d (by simp only [looks, List.mem_append]; right; rw [hg]; simp only; rw [hd]; simp)]
    · rfl

/-- what an item does: its value, what it writes -/
def xwhat (P : Program) (D : Dat) (ops : List Oper) (it : Item) (s : St) : Option Out :=
  match wantedS ops it.o s.t with
  | some false => some ⟨.tup [], [], []⟩
  | some true => xopd P D s.h s.t it.m it.d it.o.op
  | none => none

theorem xitem_what (it : Item) (s : St) : xitem P D ops it s = match xwhat P D ops it s with
    | some out => some (⟨setD s.t it.o.dst out.v, puts s.h out.w⟩, out.o)
    | none => none := by
  unfold xitem xwhat
  cases wantedS ops it.o s.t with
  | none => rfl
  | some b => cases b <;> rfl

theorem xwhat_eq {it : Item} {s s' : St} (ht : ∀ j ∈ looks ops it.o, tget s.t j = tget s'.t j) (hh : ∀ j ∈ (fp s.t it.m it.d it.o.op).1, get s.h j = get s'.h j) : xwhat P D ops it s = xwhat P D ops it s' := by
  unfold xwhat
  rw [wantedS_looks ht]
  have e1 : xopd P D s.h s.t it.m it.d it.o.op = xopd P D s'.h s'.t it.m it.d it.o.op := by
    unfold xopd
    rw [xop_reads hh, xop_tmps (ev_looks ht)]
  rw [e1]

theorem xwhat_writes {it : Item} {s : St} {out : Out} (h : xwhat P D ops it s = some out) : ∀ j ∈ out.w.map (·.1), j ∈ (fp s.t it.m it.d it.o.op).2 := by
  unfold xwhat at h
  split at h
  · simp only [Option.some.injEq] at h; subst h; simp
  · unfold xopd at h
    split at h
    · rename_i out0 h0
      have := xop_writes h0
      split at h
      · simp only [Option.some.injEq] at h; subst h; exact this
      · simp only [Option.some.injEq] at h; subst h; exact this
    · cases h
  · cases h

theorem fp_looks {it : Item} {t t' : Tmps} (h : ∀ j ∈ looks ops it.o, tget t j = tget t' j) : fp t it.m it.d it.o.op = fp t' it.m it.d it.o.op := fp_tmps (ev_looks h)

theorem commute {A B : Item} {s s1 s2 : St} {oA oB : List Prop} (hA : xitem P D ops A s = some (s1, oA)) (hB : xitem P D ops B s1 = some (s2, oB)) (hap : apartS ops A.o B.o = true)
    {fA fB : List Nat × List Nat} (hfA : fp s.t A.m A.d A.o.op = fA) (hfB : fp s1.t B.m B.d B.o.op = fB) (h1 : disj fA.2 fB.1 = true) (h2 : disj fB.2 fA.1 = true) (h3 : disj fA.2 fB.2 = true) :
    ∃ s1', xitem P D ops B s = some (s1', oB) ∧ xitem P D ops A s1' = some (s2, oA) ∧ fp s1'.t A.m A.d A.o.op = fA ∧ fp s.t B.m B.d B.o.op = fB := by
  obtain ⟨a1, a2, a3⟩ := apartS_spec hap
  rw [xitem_what] at hA hB
  cases hwA : xwhat P D ops A s with
  | none => rw [hwA] at hA; cases hA
  | some outA =>
    rw [hwA] at hA; simp only [Option.some.injEq, Prod.mk.injEq] at hA
    obtain ⟨rfl, rfl⟩ := hA
    cases hwB : xwhat P D ops B ⟨setD s.t A.o.dst outA.v, puts s.h outA.w⟩ with
    | none => rw [hwB] at hB; cases hB
    | some outB =>
      rw [hwB] at hB; simp only [Option.some.injEq, Prod.mk.injEq] at hB
      obtain ⟨rfl, rfl⟩ := hB
      have wA := xwhat_writes hwA
      rw [hfA] at wA
      have htB : ∀ j ∈ looks ops B.o, tget (setD s.t A.o.dst outA.v) j = tget s.t j := fun j hj => tget_setD (fun hh => a1 j hh hj)
      have hfB' : fp s.t B.m B.d B.o.op = fB := by rw [← hfB]; exact (fp_looks htB).symm
      have hB0 : xwhat P D ops B s = some outB := by
        rw [← hwB]
        refine (xwhat_eq (s := ⟨setD s.t A.o.dst outA.v, puts s.h outA.w⟩) htB (fun j hj => ?_)).symm
        simp only at hj
        rw [hfB] at hj
        exact get_puts _ _ _ (fun hm => disj_spec h1 j (wA j hm) hj)
      have wB := xwhat_writes hB0
      rw [hfB'] at wB
      have htA : ∀ j ∈ looks ops A.o, tget s.t j = tget (setD s.t B.o.dst outB.v) j := fun j hj => (tget_setD (fun hh => a3 j hh hj)).symm
      have hA1 : xwhat P D ops A ⟨setD s.t B.o.dst outB.v, puts s.h outB.w⟩ = some outA := by
        rw [← hwA]
        refine (xwhat_eq (s := s) htA (fun j hj => ?_)).symm
        rw [hfA] at hj
        exact (get_puts _ _ _ (fun hm => disj_spec h2 j (wB j hm) hj)).symm
      refine ⟨⟨setD s.t B.o.dst outB.v, puts s.h outB.w⟩, by rw [xitem_what, hB0], ?_, ?_, hfB'⟩
      · rw [xitem_what, hA1]
        simp only [Option.some.injEq, Prod.mk.injEq, and_true]
        rw [setD_comm a2, puts_comm outA.w outB.w s.h (fun j hj hk => disj_spec h3 j (wA j hj) (wB j hk))]
      · rw [← hfA]; exact (fp_looks htA).symm
end
end Go.Sx
