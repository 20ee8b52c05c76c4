/- Part of an executor of given code on symbolic values, with its proof of soundness: what is proved stands in each theorem. -/
import Derived.Test.YtnnmofebjfpcnaaGreatSxEff2
set_option linter.unusedVariables false
set_option linter.unusedSimpArgs false

namespace Go.Sx
open Go.RowKit

structure Out where
  v : SV
  w : List (Nat × Ent)
  o : List Prop

def puts : Heap → List (Nat × Ent) → Heap
  | h, [] => h
  | h, (j, e) :: l => puts (put h j e) l

def xext (n : Nat) (kn : Bool) : List SV → Option (SV × List Prop)
  | [.int .u64 x, .int .u64 y, .int .u64 c] => (match chk kn (c.toNat ≤ 1) with
    | some o => (match n with
      | 1 => some (.tup [.int .u64 (Int.ofNat ((x.toNat + y.toNat + c.toNat) % 18446744073709551616)), .int .u64 (Int.ofNat ((x.toNat + y.toNat + c.toNat) / 18446744073709551616))], o)
      | 2 => some (.tup [.int .u64 (Int.ofNat ((x.toNat + 18446744073709551616 - y.toNat - c.toNat) % 18446744073709551616)), .int .u64 (Int.ofNat (if x.toNat < y.toNat + c.toNat then 1 else 0))], o)
      | _ => none)
    | none => none)
  | _ => none
def lastKn : List SV → Bool
  | [_, _, c] => c.known
  | _ => false
/-- A pair of known numbers. -/
def hard2 (kn : Bool) (r : Option (SV × List Prop)) : Option (SV × List Prop) :=
  bif kn then (match r with
    | some (.tup [.int k a, .int k' b], o) => force a (fun m => force b (fun n => some (.tup [.num k m, .num k' n], o)))
    | r => r) else r
theorem hard2_some {kn : Bool} {r : Option (SV × List Prop)} {v : SV} {o : List Prop} (h : hard2 kn r = some (v, o)) : ∃ v', r = some (v', o) ∧ ∀ ρ, den ρ v = den ρ v' := by
  unfold hard2 at h
  cases kn with
  | false => exact ⟨v, h, fun _ => rfl⟩
  | true =>
    simp only [cond_true] at h
    split at h
    · rw [force_eq, force_eq] at h
      simp only [Option.some.injEq, Prod.mk.injEq] at h
      obtain ⟨rfl, rfl⟩ := h
      exact ⟨_, rfl, fun _ => rfl⟩
    · exact ⟨v, h, fun _ => rfl⟩

/-- All silent operations. -/
def xs (P : Program) (D : Dat) (h : Heap) (t : Tmps) (d : Option Dir) (op : Op) : Option (SV × List Prop) :=
  match op with
  | .build ty ps => (match pairs t ps.toList with | some l => addO (xbuild P ty l) [] | none => none)
  | .slice ty x lo hi mx => (match ev t x, evs t lo.toList, evs t hi.toList, evs t mx.toList with
    | some v, some a, some b, some c => xslice P h ty v ⟨a.head?, b.head?, c.head?⟩
    | _, _, _, _ => none)
  | .call { callee := .value (.func f), args, argTypes := _ } => (match evs t args.toList with | some l => hard2 (knownL l) (xext (D.ext f) (lastKn l) (softL l)) | none => none)
  | op => xq P D h t d op

def rds (t : Tmps) (op : Op) : List Nat :=
  match op with
  | .slice _ x _ _ _ => (match ev t x with | some (.rw j _ _ _) => [j] | _ => [])
  | op => rdq t op

theorem opt_den {ρ : Env} {t : Tmps} {a : Act} (ag : Agree ρ t a.tmps) {lo : Option Operand} {x : List SV} (h : evs t lo.toList = some x) :
    (∀ s, x.head? = some s → ∃ V, lo.map a.eval = some V ∧ den ρ s = some V) ∧ (x.head? = none → lo.map a.eval = none) := by
  have hd := evs_den ag h
  cases lo with
  | none => simp [evs] at h; subst h; simp
  | some y =>
    simp only [Option.toList_some, List.map_cons, List.map_nil] at hd
    cases x with
    | nil => simp [denl] at hd
    | cons s x =>
      obtain ⟨V, M, h1, h2, h3⟩ := denl_cons.1 hd
      injection h3 with h3 h4
      refine ⟨fun s' hs' => ?_, fun hh => by simp at hh⟩
      simp at hs'; subst hs'
      exact ⟨_, rfl, by rw [h3]; exact h1⟩

theorem xs_sound {P : Program} {D : Dat} (hL : LOK P D) (o : Oper) {hp : Heap} {t : Tmps} {d : Option Dir} {v : SV} {obs : List Prop} (h : xs P D hp t d o.op = some (v, obs)) (ho : All obs)
    {ρ : Env} {a : Act} (ag : Agree ρ t a.tmps) {W0 : World} {S : Nat → Prop} {W : World} (s : Sat W0 S ρ hp W) :
    ∃ V, den ρ v = some V ∧ (execOp a.eval o).run P W = .ok (.value V) W := by
  by_cases h1 : ∃ ty ps, o.op = .build ty ps
  · obtain ⟨ty, ps, hop⟩ := h1
    rw [hop] at h; simp only [xs] at h
    split at h
    · rename_i l hl
      obtain ⟨k1, k2⟩ := pairs_den ag hl
      have h := (addO_some h).1
      obtain ⟨V, h2, h3⟩ := xbuild_run h (Ps := ps.map fun (i, x) => (i, a.eval x)) (by simpa using k1) (by simpa using k2) W
      exact ⟨V, h2, by simp [execOp, hop, h3]⟩
    · cases h
  · by_cases h2 : ∃ ty x lo hi mx, o.op = .slice ty x lo hi mx
    · obtain ⟨ty, x, lo, hi, mx, hop⟩ := h2
      rw [hop] at h; simp only [xs] at h
      split at h
      · rename_i u b1 b2 b3 hu e1 e2 e3
        obtain ⟨p1, p2⟩ := opt_den ag e1
        obtain ⟨q1, q2⟩ := opt_den ag e2
        obtain ⟨r1, r2⟩ := opt_den ag e3
        obtain ⟨V, h3, h4⟩ := xslice_run h ho s (ev_den ag hu) p1 p2 q1 q2 r1 r2
        exact ⟨V, h3, by simp [execOp, hop, h4]⟩
      · cases h
    · by_cases h4 : ∃ f args ats, o.op = .call ⟨.value (.func f), args, ats⟩
      · obtain ⟨f, args, ats, hop⟩ := h4
        rw [hop] at h; simp only [xs] at h
        split at h
        · rename_i l hl
          have hd := evs_den ag hl
          obtain ⟨v', h, hvv⟩ := hard2_some h
          rw [hvv]
          rw [← denl_soft] at hd
          generalize softL l = ls at h hd
          unfold xext at h
          split at h
          · rename_i x y c
            have hargs : args.map a.eval = #[.int .u64 x, .int .u64 y, .int .u64 c] := by
              apply Array.ext'
              simp only [denl, den, Option.bind_some, Option.map_some, Option.some.injEq] at hd
              simp [← hd]
            split at h
            case h_2 => cases h
            rename_i oc hchk
            split at h
            · rename_i he
              simp only [Option.some.injEq, Prod.mk.injEq] at h
              obtain ⟨rfl, rfl⟩ := h
              have := hL.add f he x y c W (chk_ok hchk ho)
              refine ⟨_, rfl, ?_⟩
              simp only [execOp, hop, resolve, Act.eval, Deferred.ofValue, Sem.run_bind, Sem.run_pure, Result.andThen_ok, invoke, hargs, Array.empty_append, Array.append_empty, this]
            · rename_i he
              simp only [Option.some.injEq, Prod.mk.injEq] at h
              obtain ⟨rfl, rfl⟩ := h
              have := hL.sub f he x y c W (chk_ok hchk ho)
              refine ⟨_, rfl, ?_⟩
              simp only [execOp, hop, resolve, Act.eval, Deferred.ofValue, Sem.run_bind, Sem.run_pure, Result.andThen_ok, invoke, hargs, Array.empty_append, Array.append_empty, this]
            · cases h
          · cases h
        · cases h
      · refine xq_sound (D := D) (hp := hp) (t := t) (d := d) hL o ?_ ho ag s
        rw [← h]
        cases hop : o.op <;> first | rfl | (rename_i c; obtain ⟨cl, ar, at'⟩ := c; cases cl <;> first | rfl | (rename_i x; cases x <;> first | rfl | (exfalso; exact h4 ⟨_, _, _, hop⟩))) | (exfalso; exact h1 ⟨_, _, hop⟩) | (exfalso; exact h2 ⟨_, _, _, _, _, hop⟩)

/-- What is read by name alone decides. -/
theorem xs_reads {P : Program} {D : Dat} {h h' : Heap} {t : Tmps} {d : Option Dir} {op : Op} (hr : ∀ j ∈ rds t op, get h j = get h' j) : xs P D h t d op = xs P D h' t d op := by
  cases op <;> try rfl
  case makeFunc fn a b => cases fn <;> rfl
  case load ty x =>
    simp only [xs, xq]
    simp only [rds, rdq] at hr
    split
    · rename_i j off hx
      rw [hx] at hr
      rw [hr j (by simp)]
    · rfl
  case indexAddr ty x i =>
    simp only [xs, xq]
    simp only [rds, rdq] at hr
    split
    · rename_i u w hx hy
      rw [hx] at hr
      have e1 : ∀ w, xia2 P h ty u w = xia2 P h' ty u w := by
        intro w
        unfold xia2
        split
        · rw [hr _ (by simp)]
        · rfl
      rw [e1, e1]
    · rfl
  case slice ty x lo hi mx =>
    simp only [xs]
    simp only [rds] at hr
    split
    · rename_i v b1 b2 b3 hv _ _ _
      rw [hv] at hr
      unfold xslice
      split
      · rfl
      · split
        · rfl
        · rw [hr _ (by simp)]
        · rfl
        · rfl
      · rfl
    · rfl
  case call c =>
    obtain ⟨callee, args, ats⟩ := c
    cases callee with
    | value x => cases x <;> rfl
    | invoke x n => rfl
    | builtin b =>
    cases b <;> try rfl
    simp only [xs, xq]
    simp only [rds, rdq] at hr
    split
    · rename_i ty x h1 h2
      rw [h2] at hr
      simp only at hr
      split
      · rename_i a ha
        rw [ha] at hr
        congr 1
        unfold xlen2
        split
        · rw [hr _ (by simp)]
        · rfl
      · rfl
    · rfl
end Go.Sx
