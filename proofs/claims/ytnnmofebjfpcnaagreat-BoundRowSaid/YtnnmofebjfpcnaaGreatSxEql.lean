/- Part of an executor of given code on symbolic values, with its proof of soundness: what is proved stands in each theorem. -/
import Derived.Test.YtnnmofebjfpcnaaGreatSxFront
import Derived.Laws.StructEq
import Derived.ChangeKeysEq
import Derived.DeepKeys
set_option linter.unusedVariables false
set_option linter.unusedSimpArgs false

namespace Go.Sx
open Go.RowKit

abbrev Sh := List (Option IntKind)
def repS (n : Nat) (s : Sh) : Sh := match n with
  | 0 => []
  | n + 1 => s ++ repS n s
def shF (P : Program) (sh : TypeId → Option Sh) : List Field → Nat → Option Sh
  | [], _ => some []
  | f :: fs, off => if f.name ≠ "_" ∧ f.offset = off then (match sh f.type, sizeT P f.type with
      | some s, some z => if s.length = z then (match shF P sh fs (off + z) with | some r => some (s ++ r) | none => none) else none
      | _, _ => none) else none
def shT (P : Program) : Nat → TypeId → Option Sh
  | 0, _ => none
  | d + 1, t => match P.underlying t with
    | some .bool => some [none]
    | some (.int k) => some [some k]
    | some (.struct fs) => if P.stoodInHeld t then none else shF P (shT P d) fs.toList 0
    | some (.array n e) => (match shT P d e, sizeT P e with
      | some s, some z => if s.length = z then some (repS n s) else none
      | _, _ => none)
    | _ => none

theorem fitV_length : ∀ {s : Sh} {l : List Value}, fitV s l = true → l.length = s.length
  | [], [], _ => rfl
  | [], v :: l, h => by simp [fitV] at h
  | some k :: s, [], h => by simp [fitV] at h
  | none :: s, [], h => by simp [fitV] at h
  | some k :: s, v :: l, h => by
    cases v <;> first | (simp [fitV] at h; done) | skip
    simp only [fitV, Bool.and_eq_true] at h
    simp [fitV_length h.2]
  | none :: s, v :: l, h => by
    cases v <;> first | (simp [fitV] at h; done) | skip
    simp only [fitV] at h
    simp [fitV_length h]
theorem fitV_split : ∀ {s r : Sh} {l : List Value}, fitV (s ++ r) l = true → fitV s (l.take s.length) = true ∧ fitV r (l.drop s.length) = true
  | [], r, l, h => by simpa using ⟨rfl, h⟩
  | some k :: s, r, [], h => by simp [fitV] at h
  | none :: s, r, [], h => by simp [fitV] at h
  | some k :: s, r, v :: l, h => by
    cases v <;> first | (simp [fitV] at h; done) | skip
    simp only [List.cons_append, fitV, Bool.and_eq_true] at h
    obtain ⟨h1, h2⟩ := fitV_split h.2
    simp only [List.length_cons, List.take_succ_cons, List.drop_succ_cons, fitV, Bool.and_eq_true]
    exact ⟨⟨h.1, h1⟩, h2⟩
  | none :: s, r, v :: l, h => by
    cases v <;> first | (simp [fitV] at h; done) | skip
    simp only [List.cons_append, fitV] at h
    obtain ⟨h1, h2⟩ := fitV_split h
    simp only [List.length_cons, List.take_succ_cons, List.drop_succ_cons, fitV]
    exact ⟨h1, h2⟩
theorem eqV_ex : ∀ {s : Sh} {l m : List Value}, fitV s l = true → fitV s m = true → ∃ b, eqV l m = some b
  | [], [], [], _, _ => ⟨true, rfl⟩
  | [], [], u :: m, _, k => by simp [fitV] at k
  | [], v :: l, m, h, _ => by simp [fitV] at h
  | some q :: s, [], m, h, _ => by simp [fitV] at h
  | none :: s, [], m, h, _ => by simp [fitV] at h
  | some q :: s, v :: l, [], h, k => by simp [fitV] at k
  | none :: s, v :: l, [], h, k => by simp [fitV] at k
  | some q :: s, v :: l, u :: m, h, k => by
    cases v <;> first | (simp [fitV] at h; done) | skip
    cases u <;> first | (simp [fitV] at k; done) | skip
    simp only [fitV, Bool.and_eq_true, decide_eq_true_eq] at h k
    obtain ⟨b, hb⟩ := eqV_ex h.2 k.2
    simp only [eqV, hb]
    rw [if_pos (by rw [← h.1, ← k.1])]
    exact ⟨_, rfl⟩
  | none :: s, v :: l, u :: m, h, k => by
    cases v <;> first | (simp [fitV] at h; done) | skip
    cases u <;> first | (simp [fitV] at k; done) | skip
    simp only [fitV] at h k
    obtain ⟨b, hb⟩ := eqV_ex h k
    simp only [eqV, hb]
    exact ⟨_, rfl⟩
theorem eqV_split : ∀ {s : Sh} {l m : List Value} {l2 m2 : List Value} {b1 b2 : Bool}, fitV s l = true → fitV s m = true → eqV l m = some b1 → eqV l2 m2 = some b2 → eqV (l ++ l2) (m ++ m2) = some (b1 && b2)
  | [], [], [], l2, m2, b1, b2, _, _, e1, e2 => by simp [eqV] at e1; subst e1; simpa using e2
  | [], [], u :: m, _, _, _, _, _, k, _, _ => by simp [fitV] at k
  | [], v :: l, m, _, _, _, _, h, _, _, _ => by simp [fitV] at h
  | some q :: s, [], m, _, _, _, _, h, _, _, _ => by simp [fitV] at h
  | none :: s, [], m, _, _, _, _, h, _, _, _ => by simp [fitV] at h
  | some q :: s, v :: l, [], _, _, _, _, h, k, _, _ => by simp [fitV] at k
  | none :: s, v :: l, [], _, _, _, _, h, k, _, _ => by simp [fitV] at k
  | some q :: s, v :: l, u :: m, l2, m2, b1, b2, h, k, e1, e2 => by
    cases v <;> first | (simp [fitV] at h; done) | skip
    cases u <;> first | (simp [fitV] at k; done) | skip
    rename_i k1 n1 k2 n2
    simp only [fitV, Bool.and_eq_true, decide_eq_true_eq] at h k
    obtain ⟨b, hb⟩ := eqV_ex h.2 k.2
    have hk : k1 = k2 := by rw [← h.1, ← k.1]
    simp only [eqV, hb, if_pos hk, Option.some.injEq] at e1
    subst e1
    have ih := eqV_split h.2 k.2 hb e2
    simp only [List.cons_append, eqV, ih, if_pos hk, Bool.and_assoc]
  | none :: s, v :: l, u :: m, l2, m2, b1, b2, h, k, e1, e2 => by
    cases v <;> first | (simp [fitV] at h; done) | skip
    cases u <;> first | (simp [fitV] at k; done) | skip
    simp only [fitV] at h k
    obtain ⟨b, hb⟩ := eqV_ex h k
    simp only [eqV, hb, Option.some.injEq] at e1
    subst e1
    have ih := eqV_split h k hb e2
    simp only [List.cons_append, eqV, ih, Bool.and_assoc]

/-- a value of cells -/
def valT (P : Program) (t : TypeId) (l : List Value) : Value :=
  match isAggT P t with
  | some true => .agg l.toArray
  | _ => l.headD undef
theorem part_val {P : Program} {t : TypeId} {s : Sh} {d : Nat} (hsh : shT P d t = some s) (hz : sizeT P t = some s.length) (XS : Array Value) (off : Nat) (hf : fitV s ((XS.toList.drop off).take s.length) = true) (W : World) :
    (part t XS off).run P W = .ok (valT P t ((XS.toList.drop off).take s.length)) W := by
  cases d with
  | zero => simp [shT] at hsh
  | succ d =>
    simp only [shT] at hsh
    split at hsh
    · rename_i hu
      simp at hsh; subst hsh
      have ha : isAggT P t = some false := by simp [isAggT, hu]
      have hrun := isAggT_run ha W
      have := fitV_length hf
      simp only [List.length_take, List.length_drop, List.length_singleton, Array.length_toList] at this
      have hlt : off < XS.size := by omega
      have e1 : (XS.toList.drop off).take 1 = [XS[off]] := by
        rw [List.drop_eq_getElem_cons (by simpa using hlt)]; simp
      simp [part, hrun, valT, ha, e1, hlt]
    · rename_i k hu
      simp at hsh; subst hsh
      have ha : isAggT P t = some false := by simp [isAggT, hu]
      have hrun := isAggT_run ha W
      have := fitV_length hf
      simp only [List.length_take, List.length_drop, List.length_singleton, Array.length_toList] at this
      have hlt : off < XS.size := by omega
      have e1 : (XS.toList.drop off).take 1 = [XS[off]] := by
        rw [List.drop_eq_getElem_cons (by simpa using hlt)]; simp
      simp [part, hrun, valT, ha, e1, hlt]
    · rename_i fs hu
      have ha : isAggT P t = some true := by simp [isAggT, hu]
      have hrun := isAggT_run ha W
      have hrun2 := sizeT_run hz W
      simp only [part, Sem.run_bind, hrun, Result.andThen_ok, if_true, hrun2, Sem.run_pure, valT, ha]
      congr 2
      apply Array.ext'
      rw [Array.toList_extract, List.extract_eq_take_drop]
      simp
    · rename_i n e hu
      have ha : isAggT P t = some true := by simp [isAggT, hu]
      have hrun := isAggT_run ha W
      have hrun2 := sizeT_run hz W
      simp only [part, Sem.run_bind, hrun, Result.andThen_ok, if_true, hrun2, Sem.run_pure, valT, ha]
      congr 2
      apply Array.ext'
      rw [Array.toList_extract, List.extract_eq_take_drop]
      simp
    · cases hsh

def EqS (P : Program) (c : Nat) (t : TypeId) (s : Sh) : Prop :=
  ∀ (xs ys : List Value) (b : Bool) (W : World), fitV s xs = true → fitV s ys = true → eqV xs ys = some b → (Op.equalIn c t (valT P t xs) (valT P t ys)).run P W = .ok b W

theorem eqF_run {P : Program} {c d : Nat} (hIH : ∀ t s, shT P d t = some s → EqS P c t s) (XS YS : Array Value) : ∀ (fs : List Field) (off : Nat) (s : Sh) (b : Bool) (W : World), shF P (shT P d) fs off = some s →
    fitV s (XS.toList.drop off) = true → fitV s (YS.toList.drop off) = true → eqV (XS.toList.drop off) (YS.toList.drop off) = some b → (Op.eqFields c XS YS fs).run P W = .ok b W
  | [], off, s, b, W, h, hx, hy, he => by
    simp [shF] at h; subst h
    have h1 := fitV_length hx
    have h2 := fitV_length hy
    rw [List.eq_nil_of_length_eq_zero h1, List.eq_nil_of_length_eq_zero h2] at he
    simp [eqV] at he; subst he
    simp [Op.eqFields]
  | f :: fs, off, s, b, W, h, hx, hy, he => by
    simp only [shF] at h
    split at h
    · rename_i hc
      split at h
      · rename_i s1 z hs1 hz
        split at h
        · rename_i hsz
          subst hsz
          split at h
          · rename_i r hr
            simp only [Option.some.injEq] at h; subst h
            obtain ⟨x1, x2⟩ := fitV_split hx
            obtain ⟨y1, y2⟩ := fitV_split hy
            rw [List.drop_drop] at x2 y2
            obtain ⟨b1, hb1⟩ := eqV_ex x1 y1
            obtain ⟨b2, hb2⟩ := eqV_ex x2 y2
            have hsplit := eqV_split x1 y1 hb1 hb2
            have ex : (XS.toList.drop off).take s1.length ++ XS.toList.drop (off + s1.length) = XS.toList.drop off := by
              rw [← List.drop_drop]; exact List.take_append_drop _ _
            have ey : (YS.toList.drop off).take s1.length ++ YS.toList.drop (off + s1.length) = YS.toList.drop off := by
              rw [← List.drop_drop]; exact List.take_append_drop _ _
            rw [ex, ey, he] at hsplit
            injection hsplit with hsplit
            have p1 := part_val hs1 hz XS off x1 W
            have p2 := part_val hs1 hz YS off y1 W
            have p3 := hIH _ _ hs1 _ _ b1 W x1 y1 hb1
            have p4 := eqF_run hIH XS YS fs (off + s1.length) r b2 W hr x2 y2 hb2
            rw [← hc.2] at p1 p2
            simp only [Op.eqFields, if_pos hc.1, Sem.run_bind]
            rw [p1]
            simp only [Result.andThen_ok]
            rw [p2]
            simp only [Result.andThen_ok]
            rw [hc.2]
            rw [p3]
            simp only [Result.andThen_ok]
            subst hsplit
            cases b1
            · simp
            · simpa using p4
          · cases h
        · cases h
      · cases h
    · cases h

theorem eqI_run {P : Program} {c d : Nat} {e : TypeId} {s : Sh} (hs : shT P d e = some s) (hz : sizeT P e = some s.length) (hIH : EqS P c e s) (XS YS : Array Value) : ∀ (n i : Nat) (b : Bool) (W : World),
    fitV (repS n s) (XS.toList.drop (i * s.length)) = true → fitV (repS n s) (YS.toList.drop (i * s.length)) = true → eqV (XS.toList.drop (i * s.length)) (YS.toList.drop (i * s.length)) = some b → (Op.eqItems c e s.length XS YS (List.range' i n)).run P W = .ok b W
  | 0, i, b, W, hx, hy, he => by
    have h1 := fitV_length hx
    have h2 := fitV_length hy
    rw [List.eq_nil_of_length_eq_zero h1, List.eq_nil_of_length_eq_zero h2] at he
    simp [eqV] at he; subst he
    simp [Op.eqItems]
  | n + 1, i, b, W, hx, hy, he => by
    obtain ⟨x1, x2⟩ := fitV_split hx
    obtain ⟨y1, y2⟩ := fitV_split hy
    rw [List.drop_drop] at x2 y2
    have e0 : i * s.length + s.length = (i + 1) * s.length := by rw [Nat.add_mul, Nat.one_mul]
    rw [e0] at x2 y2
    obtain ⟨b1, hb1⟩ := eqV_ex x1 y1
    obtain ⟨b2, hb2⟩ := eqV_ex x2 y2
    have hsplit := eqV_split x1 y1 hb1 hb2
    have ex : (XS.toList.drop (i * s.length)).take s.length ++ XS.toList.drop ((i + 1) * s.length) = XS.toList.drop (i * s.length) := by
      rw [← e0, ← List.drop_drop]; exact List.take_append_drop _ _
    have ey : (YS.toList.drop (i * s.length)).take s.length ++ YS.toList.drop ((i + 1) * s.length) = YS.toList.drop (i * s.length) := by
      rw [← e0, ← List.drop_drop]; exact List.take_append_drop _ _
    rw [ex, ey, he] at hsplit
    injection hsplit with hsplit
    have p1 := part_val hs hz XS (i * s.length) x1 W
    have p2 := part_val hs hz YS (i * s.length) y1 W
    have p3 := hIH _ _ b1 W x1 y1 hb1
    have p4 := eqI_run hs hz hIH XS YS n (i + 1) b2 W x2 y2 hb2
    rw [List.range'_succ]
    simp only [Op.eqItems, Sem.run_bind, p1, p2, p3, Result.andThen_ok]
    subst hsplit
    cases b1
    · simp
    · simpa using p4

theorem shT_eq {P : Program} : ∀ (d c : Nat) (t : TypeId) (s : Sh), shT P d t = some s → EqS P (c + d) t s
  | 0, c, t, s, h => by simp [shT] at h
  | d + 1, c, t, s, h => by
    intro xs ys b W hx hy he
    have hsh := h
    simp only [shT] at h
    split at h
    · rename_i hu
      simp at h; subst h
      have ha : isAggT P t = some false := by simp [isAggT, hu]
      cases xs with
      | nil => simp [fitV] at hx
      | cons v xs =>
        cases ys with
        | nil => simp [fitV] at hy
        | cons u ys =>
          cases v <;> first | (simp [fitV] at hx; done) | skip
          cases u <;> first | (simp [fitV] at hy; done) | skip
          simp only [fitV] at hx hy
          cases xs <;> simp [fitV] at hx
          cases ys <;> simp [fitV] at hy
          simp [eqV] at he
          subst he
          rw [show c + (d + 1) = (c + d) + 1 from rfl]
          simpa [valT, ha] using run_equalIn_bool' W (c + d) t _ _ hu
    · rename_i k hu
      simp at h; subst h
      have ha : isAggT P t = some false := by simp [isAggT, hu]
      cases xs with
      | nil => simp [fitV] at hx
      | cons v xs =>
        cases ys with
        | nil => simp [fitV] at hy
        | cons u ys =>
          cases v <;> first | (simp [fitV] at hx; done) | skip
          cases u <;> first | (simp [fitV] at hy; done) | skip
          simp only [fitV, Bool.and_eq_true, decide_eq_true_eq] at hx hy
          obtain ⟨hk1, hx⟩ := hx
          obtain ⟨hk2, hy⟩ := hy
          subst hk1; subst hk2
          cases xs <;> simp [fitV] at hx
          cases ys <;> simp [fitV] at hy
          simp [eqV] at he
          subst he
          rw [show c + (d + 1) = (c + d) + 1 from rfl]
          simpa [valT, ha] using run_equalIn_int W (c + d) t k k _ _ hu
    · rename_i fs hu
      split at h
      · cases h
      · rename_i hst
        have ha : isAggT P t = some true := by simp [isAggT, hu]
        have hf : P.fieldsOf t = fs := by simp [Program.fieldsOf, hu]
        have hst' : P.stoodInHeld t = false := by simpa using hst
        rw [show c + (d + 1) = (c + d) + 1 from rfl]
        simp only [valT, ha]
        rw [run_equalIn_struct W (c + d) t _ _ (by rw [hf]; exact hu) hst', hf]
        exact eqF_run (fun t s hs => shT_eq d c t s hs) xs.toArray ys.toArray fs.toList 0 s b W h (by simpa using hx) (by simpa using hy) (by simpa using he)
    · rename_i n e hu
      split at h
      · rename_i s1 z hs1 hz
        split at h
        · rename_i hsz
          subst hsz
          simp only [Option.some.injEq] at h; subst h
          have ha : isAggT P t = some true := by simp [isAggT, hu]
          have hi : ∃ i, P.info? e = some i ∧ i.size = s1.length := by
            unfold sizeT at hz
            cases hi : P.info? e with
            | none => simp [hi] at hz
            | some i => simp [hi] at hz; exact ⟨i, rfl, hz⟩
          obtain ⟨i, hi, hi2⟩ := hi
          have hc : P.cellsOf e = s1.length := by simp [Program.cellsOf, hi, hi2]
          rw [show c + (d + 1) = (c + d) + 1 from rfl]
          simp only [valT, ha]
          rw [run_equalIn_array W (c + d) _ _ hu hi, hc, List.range_eq_range']
          exact eqI_run hs1 hz (shT_eq d c e s1 hs1) xs.toArray ys.toArray n 0 b W (by simpa using hx) (by simpa using hy) (by simpa using he)
        · cases h
      · cases h
    · cases h

/-- '==' and '!=' between values of a flat type. -/
theorem flat_eql {P : Program} {t : TypeId} {s : Sh} {d : Nat} (hd : d ≤ 9000) (h : shT P d t = some s) (ha : isAggT P t = some true) (hg : P.eqGuardType P.depth t = false) (xs ys : List Value) (b : Bool) (x y : Operand) (W : World) (hx : fitV s xs = true) (hy : fitV s ys = true) (he : eqV xs ys = some b) :
    (do eqGuard .eql t x y (.agg xs.toArray) (.agg ys.toArray); binOp .eql t (.agg xs.toArray) (.agg ys.toArray) : Sem Value).run P W = .ok (.bool b) W ∧
    (do eqGuard .neq t x y (.agg xs.toArray) (.agg ys.toArray); binOp .neq t (.agg xs.toArray) (.agg ys.toArray) : Sem Value).run P W = .ok (.bool !b) W := by
  have h1 := shT_eq d (10000 - d) t s h xs ys b W hx hy he
  rw [show 10000 - d + d = 10000 from by omega] at h1
  simp only [valT, ha] at h1
  constructor
  · simp only [Sem.run_bind, run_eqGuard_agg W .eql t x y _ _ hg, Result.andThen_ok, run_eql_struct, h1]
  · simp only [Sem.run_bind, run_eqGuard_agg W .neq t x y _ _ hg, Result.andThen_ok, run_neq_struct, h1]
end Go.Sx
