/- Part of an executor of given code on symbolic values, with its proof of soundness: what is proved stands in each theorem. -/
import Derived.Test.YtnnmofebjfpcnaaGreatSxWorld
import Derived.Deep.AppendSrc
set_option linter.unusedVariables false
set_option linter.unusedSimpArgs false

namespace Go.Sx
open Go.RowKit

def All : List Prop → Prop
  | [] => True
  | p :: ps => p ∧ All ps

theorem All_append : ∀ {a b : List Prop}, All (a ++ b) ↔ All a ∧ All b
  | [], b => by simp [All]
  | p :: a, b => by simp [All, All_append (a := a), and_assoc]

theorem chk_ok {kn : Bool} {p : Prop} [Decidable p] {o : List Prop} (h : chk kn p = some o) (ho : All o) : p := by
  unfold chk at h
  cases kn with
  | true =>
    simp only [cond_true] at h
    split at h
    · assumption
    · cases h
  | false =>
    simp only [cond_false, Option.some.injEq] at h; subst h
    exact ho.1

abbrev Tmps := List (Option SV)
def tget : Tmps → Nat → Option SV
  | [], _ => none
  | v :: _, 0 => v
  | _ :: l, n + 1 => tget l n
def tset : Tmps → Nat → Option SV → Tmps
  | [], _, _ => []
  | _ :: l, 0, v => v :: l
  | u :: l, n + 1, v => u :: tset l n v

theorem tset_length : ∀ (t : Tmps) (n : Nat) (v : Option SV), (tset t n v).length = t.length
  | [], _, _ => rfl
  | _ :: _, 0, _ => rfl
  | _ :: l, n + 1, v => by simp [tset, tset_length l n v]
theorem tget_tset : ∀ (t : Tmps) (n : Nat) (v : Option SV) (i : Nat), tget (tset t n v) i = if i = n ∧ n < t.length then v else tget t i
  | [], n, v, i => by simp [tset, tget]
  | u :: l, 0, v, i => by cases i <;> simp [tset, tget]
  | u :: l, n + 1, v, i => by
    cases i with
    | zero => simp [tset, tget]
    | succ i => simp [tset, tget, tget_tset l n v i]
theorem tget_lt : ∀ (t : Tmps) (i : Nat) (v : SV), tget t i = some v → i < t.length
  | [], i, v, h => by simp [tget] at h
  | u :: l, 0, v, h => by simp
  | u :: l, i + 1, v, h => by have := tget_lt l i v (by simpa [tget] using h); simp; omega

structure Agree (ρ : Env) (t : Tmps) (tm : Array Value) : Prop where
  len : t.length = tm.size
  val : ∀ i v, tget t i = some v → den ρ v = some (tm.getD i undef)

def ev (t : Tmps) : Operand → Option SV
  | .tmp i => tget t i
  | .const v => lift v
  | .func f => some (.fn f [] [])
  | .global _ => none

theorem ev_den {ρ : Env} {t : Tmps} {a : Act} (ag : Agree ρ t a.tmps) {x : Operand} {v : SV} (h : ev t x = some v) : den ρ v = some (a.eval x) := by
  cases x with
  | tmp i => exact ag.val i v h
  | const c => exact den_lift ρ c v h
  | func f => simp [ev] at h; subst h; rfl
  | «global» g => simp [ev] at h

theorem Agree.le {ρ ρ' : Env} {t : Tmps} {tm : Array Value} (h : Agree ρ t tm) (hl : Env.le ρ ρ') : Agree ρ' t tm :=
  ⟨h.len, fun i v e => den_le hl _ _ (h.val i v e)⟩

theorem Agree.put {ρ : Env} {t : Tmps} {a : Act} (ag : Agree ρ t a.tmps) (d : Nat) {v : SV} {V : Value} (h : den ρ v = some V) :
    Agree ρ (tset t d (some v)) (a.put (some d) V).tmps := by
  refine ⟨by simp [tset_length, Act.put, ag.len], fun i u hu => ?_⟩
  rw [tget_tset] at hu
  simp only [Act.put]
  split at hu
  · rename_i hc
    injection hu with hu; subst hu
    rw [h]; congr 1
    rw [hc.1]
    have : d < a.tmps.size := by rw [← ag.len]; exact hc.2
    simp [Array.getD, this]
  · rename_i hc
    rw [ag.val i u hu]
    congr 1
    by_cases hid : i = d
    · subst hid
      have h1 := tget_lt t i u hu
      exact absurd ⟨rfl, h1⟩ hc
    · have h0 : ¬ d = i := fun hh => hid hh.symm
      simp [Array.getD_eq_getD_getElem?, Array.getElem?_setIfInBounds_ne h0]

theorem Agree.forget {ρ : Env} {t : Tmps} {a : Act} (ag : Agree ρ t a.tmps) (d : Nat) (V : Value) : Agree ρ (tset t d none) (a.put (some d) V).tmps := by
  refine ⟨by simp [tset_length, Act.put, ag.len], fun i u hu => ?_⟩
  rw [tget_tset] at hu
  simp only [Act.put]
  split at hu
  · cases hu
  · rename_i hc
    rw [ag.val i u hu]
    congr 1
    by_cases hid : i = d
    · subst hid
      have h1 := tget_lt t i u hu
      exact absurd ⟨rfl, h1⟩ hc
    · have h0 : ¬ d = i := fun hh => hid hh.symm
      simp [Array.getD_eq_getD_getElem?, Array.getElem?_setIfInBounds_ne h0]

/-! ## Types -/
def isAggT (P : Program) (t : TypeId) : Option Bool :=
  match P.underlying t with
  | some (.struct _) => some true
  | some (.array _ _) => some true
  | some _ => some false
  | none => none
def sizeT (P : Program) (t : TypeId) : Option Nat := match P.info? t with | some i => some i.size | none => none
def zeroT (P : Program) (t : TypeId) : Option SV := match P.info? t with | some i => (match i.zero with | some z => lift z | none => none) | none => none

theorem isAggT_run {P : Program} {t : TypeId} {b : Bool} (h : isAggT P t = some b) (W : World) : (isAgg t).run P W = .ok b W := by
  unfold isAggT at h
  cases hu : P.underlying t with
  | none => simp [hu] at h
  | some d =>
    rw [hu] at h
    simp only [isAgg]
    have := run_underlying hu W
    cases d <;> simp_all
theorem sizeT_run {P : Program} {t : TypeId} {n : Nat} (h : sizeT P t = some n) (W : World) : (sizeOf t).run P W = .ok n W := by
  unfold sizeT at h
  cases hi : P.info? t with
  | none => simp [hi] at h
  | some i => simp [hi] at h; subst h; simp [sizeOf, typeInfo, hi]
theorem zeroT_run {P : Program} {t : TypeId} {z : SV} (h : zeroT P t = some z) (ρ : Env) : ∃ Z, den ρ z = some Z ∧ ∀ W, (zeroValue t).run P W = .ok Z W := by
  unfold zeroT at h
  cases hi : P.info? t with
  | none => simp [hi] at h
  | some i =>
    simp only [hi] at h
    cases hz : i.zero with
    | none => simp [hz] at h
    | some Z =>
      simp only [hz] at h
      exact ⟨Z, den_lift ρ Z z h, fun W => by simp [zeroValue, typeInfo, hi, hz]⟩

/-! ## Cells -/
def SV.cells : SV → List SV
  | .agg l => l
  | v => [v]
theorem cells_den {ρ : Env} {v : SV} {V : Value} (h : den ρ v = some V) : denl ρ v.cells = some V.cells.toList := by
  have one : ∀ (u : SV), u.cells = [u] → (∀ A, V ≠ .agg A) → den ρ u = some V → denl ρ u.cells = some V.cells.toList := by
    intro u hu hV hd
    rw [hu]
    have : V.cells = #[V] := by cases V <;> first | rfl | exact absurd rfl (hV _)
    rw [this]
    exact denl_cons.2 ⟨V, [], hd, rfl, rfl⟩
  cases v with
  | agg l =>
    simp only [den, Option.map_eq_some_iff] at h
    obtain ⟨A, hA, rfl⟩ := h
    simpa [SV.cells, Value.cells] using hA
  | tup l =>
    refine one _ rfl ?_ h
    simp only [den, Option.map_eq_some_iff] at h
    obtain ⟨A, hA, rfl⟩ := h
    intro B hB; cases hB
  | int k n => exact one _ rfl (by simp [den] at h; subst h; simp) h
  | num k n => exact one _ rfl (by simp [den] at h; subst h; simp) h
  | bool b => exact one _ rfl (by simp [den] at h; subst h; simp) h
  | str s => exact one _ rfl (by simp [den] at h; subst h; simp) h
  | nilp => exact one _ rfl (by simp [den] at h; subst h; simp) h
  | nils => exact one _ rfl (by simp [den] at h; subst h; simp) h
  | nilI => exact one _ rfl (by simp [den] at h; subst h; simp) h
  | nilF => exact one _ rfl (by simp [den] at h; subst h; simp) h
  | ptr j off =>
    refine one _ rfl ?_ h
    simp only [den, Option.bind_eq_some_iff, Option.map_eq_some_iff] at h
    obtain ⟨l, _, a, _, rfl⟩ := h; simp
  | sl j off len cap =>
    refine one _ rfl ?_ h
    simp only [den, Option.bind_eq_some_iff, Option.map_eq_some_iff] at h
    obtain ⟨l, _, a, _, rfl⟩ := h; simp
  | rw j z lo len =>
    refine one _ rfl ?_ h
    simp only [den, Option.map_eq_some_iff] at h
    obtain ⟨l, _, rfl⟩ := h
    unfold Loc.row; split <;> simp
  | iface t v =>
    refine one _ rfl ?_ h
    simp only [den, Option.map_eq_some_iff] at h
    obtain ⟨x, _, rfl⟩ := h; simp
  | fn f a b =>
    refine one _ rfl ?_ h
    simp only [den, Option.bind_eq_some_iff, Option.map_eq_some_iff] at h
    obtain ⟨x, _, y, _, rfl⟩ := h; simp
  | mapp j =>
    refine one _ rfl ?_ h
    simp only [den, Option.bind_eq_some_iff, Option.map_eq_some_iff] at h
    obtain ⟨l, _, a, _, rfl⟩ := h; simp

def takeN : Nat → List SV → Option (List SV)
  | 0, _ => some []
  | _ + 1, [] => none
  | n + 1, v :: l => match takeN n l with | some m => some (v :: m) | none => none
theorem takeN_eq : ∀ (n : Nat) (l m : List SV), takeN n l = some m → m = l.take n ∧ n ≤ l.length
  | 0, l, m, h => by simp [takeN] at h; subst h; simp
  | n + 1, [], m, h => by simp [takeN] at h
  | n + 1, v :: l, m, h => by
    simp only [takeN] at h
    cases hk : takeN n l with
    | none => simp [hk] at h
    | some q =>
      simp [hk] at h
      subst h
      obtain ⟨h1, h2⟩ := takeN_eq n l q hk
      subst h1; simp; omega

def Ent.cells? : Ent → Option (List SV)
  | .own _ cs => some cs
  | .row _ _ cs => some cs
  | .ro _ cs => some cs
  | .mp _ => none
  | .dead => none

def Ent.zcells? : Ent → Option (Nat × List SV)
  | .row _ z cs => some (z, cs)
  | .ro z cs => some (z, cs)
  | _ => none
theorem Ent.zcap {ρ : Env} {W : World} {l : Loc} {e : Ent} {z : Nat} {cs : List SV} (h : e.ok ρ W l) (hc : e.zcells? = some (z, cs)) : e.cells? = some cs ∧ (∀ a, l.adr = some a → cs.length ≤ l.cap * z) ∧ (l.adr = none → cs = []) := by
  cases e with
  | row e z' cs' =>
    simp [Ent.zcells?] at hc; obtain ⟨rfl, rfl⟩ := hc
    obtain ⟨Vs, n, h1, h2, h3⟩ := h.ex
    have hl := denl_length h1
    refine ⟨rfl, fun a ha => ?_, fun ha => ?_⟩
    · rw [← hl, h3.1]
      rcases h3.2 with ⟨hv, _⟩ | ⟨g, cap, cur, hv, _, _, hn, _⟩
      · simp [Loc.val, ha] at hv
      · simp [Loc.val, ha] at hv
        rw [hv.2]; exact Nat.mul_le_mul_right _ hn
    · rcases h3.2 with ⟨_, hn⟩ | ⟨g, cap, cur, hv, _⟩
      · have := h3.1; rw [hn, Nat.zero_mul] at this
        exact List.eq_nil_of_length_eq_zero (by omega)
      · simp [Loc.val, ha] at hv
  | ro z' cs' =>
    simp [Ent.zcells?] at hc; obtain ⟨rfl, rfl⟩ := hc
    obtain ⟨Vs, h1, h2, h3, h4⟩ := h.ex
    refine ⟨rfl, fun a ha => h.cap, fun ha => ?_⟩
    cases cs' with
    | nil => rfl
    | cons c cs' =>
      obtain ⟨a, ha2⟩ := h3 (by simp)
      rw [ha] at ha2; cases ha2
  | _ => simp [Ent.zcells?] at hc

theorem Ent.reads {ρ : Env} {W : World} {l : Loc} {e : Ent} {cs : List SV} (h : e.ok ρ W l) (hc : e.cells? = some cs) :
    ∃ Vs, denl ρ cs = some Vs ∧ (∀ V ∈ Vs, V.oneCell' = true) ∧ (cs ≠ [] → ∃ a, l.adr = some a) ∧ ∀ a, l.adr = some a → ∀ (i : Nat) (V : Value), Vs[i]? = some V → W.cell? (a.add i) = some V := by
  cases e with
  | own e cs' =>
    simp [Ent.cells?] at hc; subst hc
    obtain ⟨b, Vs, h1, h2, h3, h4⟩ := h.ex
    refine ⟨Vs, h2, h4, fun _ => ⟨_, h1⟩, fun a ha i V hV => ?_⟩
    rw [h1] at ha; injection ha with ha; subst ha
    rw [Addr.add_lit, cell_of_row W b _ _ _ _ h3]
    simpa using hV
  | row e z cs' =>
    simp [Ent.cells?] at hc; subst hc
    obtain ⟨Vs, n, h1, h2, h3⟩ := h.ex
    refine ⟨Vs, h1, h2, fun hne => ?_, fun a ha i V hV => ?_⟩
    · cases hl : l.adr with
      | some a => exact ⟨a, rfl⟩
      | none =>
        exfalso
        have hl2 := denl_length h1
        rcases h3.2 with ⟨_, hn⟩ | ⟨g, cap, cur, hv, _⟩
        · have := h3.1; rw [hn, Nat.zero_mul] at this
          rw [this] at hl2
          exact hne (List.eq_nil_of_length_eq_zero hl2.symm)
        · simp [Loc.val, hl] at hv
    · have hb : (l.val n).ownBlock = some a.block := by rw [Loc.val_block]; simp [Loc.blk, ha]
      have := h3.cells hb i V hV
      have ha0 : a = ⟨a.block, 0, none⟩ := by
        rcases h3.2 with ⟨hv, _⟩ | ⟨g, cap, cur, hv, _⟩
        · simp [Loc.val, ha] at hv
        · simp [Loc.val, ha] at hv
          rw [hv.1]
      rw [ha0]; exact this
  | ro z cs' =>
    simp [Ent.cells?] at hc; subst hc
    obtain ⟨Vs, h1, h2, h3, h4⟩ := h.ex
    exact ⟨Vs, h1, h2, h3, fun a ha => (h4 a ha).2⟩
  | mp cs' => simp [Ent.cells?] at hc
  | dead => simp [Ent.cells?] at hc

/-- What is read: a value of type t at off. -/
def xcut (P : Program) (t : TypeId) (cs : List SV) (off : Nat) : Option SV :=
  match isAggT P t with
  | some true => (match sizeT P t with | some n => (match takeN n (cs.drop off) with | some l => some (.agg l) | none => none) | none => none)
  | some false => cs[off]?
  | none => none

theorem xcut_run {P : Program} {t : TypeId} {cs : List SV} {off : Nat} {v : SV} (h : xcut P t cs off = some v) {ρ : Env} {Vs : List Value} (hd : denl ρ cs = some Vs)
    {W : World} {a : Addr} (hr : ∀ (i : Nat) (V : Value), Vs[i]? = some V → W.cell? (a.add i) = some V) :
    ∃ V, den ρ v = some V ∧ (loadVar t (a.add off)).run P W = .ok V W := by
  unfold xcut at h
  cases hag : isAggT P t with
  | none => simp [hag] at h
  | some b =>
    cases b with
    | false =>
      simp only [hag] at h
      obtain ⟨V, h1, h2⟩ := denl_get hd off v h
      refine ⟨V, h1, ?_⟩
      have hrun := isAggT_run hag W
      simp [loadVar, hrun, hr off V h2]
    | true =>
      simp only [hag] at h
      cases hs : sizeT P t with
      | none => simp [hs] at h
      | some n =>
        simp only [hs] at h
        cases hk : takeN n (cs.drop off) with
        | none => simp [hk] at h
        | some l =>
          simp only [hk, Option.some.injEq] at h; subst h
          obtain ⟨h1, h2⟩ := takeN_eq _ _ _ hk
          have hdl := denl_take (denl_drop hd off) n
          rw [← h1] at hdl
          refine ⟨.agg ((Vs.drop off).take n).toArray, by simp [den, hdl], ?_⟩
          have hlen : ((Vs.drop off).take n).length = n := by
            have := denl_length (denl_drop hd off)
            rw [List.length_take, this]; omega
          have hl := run_loadCells_list (P := P) W (a.add off) ((Vs.drop off).take n) (fun j V hV => by
            rw [Addr.add_add]
            refine hr _ _ ?_
            rw [List.getElem?_take] at hV
            split at hV
            · simpa using hV
            · cases hV)
          rw [hlen] at hl
          have hrun := isAggT_run hag W
          have hrun2 := sizeT_run hs W
          simp [loadVar, hrun, hrun2, hl]

end Go.Sx
