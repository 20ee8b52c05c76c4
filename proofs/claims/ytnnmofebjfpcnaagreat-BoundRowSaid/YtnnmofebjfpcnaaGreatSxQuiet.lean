/- Part of an executor of given code on symbolic values, with its proof of soundness: what is proved stands in each theorem. -/
import Derived.Test.YtnnmofebjfpcnaaGreatSxOps
set_option linter.unusedVariables false
set_option linter.unusedSimpArgs false

namespace Go.Sx
open Go.RowKit

/-- What the executor is told of the program. -/
structure Dat where
  eqT : TypeId → Option (List (Option IntKind))     -- a flat type's cells: integers (of a kind), bools
  meth : TypeId → String → Option FuncId
  ext : FuncId → Nat      -- 1: math/bits.Add64; 2: math/bits.Sub64; 0: none

def eqV : List Value → List Value → Option Bool
  | [], [] => some true
  | .int k a :: l, .int k' b :: m => if k = k' then (match eqV l m with | some r => some ((a == b) && r) | none => none) else none
  | .bool a :: l, .bool b :: m => (match eqV l m with | some r => some ((a == b) && r) | none => none)
  | _, _ => none
def eqS : List SV → List SV → Option Bool
  | [], [] => some true
  | .int k a :: l, .int k' b :: m => if k = k' then (match eqS l m with | some r => some ((a == b) && r) | none => none) else none
  | .bool a :: l, .bool b :: m => (match eqS l m with | some r => some ((a == b) && r) | none => none)
  | _, _ => none

def fitV : List (Option IntKind) → List Value → Bool
  | [], [] => true
  | some k :: s, .int k' _ :: l => decide (k = k') && fitV s l
  | none :: s, .bool _ :: l => fitV s l
  | _, _ => false
def fitS : List (Option IntKind) → List SV → Bool
  | [], [] => true
  | some k :: s, .int k' _ :: l => decide (k = k') && fitS s l
  | none :: s, .bool _ :: l => fitS s l
  | _, _ => false
theorem fitS_den {ρ : Env} : ∀ (s : List (Option IntKind)) (l : List SV) (L : List Value), fitS s l = true → denl ρ l = some L → fitV s L = true
  | [], [], L, _, h => by rw [denl_nil.1 h]; rfl
  | [], v :: l, L, h, _ => by simp [fitS] at h
  | some k :: s, [], L, h, _ => by simp [fitS] at h
  | none :: s, [], L, h, _ => by simp [fitS] at h
  | some k :: s, v :: l, L, h, hd => by
    cases v <;> first
      | (simp [fitS] at h; done)
      | skip
    obtain ⟨V, M, hv, hm, rfl⟩ := denl_cons.1 hd
    simp [den] at hv; subst hv
    simp only [fitS, Bool.and_eq_true] at h
    simp only [fitV, Bool.and_eq_true]
    exact ⟨h.1, fitS_den s l M h.2 hm⟩
  | none :: s, v :: l, L, h, hd => by
    cases v <;> first
      | (simp [fitS] at h; done)
      | skip
    obtain ⟨V, M, hv, hm, rfl⟩ := denl_cons.1 hd
    simp [den] at hv; subst hv
    simp only [fitS] at h
    simp only [fitV]
    exact fitS_den s l M h hm

structure LOK (P : Program) (D : Dat) : Prop where
  mixed : P.follows .mixedOrders = true
  name : ∀ (f : Nat) (fn : Func), P.funcs[f]? = some fn → (fn.name == "runtime.NumGoroutine") = false
  eql : ∀ t sh, D.eqT t = some sh → ∀ xs ys b x y W, fitV sh xs = true → fitV sh ys = true → eqV xs ys = some b →
    (do eqGuard .eql t x y (.agg xs.toArray) (.agg ys.toArray); binOp .eql t (.agg xs.toArray) (.agg ys.toArray) : Sem Value).run P W = .ok (.bool b) W ∧
    (do eqGuard .neq t x y (.agg xs.toArray) (.agg ys.toArray); binOp .neq t (.agg xs.toArray) (.agg ys.toArray) : Sem Value).run P W = .ok (.bool !b) W
  add : ∀ f, D.ext f = 1 → ∀ (x y c : Int) W, c.toNat ≤ 1 → (callFunc f #[.int .u64 x, .int .u64 y, .int .u64 c]).run P W =
    .ok (.value (.tuple #[.int .u64 (Int.ofNat ((x.toNat + y.toNat + c.toNat) % 18446744073709551616)), .int .u64 (Int.ofNat ((x.toNat + y.toNat + c.toNat) / 18446744073709551616))])) W
  sub : ∀ f, D.ext f = 2 → ∀ (x y c : Int) W, c.toNat ≤ 1 → (callFunc f #[.int .u64 x, .int .u64 y, .int .u64 c]).run P W =
    .ok (.value (.tuple #[.int .u64 (Int.ofNat ((x.toNat + 18446744073709551616 - y.toNat - c.toNat) % 18446744073709551616)), .int .u64 (Int.ofNat (if x.toNat < y.toNat + c.toNat then 1 else 0))])) W
  meth : ∀ t name f, D.meth t name = some f → ∀ v W, (method (P.types.size + Made.depth) t v name).run P W = .ok (f, v) W

theorem go_int (ρ : Env) (k k' : IntKind) (a c : Int) (l m : List SV) (b : Bool) (L M : List Value) (h : eqS (.int k a :: l) (.int k' c :: m) = some b)
    (h1 : denl ρ (.int k a :: l) = some L) (h2 : denl ρ (.int k' c :: m) = some M)
    (ih : ∀ (b : Bool) (L M : List Value), eqS l m = some b → denl ρ l = some L → denl ρ m = some M → eqV L M = some b) : eqV L M = some b := by
  obtain ⟨V, L', hv, hl, rfl⟩ := denl_cons.1 h1
  obtain ⟨U, M', hu, hm, rfl⟩ := denl_cons.1 h2
  simp [den] at hv hu; subst hv; subst hu
  simp only [eqS, eqV] at h ⊢
  split at h
  · rename_i hk
    rw [if_pos hk]
    cases hr : eqS l m with
    | none => simp [hr] at h
    | some r => rw [ih r L' M' hr hl hm]; simpa [hr] using h
  · cases h
theorem go_bool (ρ : Env) (a c : Bool) (l m : List SV) (b : Bool) (L M : List Value) (h : eqS (.bool a :: l) (.bool c :: m) = some b)
    (h1 : denl ρ (.bool a :: l) = some L) (h2 : denl ρ (.bool c :: m) = some M)
    (ih : ∀ (b : Bool) (L M : List Value), eqS l m = some b → denl ρ l = some L → denl ρ m = some M → eqV L M = some b) : eqV L M = some b := by
  obtain ⟨V, L', hv, hl, rfl⟩ := denl_cons.1 h1
  obtain ⟨U, M', hu, hm, rfl⟩ := denl_cons.1 h2
  simp [den] at hv hu; subst hv; subst hu
  simp only [eqS, eqV] at h ⊢
  cases hr : eqS l m with
  | none => simp [hr] at h
  | some r => rw [ih r L' M' hr hl hm]; simpa [hr] using h
theorem eqS_den {ρ : Env} : ∀ (l m : List SV) (b : Bool) (L M : List Value), eqS l m = some b → denl ρ l = some L → denl ρ m = some M → eqV L M = some b
  | [], [], b, L, M, h, h1, h2 => by rw [denl_nil.1 h1, denl_nil.1 h2]; simpa [eqS, eqV] using h
  | [], v :: m, b, L, M, h, h1, h2 => by simp [eqS] at h
  | .int k a :: l, [], b, L, M, h, _, _ => by simp [eqS] at h
  | .bool a :: l, [], b, L, M, h, _, _ => by simp [eqS] at h
  | .int k a :: l, u :: m, b, L, M, h, h1, h2 => by
    cases u <;> first
      | (simp [eqS] at h; done)
      | skip
    rename_i k' c
    exact go_int ρ k k' a c l m b L M h h1 h2 (fun b L M => eqS_den l m b L M)
  | .bool a :: l, u :: m, b, L, M, h, h1, h2 => by
    cases u <;> first
      | (simp [eqS] at h; done)
      | skip
    rename_i c
    exact go_bool ρ a c l m b L M h h1 h2 (fun b L M => eqS_den l m b L M)
  | .str _ :: l, m, b, L, M, h, _, _ => by simp [eqS] at h
  | .ptr _ _ :: l, m, b, L, M, h, _, _ => by simp [eqS] at h
  | .nilp :: l, m, b, L, M, h, _, _ => by simp [eqS] at h
  | .sl _ _ _ _ :: l, m, b, L, M, h, _, _ => by simp [eqS] at h
  | .rw _ _ _ _ :: l, m, b, L, M, h, _, _ => by simp [eqS] at h
  | .nils :: l, m, b, L, M, h, _, _ => by simp [eqS] at h
  | .iface _ _ :: l, m, b, L, M, h, _, _ => by simp [eqS] at h
  | .nilI :: l, m, b, L, M, h, _, _ => by simp [eqS] at h
  | .fn _ _ _ :: l, m, b, L, M, h, _, _ => by simp [eqS] at h
  | .nilF :: l, m, b, L, M, h, _, _ => by simp [eqS] at h
  | .mapp _ :: l, m, b, L, M, h, _, _ => by simp [eqS] at h
  | .agg _ :: l, m, b, L, M, h, _, _ => by simp [eqS] at h
  | .tup _ :: l, m, b, L, M, h, _, _ => by simp [eqS] at h

/-! ## Operators -/
def xint (op : BinOp) (k : IntKind) (a b : Int) : Option (SV × List Prop) :=
  match op with
  | .add => some (.int k (k.wrap (a + b)), [])
  | .sub => some (.int k (k.wrap (a - b)), [])
  | .mul => some (.int k (k.wrap (a * b)), [])
  | .quo => some (.int k (k.wrap (a.tdiv b)), [b ≠ 0])
  | .rem => some (.int k (a.tmod b), [b ≠ 0])
  | .and => some (.int k (k.wrap ((BitVec.ofInt k.bits a &&& BitVec.ofInt k.bits b).toNat)), [])
  | .or => some (.int k (k.wrap ((BitVec.ofInt k.bits a ||| BitVec.ofInt k.bits b).toNat)), [])
  | .xor => some (.int k (k.wrap ((BitVec.ofInt k.bits a ^^^ BitVec.ofInt k.bits b).toNat)), [])
  | .andNot => some (.int k (k.wrap ((BitVec.ofInt k.bits a &&& ~~~BitVec.ofInt k.bits b).toNat)), [])
  | .eql => some (.bool (a == b), [])
  | .neq => some (.bool (a != b), [])
  | .lss => some (.bool (decide (a < b)), [])
  | .leq => some (.bool (decide (a ≤ b)), [])
  | .gtr => some (.bool (decide (a > b)), [])
  | .geq => some (.bool (decide (a ≥ b)), [])
  | _ => none
def xshift (op : BinOp) (k : IntKind) (a b : Int) : Option (SV × List Prop) :=
  match op with
  | .shl => some (.int k (k.wrap (a * 2 ^ (min b.toNat k.bits))), [0 ≤ b])
  | .shr => some (.int k (a.fdiv (2 ^ (min b.toNat k.bits))), [0 ≤ b])
  | _ => none
def isShift : BinOp → Bool
  | .shl | .shr => true
  | _ => false
def isEq : BinOp → Bool
  | .eql | .neq => true
  | _ => false
def eqOut (op : BinOp) (b : Bool) : Option (SV × List Prop) :=
  match op with
  | .eql => some (.bool b, [])
  | .neq => some (.bool !b, [])
  | _ => none
def isCon : Operand → Bool
  | .const _ => true
  | _ => false

def isDiv : BinOp → Bool
  | .quo | .rem => true
  | _ => false
def dropO : Option (SV × List Prop) → Option (SV × List Prop)
  | some (v, _) => some (v, [])
  | none => none
theorem dropO_some {r : Option (SV × List Prop)} {v : SV} {o : List Prop} (h : dropO r = some (v, o)) : ∃ o', r = some (v, o') := by
  cases r with
  | none => simp [dropO] at h
  | some q => obtain ⟨a, b⟩ := q; simp [dropO] at h; exact ⟨b, by rw [h.1]⟩
theorem xshift_obl {op : BinOp} {k : IntKind} {a b : Int} {v : SV} {o : List Prop} (h : xshift op k a b = some (v, o)) (hb : 0 ≤ b) : All o := by
  cases op <;> simp only [xshift, Option.some.injEq, Prod.mk.injEq, reduceCtorEq] at h <;> (obtain ⟨_, rfl⟩ := h; exact ⟨hb, trivial⟩)
theorem xint_obl {op : BinOp} {k : IntKind} {a b : Int} {v : SV} {o : List Prop} (h : xint op k a b = some (v, o)) (hb : b ≠ 0) : All o := by
  cases op <;> simp only [xint, Option.some.injEq, Prod.mk.injEq, reduceCtorEq] at h <;> (obtain ⟨_, rfl⟩ := h; first | exact trivial | exact ⟨hb, trivial⟩)

def xbin (P : Program) (D : Dat) (op : BinOp) (t : TypeId) (x y : Operand) (kb : Bool) : SV → SV → Option (SV × List Prop)
  | .int k a, .int k' b => if isShift op then (if kb then (if 0 ≤ b then dropO (xshift op k a b) else none) else xshift op k a b) else if k = k' then (if kb && isDiv op then (if b ≠ 0 then dropO (xint op k a b) else none) else xint op k a b) else none
  | .bool a, .bool b => (match P.underlying t with | some .bool => eqOut op (a == b) | _ => none)
  | .ptr _ _, .nilp => (match P.underlying t with | some (.pointer _) => eqOut op false | _ => none)
  | .nilp, .nilp => (match P.underlying t with | some (.pointer _) => eqOut op true | _ => none)
  | .iface _ _, .nilI => (match P.underlying t with | some (.interface _) => eqOut op false | _ => none)
  | .nilI, .nilI => if isCon y then (match P.underlying t with | some (.interface _) => eqOut op true | _ => none) else none
  | .sl _ _ _ _, .nils => (match P.underlying t with | some (.slice _) => eqOut op false | _ => none)
  | .nils, .nils => (match P.underlying t with | some (.slice _) => eqOut op true | _ => none)
  | .agg l, .agg m => (match D.eqT t with | some sh => if fitS sh l && fitS sh m then (match eqS l m with | some b => eqOut op b | none => none) else none | none => none)
  | _, _ => none

def runBin (op : BinOp) (t : TypeId) (x y : Operand) (a b : Value) : Sem Value := do eqGuard op t x y a b; binOp op t a b

theorem xint_run {P : Program} {op : BinOp} {k : IntKind} {a b : Int} {v : SV} {o : List Prop} (h : xint op k a b = some (v, o)) (ho : All o) (t : TypeId) (x y : Operand) (W : World) (ρ : Env) :
    ∃ V, den ρ v = some V ∧ (runBin op t x y (.int k a) (.int k b)).run P W = .ok V W := by
  cases op <;> simp only [xint, Option.some.injEq, Prod.mk.injEq, reduceCtorEq] at h <;>
    (obtain ⟨rfl, rfl⟩ := h
     refine ⟨_, rfl, ?_⟩
     simp [All] at ho
     simp [runBin, eqGuard, binOp, Op.intArith, Op.intDiv, Op.intBits, Op.intCmp, ho])

theorem xshift_run {P : Program} {op : BinOp} {k k' : IntKind} {a b : Int} {v : SV} {o : List Prop} (h : xshift op k a b = some (v, o)) (ho : All o) (t : TypeId) (x y : Operand) (W : World) (ρ : Env) :
    ∃ V, den ρ v = some V ∧ (runBin op t x y (.int k a) (.int k' b)).run P W = .ok V W := by
  cases op <;> simp only [xshift, Option.some.injEq, Prod.mk.injEq, reduceCtorEq] at h <;>
    (obtain ⟨rfl, rfl⟩ := h
     refine ⟨_, rfl, ?_⟩
     simp [All] at ho
     have hn : ¬ b < 0 := by omega
     simp [runBin, eqGuard, binOp, Op.shift, hn])

theorem eqOut_run {P : Program} {op : BinOp} {c : Bool} {v : SV} {o : List Prop} (h : eqOut op c = some (v, o)) {t : TypeId} {x y : Operand} {a b : Value} {W : World}
    (he : (do eqGuard .eql t x y a b; binOp .eql t a b : Sem Value).run P W = .ok (.bool c) W)
    (hn : (do eqGuard .neq t x y a b; binOp .neq t a b : Sem Value).run P W = .ok (.bool !c) W) (ρ : Env) :
    ∃ V, den ρ v = some V ∧ (runBin op t x y a b).run P W = .ok V W := by
  cases op <;> simp only [eqOut, Option.some.injEq, Prod.mk.injEq, reduceCtorEq] at h
  · obtain ⟨rfl, rfl⟩ := h; exact ⟨_, rfl, he⟩
  · obtain ⟨rfl, rfl⟩ := h; exact ⟨_, rfl, hn⟩

theorem eqIn (P : Program) (t : TypeId) (a b : Value) (c : Bool) (W : World) (h : ∀ d, (Op.equalIn (d + 1) t a b).run P W = .ok c W) : (Op.equal t a b).run P W = .ok c W := h 9999
theorem bin_eql {P : Program} {t : TypeId} {x y : Operand} {a b : Value} {c : Bool} {W : World} (hg : ∀ op, (eqGuard op t x y a b).run P W = .ok () W)
    (he : ∀ d, (Op.equalIn (d + 1) t a b).run P W = .ok c W) (h1 : binOp .eql t a b = (do pure (.bool (← Op.equal t a b)))) (h2 : binOp .neq t a b = (do pure (.bool (!(← Op.equal t a b))))) :
    (do eqGuard .eql t x y a b; binOp .eql t a b : Sem Value).run P W = .ok (.bool c) W ∧ (do eqGuard .neq t x y a b; binOp .neq t a b : Sem Value).run P W = .ok (.bool !c) W := by
  have := eqIn P t a b c W he
  simp only [h1, h2]
  simp [hg, this]
theorem eqOut_run2 {P : Program} {op : BinOp} {c : Bool} {v : SV} {o : List Prop} (h : eqOut op c = some (v, o)) {t : TypeId} {x y : Operand} {a b : Value} {W : World}
    (hg : ∀ op, (eqGuard op t x y a b).run P W = .ok () W)
    (he : ∀ d, (Op.equalIn (d + 1) t a b).run P W = .ok c W) (h1 : binOp .eql t a b = (do pure (.bool (← Op.equal t a b)))) (h2 : binOp .neq t a b = (do pure (.bool (!(← Op.equal t a b))))) (ρ : Env) :
    ∃ V, den ρ v = some V ∧ (runBin op t x y a b).run P W = .ok V W :=
  let k := bin_eql (P := P) (x := x) (y := y) hg he h1 h2
  eqOut_run h k.1 k.2 ρ

theorem xbin_run {P : Program} {D : Dat} (hL : LOK P D) {op : BinOp} {t : TypeId} {x y : Operand} {u w : SV} {v : SV} {o : List Prop} {kb : Bool} (h : xbin P D op t x y kb u w = some (v, o)) (ho : All o)
    {ρ : Env} {U V' : Value} (hu : den ρ u = some U) (hw : den ρ w = some V') (W : World) :
    ∃ V, den ρ v = some V ∧ (runBin op t x y U V').run P W = .ok V W := by
  unfold xbin at h
  split at h
  · simp [den] at hu hw; subst hu; subst hw
    split at h
    · split at h
      · split at h
        · rename_i hb
          obtain ⟨o', h'⟩ := dropO_some h
          exact xshift_run h' (xshift_obl h' hb) t x y W ρ
        · cases h
      · exact xshift_run h ho t x y W ρ
    · split at h
      · rename_i hk; subst hk
        split at h
        · split at h
          · rename_i hb
            obtain ⟨o', h'⟩ := dropO_some h
            exact xint_run h' (xint_obl h' hb) t x y W ρ
          · cases h
        · exact xint_run h ho t x y W ρ
      · cases h
  · simp [den] at hu hw; subst hu; subst hw
    split at h
    · rename_i hut
      exact eqOut_run2 h (fun op => by cases op <;> simp [eqGuard]) (fun d => by simp [Op.equalIn, run_underlying hut]) rfl rfl ρ
    · cases h
  · simp [den] at hw; subst hw
    simp only [den, Option.bind_eq_some_iff, Option.map_eq_some_iff] at hu
    obtain ⟨l, _, a, _, rfl⟩ := hu
    split at h
    · rename_i hut
      exact eqOut_run2 h (fun op => by cases op <;> simp [eqGuard]) (fun d => by simp [Op.equalIn, run_underlying hut]) rfl rfl ρ
    · cases h
  · simp [den] at hu hw; subst hu; subst hw
    split at h
    · rename_i hut
      exact eqOut_run2 h (fun op => by cases op <;> simp [eqGuard]) (fun d => by simp [Op.equalIn, run_underlying hut]) rfl rfl ρ
    · cases h
  · simp [den] at hw; subst hw
    simp only [den, Option.map_eq_some_iff] at hu
    obtain ⟨a, _, rfl⟩ := hu
    split at h
    · rename_i hut
      exact eqOut_run2 h (fun op => by cases op <;> simp [eqGuard]) (fun d => by simp [Op.equalIn, run_underlying hut]) rfl rfl ρ
    · cases h
  · simp [den] at hu hw; subst hu; subst hw
    split at h
    · rename_i hcon
      have hc : ∃ c, y = .const c := by cases y <;> simp [isCon] at hcon; exact ⟨_, rfl⟩
      obtain ⟨c, rfl⟩ := hc
      split at h
      · rename_i hut
        exact eqOut_run2 h (fun op => by cases op <;> simp [eqGuard]) (fun d => by simp [Op.equalIn, run_underlying hut]) rfl rfl ρ
      · cases h
    · cases h
  · simp [den] at hw; subst hw
    simp only [den, Option.bind_eq_some_iff, Option.map_eq_some_iff] at hu
    obtain ⟨l, _, a, _, rfl⟩ := hu
    split at h
    · rename_i hut
      exact eqOut_run2 h (fun op => by cases op <;> simp [eqGuard]) (fun d => by simp [Op.equalIn, run_underlying hut]) rfl rfl ρ
    · cases h
  · simp [den] at hu hw; subst hu; subst hw
    split at h
    · rename_i hut
      exact eqOut_run2 h (fun op => by cases op <;> simp [eqGuard]) (fun d => by simp [Op.equalIn, run_underlying hut]) rfl rfl ρ
    · cases h
  · simp only [den, Option.map_eq_some_iff] at hu hw
    obtain ⟨A, hA, rfl⟩ := hu
    obtain ⟨B, hB, rfl⟩ := hw
    split at h
    · rename_i sh hq
      split at h
      · rename_i hf
        simp only [Bool.and_eq_true] at hf
        split at h
        · rename_i b hb
          have := eqS_den _ _ _ _ _ hb hA hB
          have h2 := hL.eql t sh hq A B b x y W (fitS_den _ _ _ hf.1 hA) (fitS_den _ _ _ hf.2 hB) this
          exact eqOut_run h h2.1 h2.2 ρ
        · cases h
      · cases h
    · cases h
  · cases h

def xbinN (P : Program) (D : Dat) (op : BinOp) (t : TypeId) (x y : Operand) (a b : SV) : Option (SV × List Prop) :=
  hardO (a.known && b.known) (xbin P D op t x y b.known (soft a) (soft b))
theorem xbinN_run {P : Program} {D : Dat} (hL : LOK P D) {op : BinOp} {t : TypeId} {x y : Operand} {u w : SV} {v : SV} {o : List Prop} (h : xbinN P D op t x y u w = some (v, o)) (ho : All o)
    {ρ : Env} {U V' : Value} (hu : den ρ u = some U) (hw : den ρ w = some V') (W : World) :
    ∃ V, den ρ v = some V ∧ (runBin op t x y U V').run P W = .ok V W := by
  obtain ⟨v', h1, h2⟩ := hardO_some h
  rw [← den_soft] at hu hw
  rw [h2]
  exact xbin_run hL h1 ho hu hw W
end Go.Sx
