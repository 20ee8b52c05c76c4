/- Part of an executor of given code on symbolic values, with its proof of soundness: what is proved stands in each theorem. -/
import Derived.Below
import Derived.Deep.Quiet
import Derived.Laws.AppendOwn
import Derived.Laws.MakeOwn
import Derived.WalkKit
set_option linter.unusedVariables false
set_option linter.unusedSimpArgs false

namespace Go.Sx
open Go.RowKit

/-! ## Symbolic values -/
inductive SV where
  | int (k : IntKind) (n : Int)
  | num (k : IntKind) (n : Int)      -- .. a number that is known: a numeral
  | bool (b : Bool)
  | str (s : ByteArray)
  | ptr (j off : Nat)
  | nilp
  | sl (j off len cap : Nat)
  | rw (j z lo len : Nat)
  | nils
  | iface (t : TypeId) (v : SV)
  | nilI
  | fn (f : Nat) (first captured : List SV)
  | nilF
  | mapp (j : Nat)
  | agg (l : List SV)
  | tup (l : List SV)

structure Loc where
  adr : Option Addr
  cap : Nat

abbrev Env := Nat → Option Loc

/-- The value of the whole row that lies at l, with n elements. -/
def Loc.row (l : Loc) (z lo n : Nat) : Value :=
  match l.adr with
  | some a => .slice (some (a.add (lo * z))) n (l.cap - lo)
  | none => .slice none 0 0

mutual
def den (ρ : Env) : SV → Option Value
  | .int k n => some (.int k n)
  | .num k n => some (.int k n)
  | .bool b => some (.bool b)
  | .str s => some (.string s)
  | .ptr j off => (ρ j).bind fun l => l.adr.map fun a => .pointer (some (a.add off))
  | .nilp => some (.pointer none)
  | .sl j off len cap => (ρ j).bind fun l => l.adr.map fun a => .slice (some (a.add off)) len cap
  | .rw j z lo len => (ρ j).map fun l => l.row z lo len
  | .nils => some (.slice none 0 0)
  | .iface t v => (den ρ v).map (.iface t)
  | .nilI => some .nilIface
  | .fn f fs cs => (denl ρ fs).bind fun a => (denl ρ cs).map fun b => .func (.func f) a.toArray b.toArray
  | .nilF => some .nilFunc
  | .mapp j => (ρ j).bind fun l => l.adr.map fun a => .map (some a.block)
  | .agg l => (denl ρ l).map fun a => .agg a.toArray
  | .tup l => (denl ρ l).map fun a => .tuple a.toArray
def denl (ρ : Env) : List SV → Option (List Value)
  | [] => some []
  | v :: l => (den ρ v).bind fun a => (denl ρ l).map fun b => a :: b
end

/-- ρ' knows all that ρ knows. -/
def Env.le (ρ ρ' : Env) : Prop := ∀ j l, ρ j = some l → ρ' j = some l
theorem Env.le.refl (ρ : Env) : Env.le ρ ρ := fun _ _ h => h
theorem Env.le.trans {a b c : Env} (h : Env.le a b) (k : Env.le b c) : Env.le a c := fun j l e => k j l (h j l e)

mutual
theorem den_le {ρ ρ' : Env} (h : Env.le ρ ρ') : ∀ (v : SV) (V : Value), den ρ v = some V → den ρ' v = some V
  | .int k n, V, e => by simpa [den] using e
  | .num k n, V, e => by simpa [den] using e
  | .bool b, V, e => by simpa [den] using e
  | .str s, V, e => by simpa [den] using e
  | .ptr j off, V, e => by
    simp only [den, Option.bind_eq_some_iff] at e ⊢
    obtain ⟨l, hl, e⟩ := e; exact ⟨l, h j l hl, e⟩
  | .nilp, V, e => by simpa [den] using e
  | .sl j off len cap, V, e => by
    simp only [den, Option.bind_eq_some_iff] at e ⊢
    obtain ⟨l, hl, e⟩ := e; exact ⟨l, h j l hl, e⟩
  | .rw j z lo len, V, e => by
    simp only [den, Option.map_eq_some_iff] at e ⊢
    obtain ⟨l, hl, e⟩ := e; exact ⟨l, h j l hl, e⟩
  | .nils, V, e => by simpa [den] using e
  | .iface t v, V, e => by
    simp only [den, Option.map_eq_some_iff] at e ⊢
    obtain ⟨x, hx, e⟩ := e; exact ⟨x, den_le h v x hx, e⟩
  | .nilI, V, e => by simpa [den] using e
  | .fn f fs cs, V, e => by
    simp only [den, Option.bind_eq_some_iff, Option.map_eq_some_iff] at e ⊢
    obtain ⟨x, hx, y, hy, e⟩ := e; exact ⟨x, denl_le h fs x hx, y, denl_le h cs y hy, e⟩
  | .nilF, V, e => by simpa [den] using e
  | .mapp j, V, e => by
    simp only [den, Option.bind_eq_some_iff] at e ⊢
    obtain ⟨l, hl, e⟩ := e; exact ⟨l, h j l hl, e⟩
  | .agg l, V, e => by
    simp only [den, Option.map_eq_some_iff] at e ⊢
    obtain ⟨x, hx, e⟩ := e; exact ⟨x, denl_le h l x hx, e⟩
  | .tup l, V, e => by
    simp only [den, Option.map_eq_some_iff] at e ⊢
    obtain ⟨x, hx, e⟩ := e; exact ⟨x, denl_le h l x hx, e⟩
theorem denl_le {ρ ρ' : Env} (h : Env.le ρ ρ') : ∀ (l : List SV) (L : List Value), denl ρ l = some L → denl ρ' l = some L
  | [], L, e => by simpa [denl] using e
  | v :: l, L, e => by
    simp only [denl, Option.bind_eq_some_iff, Option.map_eq_some_iff] at e ⊢
    obtain ⟨x, hx, y, hy, e⟩ := e; exact ⟨x, den_le h v x hx, y, denl_le h l y hy, e⟩
end

theorem denl_cons {ρ : Env} {v : SV} {l : List SV} {L : List Value} : denl ρ (v :: l) = some L ↔ ∃ V M, den ρ v = some V ∧ denl ρ l = some M ∧ L = V :: M := by
  simp only [denl, Option.bind_eq_some_iff, Option.map_eq_some_iff]
  constructor
  · rintro ⟨a, ha, b, hb, rfl⟩; exact ⟨a, b, ha, hb, rfl⟩
  · rintro ⟨a, b, ha, hb, rfl⟩; exact ⟨a, ha, b, hb, rfl⟩

theorem denl_nil {ρ : Env} {L : List Value} : denl ρ [] = some L ↔ L = [] := by simp [denl, eq_comm]

theorem denl_length {ρ : Env} : ∀ {l : List SV} {L : List Value}, denl ρ l = some L → L.length = l.length
  | [], L, h => by rw [denl_nil.1 h]; rfl
  | v :: l, L, h => by obtain ⟨V, M, _, hm, rfl⟩ := denl_cons.1 h; simp [denl_length hm]

theorem denl_get {ρ : Env} : ∀ {l : List SV} {L : List Value}, denl ρ l = some L → ∀ (i : Nat) (v : SV), l[i]? = some v → ∃ V, den ρ v = some V ∧ L[i]? = some V
  | [], _, _, i, v, e => by simp at e
  | u :: l, L, h, i, v, e => by
    obtain ⟨V, M, hv, hm, rfl⟩ := denl_cons.1 h
    cases i with
    | zero => simp at e; subst e; exact ⟨V, hv, by simp⟩
    | succ i => simp at e; obtain ⟨V', h1, h2⟩ := denl_get hm i v e; exact ⟨V', h1, by simpa using h2⟩

theorem denl_append {ρ : Env} : ∀ {l m : List SV} {L M : List Value}, denl ρ l = some L → denl ρ m = some M → denl ρ (l ++ m) = some (L ++ M)
  | [], m, L, M, h, k => by rw [denl_nil.1 h]; simpa using k
  | v :: l, m, L, M, h, k => by
    obtain ⟨V, N, hv, hn, rfl⟩ := denl_cons.1 h
    exact denl_cons.2 ⟨V, N ++ M, hv, denl_append hn k, rfl⟩

theorem denl_take {ρ : Env} : ∀ {l : List SV} {L : List Value}, denl ρ l = some L → ∀ n, denl ρ (l.take n) = some (L.take n)
  | [], L, h, n => by rw [denl_nil.1 h]; simp [denl]
  | v :: l, L, h, n => by
    obtain ⟨V, M, hv, hm, rfl⟩ := denl_cons.1 h
    cases n with
    | zero => simp [denl]
    | succ n => exact denl_cons.2 ⟨V, _, hv, denl_take hm n, rfl⟩

theorem denl_drop {ρ : Env} : ∀ {l : List SV} {L : List Value}, denl ρ l = some L → ∀ n, denl ρ (l.drop n) = some (L.drop n)
  | [], L, h, n => by rw [denl_nil.1 h]; simp [denl]
  | v :: l, L, h, n => by
    obtain ⟨V, M, hv, hm, rfl⟩ := denl_cons.1 h
    cases n with
    | zero => simpa using h
    | succ n => simpa using denl_drop hm n

theorem denl_set {ρ : Env} : ∀ {l : List SV} {L : List Value}, denl ρ l = some L → ∀ n v V, den ρ v = some V → denl ρ (l.set n v) = some (L.set n V)
  | [], L, h, n, v, V, hv => by rw [denl_nil.1 h]; simp [denl]
  | u :: l, L, h, n, v, V, hv => by
    obtain ⟨U, M, hu, hm, rfl⟩ := denl_cons.1 h
    cases n with
    | zero => exact denl_cons.2 ⟨V, M, hv, hm, rfl⟩
    | succ n => exact denl_cons.2 ⟨U, _, hu, denl_set hm n v V hv, rfl⟩

theorem denl_ints (ρ : Env) (k : IntKind) (l : List Int) : denl ρ (l.map (SV.int k)) = some (l.map (Value.int k)) := by
  induction l with
  | nil => rfl
  | cons n l ih => exact denl_cons.2 ⟨_, _, rfl, ih, rfl⟩

/-! ## Constants -/
mutual
def lift : Value → Option SV
  | .int k n => some (.num k n)
  | .bool b => some (.bool b)
  | .string s => some (.str s)
  | .pointer none => some .nilp
  | .slice none 0 0 => some .nils
  | .nilIface => some .nilI
  | .nilFunc => some .nilF
  | .iface t v => (lift v).map (.iface t)
  | .agg cs => (liftA cs).map .agg
  | .tuple cs => (liftA cs).map .tup
  | _ => none
def liftA : Array Value → Option (List SV)
  | ⟨l⟩ => liftL l
def liftL : List Value → Option (List SV)
  | [] => some []
  | v :: l => (lift v).bind fun a => (liftL l).map fun b => a :: b
end

mutual
theorem den_lift (ρ : Env) : ∀ (V : Value) (v : SV), lift V = some v → den ρ v = some V
  | .int k n, v, h => by simp [lift] at h; subst h; rfl
  | .bool b, v, h => by simp [lift] at h; subst h; rfl
  | .string s, v, h => by simp [lift] at h; subst h; rfl
  | .pointer none, v, h => by simp [lift] at h; subst h; rfl
  | .pointer (some _), v, h => by simp [lift] at h
  | .slice none 0 0, v, h => by simp [lift] at h; subst h; rfl
  | .slice none 0 (n+1), v, h => by simp [lift] at h
  | .slice none (n+1) _, v, h => by simp [lift] at h
  | .slice (some _) _ _, v, h => by simp [lift] at h
  | .nilIface, v, h => by simp [lift] at h; subst h; rfl
  | .nilFunc, v, h => by simp [lift] at h; subst h; rfl
  | .iface t x, v, h => by
    simp only [lift, Option.map_eq_some_iff] at h
    obtain ⟨y, hy, rfl⟩ := h
    simp [den, den_lift ρ x y hy]
  | .agg cs, v, h => by
    simp only [lift, Option.map_eq_some_iff] at h
    obtain ⟨y, hy, rfl⟩ := h
    simp [den, den_liftA ρ cs y hy]
  | .tuple cs, v, h => by
    simp only [lift, Option.map_eq_some_iff] at h
    obtain ⟨y, hy, rfl⟩ := h
    simp [den, den_liftA ρ cs y hy]
  | .float _ _, v, h => by simp [lift] at h
  | .complex _ _ _, v, h => by simp [lift] at h
  | .map _, v, h => by simp [lift] at h
  | .chan _, v, h => by simp [lift] at h
  | .func _ _ _, v, h => by simp [lift] at h
theorem den_liftA (ρ : Env) : ∀ (A : Array Value) (l : List SV), liftA A = some l → denl ρ l = some A.toList
  | ⟨L⟩, l, h => den_liftL ρ L l (by simpa [liftA] using h)
theorem den_liftL (ρ : Env) : ∀ (L : List Value) (l : List SV), liftL L = some l → denl ρ l = some L
  | [], l, h => by simp [liftL] at h; subst h; rfl
  | V :: L, l, h => by
    simp only [liftL, Option.bind_eq_some_iff, Option.map_eq_some_iff] at h
    obtain ⟨a, ha, b, hb, rfl⟩ := h
    exact denl_cons.2 ⟨V, L, den_lift ρ V a ha, den_liftL ρ L b hb, rfl⟩
end

/-! ## Known or not -/
mutual
def soft : SV → SV
  | .num k n => .int k n
  | .iface t v => .iface t (soft v)
  | .fn f a b => .fn f (softL a) (softL b)
  | .agg l => .agg (softL l)
  | .tup l => .tup (softL l)
  | .int k n => .int k n
  | .bool b => .bool b
  | .str s => .str s
  | .ptr j off => .ptr j off
  | .nilp => .nilp
  | .sl j off n c => .sl j off n c
  | .rw j z lo n => .rw j z lo n
  | .nils => .nils
  | .nilI => .nilI
  | .nilF => .nilF
  | .mapp j => .mapp j
def softL : List SV → List SV
  | [] => []
  | v :: l => soft v :: softL l
end
mutual
theorem den_soft (ρ : Env) : ∀ v : SV, den ρ (soft v) = den ρ v
  | .num k n => rfl
  | .iface t v => by simp only [soft, den, den_soft ρ v]
  | .fn f a b => by simp only [soft, den, denl_soft ρ a, denl_soft ρ b]
  | .agg l => by simp only [soft, den, denl_soft ρ l]
  | .tup l => by simp only [soft, den, denl_soft ρ l]
  | .int k n => rfl
  | .bool b => rfl
  | .str s => rfl
  | .ptr j off => rfl
  | .nilp => rfl
  | .sl j off n c => rfl
  | .rw j z lo n => rfl
  | .nils => rfl
  | .nilI => rfl
  | .nilF => rfl
  | .mapp j => rfl
theorem denl_soft (ρ : Env) : ∀ l : List SV, denl ρ (softL l) = denl ρ l
  | [] => rfl
  | v :: l => by simp only [softL, denl, den_soft ρ v, denl_soft ρ l]
end
theorem softL_length : ∀ l : List SV, (softL l).length = l.length
  | [] => rfl
  | v :: l => by simp [softL, softL_length l]
theorem softL_ints (k : IntKind) (l : List Int) : softL (l.map (SV.int k)) = l.map (SV.int k) := by
  induction l with
  | nil => rfl
  | cons n l ih => simp only [List.map_cons, softL, soft, ih]
theorem softL_append (a b : List SV) : softL (a ++ b) = softL a ++ softL b := by
  induction a with
  | nil => rfl
  | cons v a ih => simp only [List.cons_append, softL, ih]

def SV.known : SV → Bool
  | .num _ _ => true
  | _ => false
def knownL : List SV → Bool
  | [] => true
  | v :: l => v.known && knownL l
/-- A numeral, worked out. -/
def force {α : Type} (n : Int) (f : Int → α) : α :=
  match n with
  | .ofNat m => (match m with
    | 0 => f (.ofNat 0)
    | k + 1 => f (.ofNat (k + 1)))
  | .negSucc m => (match m with
    | 0 => f (.negSucc 0)
    | k + 1 => f (.negSucc (k + 1)))
theorem force_eq {α : Type} (n : Int) (f : Int → α) : force n f = f n := by
  unfold force
  cases n with
  | ofNat m => cases m <;> rfl
  | negSucc m => cases m <;> rfl
/-- What is made of known numbers is known. -/
def hardO (kn : Bool) (r : Option (SV × List Prop)) : Option (SV × List Prop) :=
  bif kn then (match r with
    | some (.int k n, o) => force n (fun m => some (.num k m, o))
    | r => r) else r
theorem hardO_some {kn : Bool} {r : Option (SV × List Prop)} {v : SV} {o : List Prop} (h : hardO kn r = some (v, o)) : ∃ v', r = some (v', o) ∧ ∀ ρ, den ρ v = den ρ v' := by
  unfold hardO at h
  cases kn with
  | false => exact ⟨v, h, fun _ => rfl⟩
  | true =>
    simp only [cond_true] at h
    split at h
    · rw [force_eq] at h
      simp only [Option.some.injEq, Prod.mk.injEq] at h
      obtain ⟨rfl, rfl⟩ := h
      exact ⟨_, rfl, fun _ => rfl⟩
    · exact ⟨v, h, fun _ => rfl⟩
/-- What is owed, looked at at once if it is known. -/
def chk (kn : Bool) (p : Prop) [Decidable p] : Option (List Prop) := bif kn then (if p then some [] else none) else some [p]
end Go.Sx
