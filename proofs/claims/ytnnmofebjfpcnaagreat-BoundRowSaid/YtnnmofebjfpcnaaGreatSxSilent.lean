/- Part of an executor of given code on symbolic values, with its proof of soundness: what is proved stands in each theorem. -/
import Derived.Test.YtnnmofebjfpcnaaGreatSxQuiet
import Derived.Laws.Slices
set_option linter.unusedVariables false
set_option linter.unusedSimpArgs false

namespace Go.Sx
open Go.RowKit

structure St where
  t : Tmps
  h : Heap
inductive Ex where
  | normal
  | exit (id : Nat)
  | ret
  | goto (l : Nat)
mutual
inductive Dir where
  | eqv (v : SV)                                     -- the value, in other words
  | at_ (v : SV)                                     -- what is read (or written) at a place that is no numeral
  | con (v : SV) (rd wr : List (Nat × Ent))          -- a call, by its contract
  | emp
  | sub (l : List DE) (u : Option SV)                -- a call entered, with directives of its own; its value in other words
inductive DE where
  | op (k : Nat) (d : Dir)
  | cut (s : St) (nx : Nat) (e : Ex)
end

def xun (op : UnOp) : SV → Option SV
  | .int k n => (match op with
    | .neg => some (.int k (k.wrap (0 - n)))
    | .xor => some (.int k (k.wrap ((BitVec.ofInt k.bits (if k.signed then -1 else k.max) ^^^ BitVec.ofInt k.bits n).toNat)))
    | _ => none)
  | .bool b => (match op with | .not => some (.bool !b) | _ => none)
  | _ => none

/-- fieldAddr -/
def xfa (P : Program) (s : TypeId) (f : Nat) : SV → Option SV
  | .ptr j off => (match P.underlying s with
    | some (.struct fs) => (match fs[f]? with
      | some fd => (match sizeT P fd.type with | some (_ + 1) => some (.ptr j (off + fd.offset)) | _ => none)
      | none => none)
    | _ => none)
  | _ => none

/-- a part of an aggregate -/
def xfield (P : Program) (s : TypeId) (f : Nat) : SV → Option SV
  | .agg l => (match P.underlying s with
    | some (.struct fs) => (match fs[f]? with
      | some fd => xcut P fd.type l fd.offset
      | none => none)
    | _ => none)
  | _ => none

/-- indexAddr: an array behind a pointer, or a slice. -/
def xia (P : Program) (t : TypeId) : SV → SV → Option (SV × List Prop)
  | .ptr j off, .int _ i => (match P.underlying t with
    | some (.array n e) => (match sizeT P e with | some z => some (.ptr j (off + i.toNat * z), [0 ≤ i ∧ i < n]) | none => none)
    | _ => none)
  | .sl j off len _, .int _ i => (match P.underlying t with
    | some (.slice e) => (match sizeT P e with | some z => some (.ptr j (off + i.toNat * z), [0 ≤ i ∧ i < len]) | none => none)
    | _ => none)
  | _, _ => none
def xia0 (P : Program) (t : TypeId) : SV → SV → Option (SV × List Prop)
  | .ptr j off, .int _ i => (match P.underlying t with
    | some (.array n e) => (match sizeT P e with | some z => if 0 ≤ i ∧ i < n then some (.ptr j (off + i.toNat * z), []) else none | none => none)
    | _ => none)
  | .sl j off len _, .int _ i => (match P.underlying t with
    | some (.slice e) => (match sizeT P e with | some z => if 0 ≤ i ∧ i < len then some (.ptr j (off + i.toNat * z), []) else none | none => none)
    | _ => none)
  | _, _ => none
def xia2 (P : Program) (h : Heap) (t : TypeId) : SV → SV → Option (SV × List Prop)
  | .rw j z lo len, .int _ i => (match P.underlying t with
    | some (.slice e) => (match sizeT P e with
      | some z' => if z' = z then (match get h j with
        | some ent => (match ent.cells? with
          | some cs => some (.ptr j (lo * z + i.toNat * z), [0 ≤ i ∧ i < len, (lo + len) * z ≤ cs.length, 0 < z])
          | none => none)
        | none => none) else none
      | none => none)
    | _ => none)
  | a, b => xia P t a b

/-- index of an array's value -/
def xix (P : Program) (t : TypeId) (kn : Bool) : SV → SV → Option (SV × List Prop)
  | .agg l, .int _ i => (match P.underlying t with
    | some (.array n e) => (match sizeT P e with
      | some z => (match xcut P e l (i.toNat * z), chk kn (0 ≤ i ∧ i < n) with | some v, some o => some (v, o) | _, _ => none)
      | none => none)
    | _ => none)
  | .str s, .int _ i => (match P.underlying t with
    | some .string => (match s.data[i.toNat]?, chk kn (0 ≤ i) with | some b, some o => some (.int .u8 b.toNat, o) | _, _ => none)
    | _ => none)
  | _, _ => none

/-- .. at a place that is no numeral -/
def IxOK (P : Program) (t : TypeId) (x y u : SV) : Prop := ∃ v o, xix P t false x y = some (v, o) ∧ soft v = soft u ∧ (∀ p ∈ o, p)

def xlen (P : Program) (t : TypeId) (v : SV) : Option SV :=
  match P.underlying t with
  | some (.slice _) => (match v with
    | .sl _ _ n _ => some (.int .i64 n)
    | .nils => some (.int .i64 0)
    | _ => none)
  | some (.array n _) => some (.int .i64 n)
  | some .string => (match v with | .str s => some (.int .i64 s.size) | _ => none)
  | _ => none
/-- length of a row: if it's nil it's empty. -/
def xlen2 (P : Program) (h : Heap) (t : TypeId) : SV → Option (SV × List Prop)
  | .rw j z lo n => (match P.underlying t with
    | some (.slice _) => (match get h j with
      | some ent => (match ent.cells? with
        | some cs => some (.int .i64 n, [(lo + n) * z ≤ cs.length, 0 < z])
        | none => none)
      | none => none)
    | _ => none)
  | v => (match xlen P t v with | some u => some (u, []) | none => none)

def xmin (op : Builtin) : SV → SV → Option SV
  | .int k a, .int k' b => if k = k' then (match op with
    | .min => some (.int k (if b < a then b else a))
    | .max => some (.int k (if b > a then b else a))
    | _ => none) else none
  | _, _ => none

def xconv (P : Program) (s d : TypeId) : SV → Option SV
  | .int _ n => (match P.underlying s, P.underlying d with
    | some _, some (.int k) => some (.int k (k.wrap n))
    | _, _ => none)
  | _ => none

def xmi (P : Program) (t : TypeId) (v : SV) : Option SV :=
  match P.underlying t with
  | some (.interface _) => none
  | some _ => some (.iface t v)
  | none => none

def xnil : SV → Option SV
  | .ptr j o => some (.ptr j o)
  | .fn f a b => some (.fn f a b)
  | .iface t v => some (.iface t v)
  | _ => none

def evs (t : Tmps) : List Operand → Option (List SV)
  | [] => some []
  | x :: l => (match ev t x, evs t l with | some v, some m => some (v :: m) | _, _ => none)

def addO (r : Option SV) (o : List Prop) : Option (SV × List Prop) :=
  match r with | some v => some (v, o) | none => none

def strKn : SV → SV → Bool
  | .str _, b => b.known
  | _, _ => false
/-- A length that is known: unless it's told in other words. -/
def lenKn : Option Dir → SV → Bool
  | some (.eqv _), _ => false
  | _, .rw _ _ _ _ => false
  | _, _ => true

/-- Operations that leave memory alone: what they yield. -/
def xq (P : Program) (D : Dat) (h : Heap) (t : Tmps) (d : Option Dir) (op : Op) : Option (SV × List Prop) :=
  match op with
  | .move x | .assign x => addO (ev t x) []
  | .pick c a b => (match ev t c with
    | some (.bool true) => addO (ev t a) []
    | some (.bool false) => addO (ev t b) []
    | _ => none)
  | .load ty x => (match ev t x with
    | some (.ptr j off) => (match get h j with
      | some e => (match e.cells? with
        | some cs => (match d with
          | some (.at_ v) => some (v, [xcut P ty cs off = some v])
          | _ => addO (xcut P ty cs off) [])
        | none => none)
      | none => none)
    | _ => none)
  | .nilCheck x => (match ev t x with | some v => addO (xnil v) [] | none => none)
  | .binOp op ty x y _ => (match ev t x, ev t y with | some a, some b => xbinN P D op ty x y a b | _, _ => none)
  | .unOp op _ x => (match ev t x with | some a => hardO a.known (addO (xun op (soft a)) []) | none => none)
  | .convert s ds x => (match ev t x with | some a => hardO a.known (addO (xconv P s ds (soft a)) []) | none => none)
  | .makeInterface ty x => (match ev t x with | some a => addO (xmi P ty a) [] | none => none)
  | .makeFunc (.func f) fs cs => (match evs t fs.toList, evs t cs.toList with | some a, some b => some (.fn f a b, []) | _, _ => none)
  | .fieldAddr s x f => (match ev t x with | some a => addO (xfa P s f a) [] | none => none)
  | .field s x f => (match ev t x with | some a => addO (xfield P s f a) [] | none => none)
  | .indexAddr ty x i => (match ev t x, ev t i with | some a, some b => (if b.known then (match xia0 P ty a (soft b) with | some r => some r | none => xia2 P h ty a (soft b)) else xia2 P h ty a b) | _, _ => none)
  | .index ty x i => (match ev t x, ev t i with
    | some a, some b => (match d with
      | some (.at_ u) => some (u, [IxOK P ty a (soft b) u])
      | _ => hardO (strKn a b) (xix P ty b.known a (soft b)))
    | _, _ => none)
  | .extract x i => (match ev t x with | some (.tup l) => addO (l[i]?) [] | _ => none)
  | .call { callee := .builtin .len, args, argTypes } => (match argTypes[0]?, args[0]? with
    | some ty, some x => (match ev t x with | some a => hardO (lenKn d a) (xlen2 P h ty a) | none => none)
    | _, _ => none)
  | .call { callee := .builtin .min, args, argTypes := _ } => (match args.toList with
    | [x, y] => (match ev t x, ev t y with | some a, some b => hardO (a.known && b.known) (addO (xmin .min (soft a) (soft b)) []) | _, _ => none)
    | _ => none)
  | .call { callee := .builtin .max, args, argTypes := _ } => (match args.toList with
    | [x, y] => (match ev t x, ev t y with | some a, some b => hardO (a.known && b.known) (addO (xmin .max (soft a) (soft b)) []) | _, _ => none)
    | _ => none)
  | _ => none

theorem addO_some {r : Option SV} {o o' : List Prop} {v : SV} (h : addO r o = some (v, o')) : r = some v ∧ o' = o := by
  cases r with
  | none => simp [addO] at h
  | some u => simp [addO] at h; exact ⟨by rw [h.1], h.2.symm⟩

theorem evs_den {ρ : Env} {t : Tmps} {a : Act} (ag : Agree ρ t a.tmps) : ∀ {l : List Operand} {vs : List SV}, evs t l = some vs → denl ρ vs = some (l.map a.eval)
  | [], vs, h => by simp [evs] at h; subst h; rfl
  | x :: l, vs, h => by
    simp only [evs] at h
    cases hx : ev t x with
    | none => simp [hx] at h
    | some v =>
      cases hl : evs t l with
      | none => simp [hx, hl] at h
      | some m =>
        simp [hx, hl] at h; subst h
        exact denl_cons.2 ⟨_, _, ev_den ag hx, evs_den ag hl, rfl⟩

/-- The names that are read. -/
def rdq (t : Tmps) (op : Op) : List Nat :=
  match op with
  | .load _ x => (match ev t x with | some (.ptr j _) => [j] | _ => [])
  | .indexAddr _ x _ => (match ev t x with | some (.rw j _ _ _) => [j] | _ => [])
  | .call { callee := .builtin .len, args, argTypes := _ } => (match args[0]? with
    | some x => (match ev t x with | some (.rw j _ _ _) => [j] | _ => [])
    | none => [])
  | _ => []
end Go.Sx
