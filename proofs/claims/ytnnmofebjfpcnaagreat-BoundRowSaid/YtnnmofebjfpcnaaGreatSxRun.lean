/- Part of an executor of given code on symbolic values, with its proof of soundness: what is proved stands in each theorem. -/
import Derived.Test.YtnnmofebjfpcnaaGreatSxNm
import Derived.LoopN
import Derived.Scope
set_option linter.unusedVariables false
set_option linter.unusedSimpArgs false

namespace Go.Sx
open Go.RowKit

def Ex.of : Ex → Exit
  | .normal => .normal
  | .exit id => .exit id
  | .ret => .ret
  | .goto l => .goto l

/-- ρ' knows all that ρ knows of the names below b. -/
def leB (b : Nat) (ρ ρ' : Env) : Prop := ∀ j l, j < b → ρ j = some l → ρ' j = some l
theorem Env.le.leB {ρ ρ' : Env} (h : Env.le ρ ρ') (b : Nat) : leB b ρ ρ' := fun j l _ e => h j l e
theorem leB.trans {b : Nat} {x y z : Env} (h : leB b x y) (k : leB b y z) : leB b x z := fun j l hj e => k j l hj (h j l hj e)

/-- From state s a code comes to state s', and leaves so. -/
def CodeOK (P : Program) (b : Nat) (c : Code) (s s' : St) (e : Ex) : Prop :=
  ∀ (W0 : World) (S : Nat → Prop) (ρ : Env) (a : Act) (W : World) (Q : Exit → Act → World → Prop), Agree ρ s.t a.tmps → a.defers = [] → Sat W0 S ρ s.h W →
    (∀ ρ' a' W', leB b ρ ρ' → Agree ρ' s'.t a'.tmps → a'.defers = [] → Sat W0 S ρ' s'.h W' → Q e.of a' W') → c.wp P Q a W

abbrev Ds := List DE
def keyOf (o : Oper) : Nat :=
  match o.dst with
  | some d => d
  | none => (match o.op with | .store _ (.tmp a) _ => a | _ => 0)
def takeD (k : Nat) : Ds → Option Dir × Ds
  | .op j d :: ds => bif Nat.beq j k then (some d, ds) else (none, .op j d :: ds)
  | ds => (none, ds)
/-- The directives of a call entered, and its value in other words. -/
def subD : Option Dir → Ds
  | some (.sub l _) => l
  | _ => []
def eqD : Option Dir → Option SV
  | some (.eqv u) => some u
  | some (.sub _ u) => u
  | _ => none
def autoD : Option Dir → Bool
  | none => true
  | some (.eqv _) => true
  | some (.sub _ _) => true
  | _ => false
def isCon' : Option Dir → Bool
  | some (.con _ _ _) => true
  | _ => false

def xres (P : Program) (t : Tmps) (h : Heap) : List ResultVar → Option (List SV)
  | [] => some []
  | .tmp i :: l => (match tget t i, xres P t h l with | some v, some m => some (v :: m) | _, _ => none)
  | .cell i ty :: l => (match tget t i with
    | some (.ptr j off) => (match get h j with
      | some e => (match e.cells? with
        | some cs => (match xcut P ty cs off, xres P t h l with | some v, some m => some (v :: m) | _, _ => none)
        | none => none)
      | none => none)
    | _ => none)
def one1 : List SV → SV
  | [v] => v
  | l => .tup l

def keysLt (n : Nat) : Heap → Bool
  | [] => true
  | (j, _) :: h => Nat.blt j n && keysLt n h

def noneN : Nat → Tmps
  | 0 => []
  | n + 1 => none :: noneN n

/-- The items of a region, each with its directive. -/
def items : List Oper → Nat → Nat → Ds → List Item × Ds
  | [], _, _, ds => ([], ds)
  | o :: l, i, m, ds =>
    let p := takeD (keyOf o) ds
    let q := items l (i + 1) (m + 4) p.2
    (⟨i, o, m, p.1⟩ :: q.1, q.2)

def runItems (P : Program) (D : Dat) (ops : List Oper) : List Item → St → Option (List IT × St × List Prop)
  | [], s => some ([], s, [])
  | it :: r, s => (match xitem P D ops it s with
    | some (s1, o1) => (match runItems P D ops r s1 with
      | some (l, s2, o2) => some (⟨it, fp s.t it.m it.d it.o.op⟩ :: l, s2, o1 ++ o2)
      | none => none)
    | none => none)

def inl (D : Dat) (ops : List Oper) (t : Tmps) (d : Option Dir) (o : Oper) : Option (FuncId × List SV) :=
  match o.op with
  | .call c => if isCon' d then none else (match wantedS ops o t with | some true => (match callee D t c with | some (f, as) => if D.ext f = 0 then some (f, as) else none | none => none) | _ => none)
  | _ => none

structure Rec where
  code : Nat → Code → St → Nat → Ds → Option (Ex × St × Nat × Ds × List Prop)
  loop : Nat → Code → St → Nat → Ds → Option (Ex × St × Nat × Ds × List Prop)
  ops : Nat → List Oper → List Oper → Nat → Nat → St → Nat → Ds → Option (St × Nat × Ds × List Prop)
  fn : FuncId → List SV → Heap → Nat → Ds → Option (SV × Heap × Nat × Ds × List Prop)

def keysGe (n : Nat) : Heap → Bool
  | [] => true
  | (j, _) :: h => Nat.ble n j && keysGe n h
def noRo : Heap → Bool
  | [] => true
  | (_, .ro _ _) :: _ => false
  | (_, _) :: h => noRo h
/-- A call entered: of plain values it needs no heap, and if it answers them it leaves none. -/
def callL (r : Rec) (f : FuncId) (as : List SV) (h : Heap) (nx : Nat) (ds : Ds) : Option (SV × Heap × Nat × Ds × List Prop) :=
  if nmInL [] as then (match r.fn f as [] nx ds with
    | some (v, h', nx', ds', o) => if keysLt nx h then (if nmIn [] v then some (v, h, nx, ds', o) else if keysGe nx h' && noRo h' then some (v, h' ++ h, nx', ds', o) else none) else none
    | none => none)
  else r.fn f as h nx ds

/-! names that are met -/
mutual
def nmV : SV → List Nat
  | .ptr j _ | .sl j _ _ _ | .rw j _ _ _ | .mapp j => [j]
  | .iface _ v => nmV v
  | .fn _ a b => nmVL a ++ nmVL b
  | .agg l | .tup l => nmVL l
  | .int _ _ | .num _ _ | .bool _ | .str _ | .nilp | .nils | .nilI | .nilF => []
def nmVL : List SV → List Nat
  | [] => []
  | v :: l => nmV v ++ nmVL l
end
def nmE (e : Ent) : List Nat := match e with
  | .own _ cs => nmVL cs
  | .row _ _ cs => nmVL cs
  | .ro _ cs => nmVL cs
  | .mp cs => nmVL cs
  | .dead => []
def inE (K : List Nat) (e : Ent) : Bool := match e with
  | .own _ cs => nmInL K cs
  | .row _ _ cs => nmInL K cs
  | .ro _ cs => nmInL K cs
  | .mp cs => nmInL K cs
  | .dead => true
def reach (h : Heap) : Nat → List Nat → List Nat → List Nat
  | 0, _, K => K
  | _ + 1, [], K => K
  | n + 1, j :: t, K => bif mem j K then reach h n t K else (match get h j with
    | some e => reach h n (nmE e ++ t) (j :: K)
    | none => reach h n t K)
def restr (K : List Nat) : Heap → Heap
  | [] => []
  | (j, e) :: h => bif mem j K then (j, e) :: restr K h else restr K h
def closedH (K : List Nat) : Heap → Bool
  | [] => true
  | (_, e) :: h => inE K e && closedH K h
def nodB : List Nat → Bool
  | [] => true
  | j :: l => !mem j l && nodB l
def allMem (K : List Nat) : List Nat → Bool
  | [] => true
  | j :: l => mem j K && allMem K l
/-- A call by itself, on what its arguments lead to alone. -/
def subCall (r : Rec) (f : FuncId) (as : List SV) (h : Heap) (nx : Nat) (ds : Ds) : Option (SV × Heap × Heap × List Prop) :=
  let hK := restr (reach h 100000 (nmVL as) []) h
  let K := hK.map (·.1)
  if nmInL K as && (closedH K hK && (noRo hK && nodB K)) then (match r.fn f as hK nx ds with
    | some (v, h', _, _, o) =>
      let w := restr (reach h' 100000 (nmV v ++ K) []) h'
      let Kw := w.map (·.1)
      if nmIn Kw v && (closedH Kw w && (noRo w && (nodB Kw && allMem Kw K))) then some (v, hK, w, o) else none
    | none => none) else none

/-- A call within a region that draws: by itself. -/
def auto (D : Dat) (r : Rec) (ops : List Oper) (cb : Nat) (it : Item) (s : St) : Option (Item × List Prop) :=
  if autoD it.d then (match inl D ops s.t none it.o with
    | some (f, as) => (match (if nmInL [] as then (match r.fn f as [] 0 (subD it.d) with
        | some (v, _, _, _, o) => if nmIn [] v then some (v, [], [], o) else none
        | none => none) else subCall r f as s.h (cb + 1000000 * it.i) (subD it.d)) with
      | some (v, rd, wr, o) => (match eqD it.d with
        | some u => some ({ it with d := some (.con u rd wr) }, (soft v = soft u) :: o)
        | none => some ({ it with d := some (.con v rd wr) }, o))
      | none => none)
    | none => none) else none
def runItemsA (P : Program) (D : Dat) (r : Rec) (ops : List Oper) (cb : Nat) : List Item → St → Option (List IT × St × List Prop)
  | [], s => some ([], s, [])
  | it :: l, s => (match auto D r ops cb it s with
    | some (it', o) => (match xitem P D ops it' s with
      | some (s1, _) => (match runItemsA P D r ops cb l s1 with
        | some (l', s2, o2) => some (⟨it', fp s.t it'.m it'.d it'.o.op⟩ :: l', s2, o ++ o2)
        | none => none)
      | none => none)
    | none => (match xitem P D ops it s with
      | some (s1, o1) => (match runItemsA P D r ops cb l s1 with
        | some (l', s2, o2) => some (⟨it, fp s.t it.m it.d it.o.op⟩ :: l', s2, o1 ++ o2)
        | none => none)
      | none => none))
/-- A number above all names. -/
def nxH (h : Heap) (nx : Nat) : Nat := match h with
  | [] => nx
  | (k, _) :: _ => bif Nat.blt k nx then nx else k + 1

def codeF (P : Program) (D : Dat) (r : Rec) (b : Nat) (c : Code) (s : St) (nx : Nat) (ds : Ds) : Option (Ex × St × Nat × Ds × List Prop) :=
  (match c with
    | .skip => some (.normal, s, nx, ds, [])
    | .label _ => some (.normal, s, nx, ds, [])
    | .exit id => some (.exit id, s, nx, ds, [])
    | .goto l => some (.goto l, s, nx, ds, [])
    | .ret => some (.ret, s, nx, ds, [])
    | .seq x y => (match r.code b x s nx ds with
      | some (.normal, s1, nx1, ds1, o1) => (match r.code b y s1 nx1 ds1 with
        | some (e, s2, nx2, ds2, o2) => some (e, s2, nx2, ds2, o1 ++ o2)
        | none => none)
      | q => q)
    | .cond c x y => (match ev s.t c with
      | some (.bool true) => r.code b x s nx ds
      | some (.bool false) => r.code b y s nx ds
      | _ => none)
    | .block id x => (match r.code b x s nx ds with
      | some (.exit i, s1, nx1, ds1, o1) => if i = id then some (.normal, s1, nx1, ds1, o1) else some (.exit i, s1, nx1, ds1, o1)
      | q => q)
    | .loop x => (match ds with
      | .cut s' nx' e :: ds' => some (e, s', nx', ds', [CodeOK P b (.loop x) s s' e])
      | ds => r.loop b x s nx ds)
    | .scope x => (match ds with
      | .cut s' nx' e :: ds' => some (e, s', nx', ds', [CodeOK P b (.scope x) s s' e])
      | ds => (match r.code b x s nx ds with
        | some (.goto _, _) => none
        | q => q))
    | .rangeFunc f p x y => (match ds with
      | .cut s' nx' e :: ds' => some (e, s', nx', ds', [CodeOK P b (.rangeFunc f p x y) s s' e])
      | _ => none)
    | .region _ ops false => (match r.ops b ops.toList ops.toList 0 nx s (nx + 4 * ops.toList.length) ds with
      | some (s1, nx1, ds1, o1) => some (.normal, s1, nx1, ds1, o1)
      | none => none)
    | .region _ ops true =>
      let p := items ops.toList 0 nx ds
      (match runItemsA P D r ops.toList (nx + 4 * ops.toList.length) p.1 s with
      | some (l, s1, o1) => if edgesOk ops.toList 0 && pairOk ops.toList (clos ops.toList []) l then some (.normal, s1, nxH s1.h (nx + 4 * ops.toList.length), p.2, o1) else none
      | none => none)
    | .refuse _ => none)
def loopF (r : Rec) (b : Nat) (x : Code) (s : St) (nx : Nat) (ds : Ds) : Option (Ex × St × Nat × Ds × List Prop) :=
  (match r.code b x s nx ds with
    | some (.normal, s1, nx1, ds1, o1) => (match r.loop b x s1 nx1 ds1 with
      | some (e, s2, nx2, ds2, o2) => some (e, s2, nx2, ds2, o1 ++ o2)
      | none => none)
    | q => q)
def opsF (P : Program) (D : Dat) (r : Rec) (b : Nat) (ops : List Oper) (l : List Oper) (i m : Nat) (s : St) (nx : Nat) (ds : Ds) : Option (St × Nat × Ds × List Prop) :=
  match l with
  | [] => some (s, nx, ds, [])
  | o :: rest =>
    let p := takeD (keyOf o) ds
    (match inl D ops s.t p.1 o with
    | some (f, as) => (match callL r f as s.h nx (subD p.1) with
      | some (v, h, nx1, _, o1) => (match eqD p.1 with
        | some u => (match r.ops b ops rest (i + 1) (m + 4) ⟨setD s.t o.dst u, h⟩ nx1 p.2 with
          | some (s2, nx2, ds2, o2) => some (s2, nx2, ds2, (soft v = soft u) :: (o1 ++ o2))
          | none => none)
        | none => (match r.ops b ops rest (i + 1) (m + 4) ⟨setD s.t o.dst v, h⟩ nx1 p.2 with
          | some (s2, nx2, ds2, o2) => some (s2, nx2, ds2, o1 ++ o2)
          | none => none))
      | none => none)
    | none => (match xitem P D ops ⟨i, o, m, p.1⟩ s with
      | some (s1, o1) => (match r.ops b ops rest (i + 1) (m + 4) s1 nx p.2 with
        | some (s2, nx2, ds2, o2) => some (s2, nx2, ds2, o1 ++ o2)
        | none => none)
      | none => none))
def fnF (P : Program) (r : Rec) (f : FuncId) (as : List SV) (h : Heap) (nx : Nat) (ds : Ds) : Option (SV × Heap × Nat × Ds × List Prop) :=
  (match P.funcs[f]? with
    | some fn => (match fn.body with
      | some c => if keysLt nx h then (match r.code nx c ⟨as.map some ++ noneN (fn.ntmps - as.length), h⟩ nx ds with
        | some (.normal, s, nx1, ds1, o) => (match xres P s.t s.h fn.results.toList with | some l => some (one1 l, s.h, nx1, ds1, o) | none => none)
        | some (.ret, s, nx1, ds1, o) => (match xres P s.t s.h fn.results.toList with | some l => some (one1 l, s.h, nx1, ds1, o) | none => none)
        | _ => none) else none
      | none => none)
    | none => none)
def recs (P : Program) (D : Dat) : Nat → Rec
  | 0 => ⟨fun _ _ _ _ _ => none, fun _ _ _ _ _ => none, fun _ _ _ _ _ _ _ _ => none, fun _ _ _ _ _ => none⟩
  | n + 1 => ⟨codeF P D (recs P D n), loopF (recs P D n), opsF P D (recs P D n), fnF P (recs P D n)⟩
def runCode (P : Program) (D : Dat) (n : Nat) := (recs P D n).code
def runLoop (P : Program) (D : Dat) (n : Nat) := (recs P D n).loop
def runOps (P : Program) (D : Dat) (n : Nat) := (recs P D n).ops
def callFn (P : Program) (D : Dat) (n : Nat) := (recs P D n).fn
end Go.Sx
