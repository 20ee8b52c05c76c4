/- Part of an executor of given code on symbolic values, with its proof of soundness: what is proved stands in each theorem. -/
import Derived.Test.YtnnmofebjfpcnaaGreatSxEff3
set_option linter.unusedVariables false
set_option linter.unusedSimpArgs false

namespace Go.Sx
open Go.RowKit

def isNone : Option Ent → Bool
  | none => true
  | some _ => false

def xnew (h : Heap) (m : Nat) (e : TypeId) (cs : List SV) (v : SV) (o : List Prop) : Option Out :=
  if ones cs && isNone (get h m) then some ⟨v, [(m, .own e cs)], o⟩ else none

def Ent.upd : Ent → List SV → Option Ent
  | .own e _, cs => some (.own e cs)
  | .row e z _, cs => some (.row e z cs)
  | _, _ => none

def xstore (h : Heap) (j off : Nat) (vs : List SV) (d : Option Dir) : Option Out :=
  match get h j with
  | some ent => (match ent.cells? with
    | some cs => (match d with
      | some (.at_ (.agg cs')) => (match ent.upd cs' with | some e' => some ⟨.tup [], [(j, e')], [off + vs.length ≤ cs.length, wr cs off vs = cs']⟩ | none => none)
      | _ => if off + vs.length ≤ cs.length then (match ent.upd (wr cs off vs) with | some e' => some ⟨.tup [], [(j, e')], []⟩ | none => none) else none)
    | none => none)
  | none => none

def xmake (P : Program) (h : Heap) (m : Nat) (ty : TypeId) (kn : Bool) (lv cv : SV) : Option Out :=
  match P.underlying ty, lv, cv with
  | some (.slice e), .int _ l, .int _ c => (match P.info? e, zeroT P e, chk kn (0 ≤ l ∧ l ≤ c ∧ c ≤ 9223372036854775807) with
    | some i, some zv, some o => (match chk kn ((i.bytes : Int) * c ≤ 281474976710656) with
      | some o' => if zv.cells.length = i.size then
          (if ones zv.cells && isNone (get h m) then some ⟨.sl m 0 l.toNat c.toNat, [(m, .own e (rep c.toNat zv.cells))], o ++ o'⟩ else none) else none
      | none => none)
    | _, _, _ => none)
  | _, _, _ => none

/-- Operations that make memory, or write it. -/
def xe (P : Program) (h : Heap) (t : Tmps) (m : Nat) (d : Option Dir) (op : Op) : Option Out :=
  match op with
  | .alloc e => (match zeroT P e with | some z => xnew h m e z.cells (.ptr m 0) [] | none => none)
  | .box e x => (match ev t x with | some v => xnew h m e v.cells (.ptr m 0) [] | none => none)
  | .buildSlice ty len ps => (match P.underlying ty, pairs t ps.toList with
    | some (.slice e), some l => (match sizeT P e, zeroT P e with
      | some z, some zv => if zv.cells.length = z ∧ len * z ≤ 2 ^ 24 then (match xfill (fun i => some (i * z, z)) (rep len zv.cells) l with
        | some cs => xnew h m e cs (.sl m 0 len len) []
        | none => none) else none
      | _, _ => none)
    | _, _ => none)
  | .makeSlice ty l c => (match ev t l, ev t c with
    | some lv, some cv => xmake P h m ty (lv.known && cv.known) (soft lv) (soft cv)
    | _, _ => none)
  | .store ty x y => (match ev t x, ev t y, sizeT P ty with
    | some (.ptr j off), some v, some n => if ones v.cells && Nat.beq v.cells.length n then xstore h j off v.cells d else none
    | _, _, _ => none)
  | _ => none

structure Eff (P : Program) (W0 : World) (S : Nat → Prop) (ρ : Env) (hp : Heap) (W : World) (out : Out) (r : Result Next) : Prop where
  ex : ∃ ρ' W' V N, Env.le ρ ρ' ∧ den ρ' out.v = some V ∧ r = .ok N W' ∧ (N = .value V ∨ (N = .skip ∧ V = undef)) ∧ Sat W0 S ρ' (puts hp out.w) W'

theorem isNone_iff {x : Option Ent} (h : isNone x = true) : x = none := by cases x <;> simp [isNone] at h; rfl

theorem xnew_sound {P : Program} {W0 : World} {S : Nat → Prop} {ρ : Env} {hp : Heap} {W : World} (s : Sat W0 S ρ hp W) {m : Nat} {e : TypeId} {cs : List SV} {v : SV} {o : List Prop} {out : Out}
    (h : xnew hp m e cs v o = some out) {Vs : List Value} (hd : denl ρ cs = some Vs) {r : Result Next} {V : Value}
    (hr : r = .ok (.value V) (W.alloc (.cells Vs.toArray e)))
    (hV : den (ρ.upd m ⟨some ⟨W.heap.size, 0, none⟩, 0⟩) v = some V) : Eff P W0 S ρ hp W out r := by
  unfold xnew at h
  split at h
  · rename_i hc
    simp only [Bool.and_eq_true] at hc
    simp only [Option.some.injEq] at h; subst h
    have hm := isNone_iff hc.2
    exact ⟨_, _, V, _, Env.upd_le (s.key m hm), hV, hr, .inl rfl, s.alloc hm hd (ones_den hd hc.1)⟩
  · cases h

theorem setRow_own {ρ : Env} {W : World} {l : Loc} {e : TypeId} {cs : List SV} {b : Nat} {Vs : List Value} {old : Array Value}
    (hl : l.adr = some ⟨b, 0, none⟩) (hd : denl ρ cs = some Vs) (h1 : ∀ V ∈ Vs, V.oneCell' = true) (hg : W.heap[b]? = some (.cells old e (0, 0))) : IsOwn ρ (W.setRow b Vs.toArray) l e cs :=
  ⟨b, Vs, hl, hd, setRow_heap W b old Vs.toArray e (0, 0) hg, h1⟩

theorem xstore_sound {P : Program} {W0 : World} {S : Nat → Prop} {ρ : Env} {hp : Heap} {W : World} (s : Sat W0 S ρ hp W) {j off : Nat} {vs : List SV} {d : Option Dir} {out : Out}
    (h : xstore hp j off vs d = some out) (ho : All out.o) {Vs : List Value} (hd : denl ρ vs = some Vs) (h1 : ∀ V ∈ Vs, V.oneCell' = true) {l : Loc} {a : Addr} (hl : ρ j = some l) (ha : l.adr = some a) :
    den ρ out.v = some undef ∧ ∃ W', (storeCells (a.add off) Vs).run P W = .ok () W' ∧ Sat W0 S ρ (puts hp out.w) W' := by
  unfold xstore at h
  split at h
  · rename_i ent hent
    split at h
    · rename_i cs hcs
      have key : ∃ e', ent.upd (wr cs off vs) = some e' ∧ out.v = .tup [] ∧ out.w = [(j, e')] ∧ off + vs.length ≤ cs.length := by
        split at h
        · split at h
          · rename_i e' he'
            simp only [Option.some.injEq] at h; subst h
            simp only [All, and_true] at ho
            exact ⟨e', by rw [ho.2]; exact he', rfl, rfl, ho.1⟩
          · cases h
        · split at h
          · rename_i hle
            split at h
            · rename_i e' he'
              simp only [Option.some.injEq] at h; subst h
              exact ⟨e', he', rfl, rfl, hle⟩
            · cases h
          · cases h
      obtain ⟨e', he', hv, hw, hle⟩ := key
      rw [hv, hw]
      refine ⟨rfl, ?_⟩
      obtain ⟨l', hl', ok⟩ := s.ent j ent hent
      rw [hl] at hl'; injection hl' with hl'; subst hl'
      have hlen := denl_length hd
      cases ent with
      | own e cs' =>
        simp [Ent.cells?] at hcs; subst hcs
        simp [Ent.upd] at he'; subst he'
        obtain ⟨b, Cs, k1, k2, k3, k4⟩ := ok.ex
        rw [ha] at k1; injection k1 with k1; subst k1
        have hcl := denl_length k2
        have hst := run_storeCells_at P b off e Vs 0 Cs.toArray W k3 (by simp; omega) h1
        simp only [Nat.add_zero] at hst
        have hwd := denl_wr k2 hd off
        refine ⟨_, by rw [Addr.add_lit, Nat.zero_add]; exact hst, ?_⟩
        have e1 : (List.take off Cs.toArray.toList ++ Vs ++ List.drop (off + Vs.length) Cs.toArray.toList).toArray = (Cs.take off ++ (Vs ++ Cs.drop (off + Vs.length))).toArray := by simp
        rw [e1]
        refine s.setRow hent rfl hl (by simp [Loc.blk, ha]) _ ?_
        refine setRow_own ha hwd ?_ k3
        intro V hV
        rcases List.mem_append.1 hV with hV | hV
        · exact k4 V (List.mem_of_mem_take hV)
        · rcases List.mem_append.1 hV with hV | hV
          · exact h1 V hV
          · exact k4 V (List.mem_of_mem_drop hV)
      | row e z cs' =>
        simp [Ent.cells?] at hcs; subst hcs
        simp [Ent.upd] at he'; subst he'
        obtain ⟨Cs, n, k1, k2, k3⟩ := ok.ex
        have hcl := denl_length k1
        obtain ⟨k4, k5⟩ := k3
        rcases k5 with ⟨hv, _⟩ | ⟨g, cap, cur, hv, hg0, hg, hn, hm, hs, ht⟩
        · simp [Loc.val, ha] at hv
        · simp [Loc.val, ha] at hv
          obtain ⟨rfl, rfl⟩ := hv
          have hcurlen : Cs.length ≤ cur.size := by rw [← ht]; simp; omega
          have hst := run_storeCells_at P g off e Vs 0 cur W hg (by simp; omega) h1
          simp only [Nat.add_zero] at hst
          have hwd := denl_wr k1 hd off
          refine ⟨_, by rw [Addr.add_lit, Nat.zero_add]; exact hst, ?_⟩
          refine s.setRow hent rfl hl (by simp [Loc.blk, ha]) _ ?_
          refine ⟨_, n, hwd, ?_, ?_⟩
          · intro V hV
            rcases List.mem_append.1 hV with hV | hV
            · exact k2 V (List.mem_of_mem_take hV)
            · rcases List.mem_append.1 hV with hV | hV
              · exact h1 V hV
              · exact k2 V (List.mem_of_mem_drop hV)
          · refine ⟨?_, .inr ⟨g, l.cap, _, by simp [Loc.val, ha], hg0, setRow_heap W g cur _ e (0, 0) hg, hn, hm, ?_, ?_⟩⟩
            · have := denl_length hwd
              rw [this]
              simp only [wr, List.length_append, List.length_take, List.length_drop]
              omega
            · simp; omega
            · have hnz : n * z = Cs.length := k4.symm
              rw [hnz]
              have h3 : cur.toList.take Cs.length = Cs := by rw [← hnz]; exact ht
              apply List.ext_getElem?
              intro i
              have h4 : ∀ i, i < Cs.length → cur.toList[i]? = Cs[i]? := fun i hi => by
                rw [← h3, List.getElem?_take, if_pos hi]
              simp only [List.getElem?_take, List.getElem?_append, List.length_take, List.getElem?_drop, List.length_append, Array.length_toList]
              have e1 : min off cur.size = off := by omega
              have e2 : min off Cs.length = off := by omega
              simp only [e1, e2]
              by_cases hi : i < Cs.length
              · rw [if_pos hi]
                by_cases c1 : i < off
                · have : i < off + Vs.length := by omega
                  simp only [c1, this, if_true]
                  exact h4 i hi
                · by_cases c2 : i - off < Vs.length
                  · have : i < off + Vs.length := by omega
                    simp only [c1, c2, this, if_true, if_false]
                  · have : ¬ i < off + Vs.length := by omega
                    simp only [c1, c2, this, if_false]
                    have e3 : off + Vs.length + (i - (off + Vs.length)) = i := by omega
                    have e4 : off + Vs.length + (i - off - Vs.length) = i := by omega
                    rw [e3, e4]
                    exact h4 i hi
              · rw [if_neg hi]
                have c1 : ¬ i < off := by omega
                have c2 : ¬ i - off < Vs.length := by omega
                simp only [c1, c2, if_false]
                symm
                rw [List.getElem?_eq_none_iff]
                omega
      | ro z cs' => simp [Ent.upd] at he'
      | mp cs' => simp [Ent.upd] at he'
      | dead => simp [Ent.upd] at he'
    · cases h
  · cases h
end Go.Sx
