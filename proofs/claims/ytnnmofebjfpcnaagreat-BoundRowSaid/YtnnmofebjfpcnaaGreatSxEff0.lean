/- Part of an executor of given code on symbolic values, with its proof of soundness: what is proved stands in each theorem. -/
import Derived.Test.YtnnmofebjfpcnaaGreatSxSilent3
import Derived.Laws.MakeOwn
set_option linter.unusedVariables false
set_option linter.unusedSimpArgs false

namespace Go.Sx
open Go.RowKit

def wr (cs : List SV) (off : Nat) (vs : List SV) : List SV := cs.take off ++ (vs ++ cs.drop (off + vs.length))
theorem denl_wr {ρ : Env} {cs vs : List SV} {C V : List Value} (h : denl ρ cs = some C) (k : denl ρ vs = some V) (off : Nat) :
    denl ρ (wr cs off vs) = some (C.take off ++ (V ++ C.drop (off + V.length))) := by
  have hl := denl_length k
  exact denl_append (denl_take h off) (denl_append k (by rw [hl]; exact denl_drop h _))

theorem splice_aux (vs : List Value) : ∀ (cells : Array Value) (off k : Nat), off + k + vs.length ≤ cells.size →
    (List.zipIdx vs k).foldl (fun cs (x : Value × Nat) => cs.setIfInBounds (off + x.2) x.1) cells = (cells.toList.take (off + k) ++ (vs ++ cells.toList.drop (off + k + vs.length))).toArray := by
  induction vs with
  | nil => intro cells off k _; apply Array.ext'; simp
  | cons v vs ih =>
    intro cells off k h
    simp only [List.length_cons] at h
    rw [List.zipIdx_cons, List.foldl_cons, ih _ _ _ (by simp; omega)]
    apply Array.ext'
    simp only [Array.toList_setIfInBounds, List.length_cons]
    apply List.ext_getElem?
    intro i
    simp only [List.getElem?_append, List.getElem?_take, List.getElem?_drop, List.length_take, List.length_set, List.getElem?_set, List.getElem?_cons, Array.length_toList]
    have e1 : min (off + (k + 1)) cells.size = off + k + 1 := by omega
    have e2 : min (off + k) cells.size = off + k := by omega
    simp only [e1, e2]
    by_cases h1 : i < off + k
    · have : i < off + k + 1 := by omega
      have h3 : ¬ off + k = i := by omega
      have h4 : i < off + (k + 1) := by omega
      simp [h1, this, h3, h4]
    · by_cases h2 : i = off + k
      · subst h2
        have : off + k < cells.size := by omega
        have h4 : off + k < off + (k + 1) := by omega
        simp [this, h4]
      · have h3 : ¬ i < off + k + 1 := by omega
        have h4 : i - (off + k) ≠ 0 := by omega
        have h5 : i - (off + k) - 1 = i - (off + k + 1) := by omega
        simp only [h1, h3, if_false, h4]
        rw [h5]
        by_cases h6 : i - (off + k) < vs.length + 1
        · have h7 : i - (off + k + 1) < vs.length := by omega
          have h8 : i - (off + k) < (v :: vs).length := by simpa using h6
          rw [if_pos h7, if_pos h8]
        · have h7 : ¬ i - (off + k + 1) < vs.length := by omega
          have h8 : ¬ i - (off + k) < (v :: vs).length := by simpa using h6
          rw [if_neg h7, if_neg h8]
          have h9 : ¬ off + k = off + (k + 1) + vs.length + (i - (off + k + 1) - vs.length) := by omega
          rw [if_neg h9]
          congr 1
          simp only [List.length_cons]; omega

theorem splice (vs : Array Value) (cells : Array Value) (off : Nat) (h : off + vs.size ≤ cells.size) :
    vs.zipIdx.foldl (fun cs (x : Value × Nat) => cs.setIfInBounds (off + x.2) x.1) cells = (cells.toList.take off ++ (vs.toList ++ cells.toList.drop (off + vs.size))).toArray := by
  have := splice_aux vs.toList cells off 0 (by simpa using h)
  simp only [Nat.add_zero, Array.length_toList] at this
  rw [← this, ← Array.foldl_toList, Array.toList_zipIdx]

def xfill (place : Nat → Option (Nat × Nat)) (cells : List SV) : List (Nat × SV) → Option (List SV)
  | [] => some cells
  | (i, v) :: rest => (match place i with
    | none => none
    | some (off, size) => if v.cells.length = size ∧ off + v.cells.length ≤ cells.length then xfill place (wr cells off v.cells) rest else none)

theorem xfill_run {ρ : Env} {place : Nat → Option (Nat × Nat)} : ∀ (ps : List (Nat × SV)) (cells out : List SV) (C : List Value) (Ps : List (Nat × Value)), xfill place cells ps = some out → denl ρ cells = some C →
    ps.map (·.1) = Ps.map (·.1) → denl ρ (ps.map (·.2)) = some (Ps.map (·.2)) → ∃ O, denl ρ out = some O ∧ Instr.fill place C.toArray Ps = some O.toArray
  | [], cells, out, C, Ps, h, hC, h1, h2 => by
    simp [xfill] at h; subst h
    have : Ps = [] := by cases Ps <;> simp_all
    subst this
    exact ⟨C, hC, rfl⟩
  | (i, v) :: ps, cells, out, C, [], h, hC, h1, h2 => by simp at h1
  | (i, v) :: ps, cells, out, C, (i', V) :: Ps, h, hC, h1, h2 => by
    simp only [List.map_cons, List.cons.injEq] at h1 h2
    obtain ⟨rfl, h1⟩ := h1
    obtain ⟨V', M, hv, hm, hVM⟩ := denl_cons.1 h2
    injection hVM with hV1 hV2; subst hV1; subst hV2
    simp only [xfill] at h
    simp only [Instr.fill]
    split at h
    · cases h
    · rename_i off size hp
      simp only [hp]
      split at h
      · rename_i hc
        have hcd := cells_den hv
        have hl := denl_length hcd
        have hl2 := denl_length hC
        have hsz : V.cells.size = v.cells.length := by simpa using hl
        have c1 : ¬ (V.cells.size ≠ size || decide (off + V.cells.size > C.toArray.size)) = true := by
          simp [hsz, hl2]; omega
        rw [if_neg c1]
        have hs := splice V.cells C.toArray off (by rw [hsz]; simp [hl2]; exact hc.2)
        have hw := denl_wr hC hcd off
        obtain ⟨O, h3, h4⟩ := xfill_run ps (wr cells off v.cells) out _ Ps h hw h1 hm
        refine ⟨O, h3, ?_⟩
        rw [← h4]
        congr 1

      · cases h

def rep (n : Nat) (z : List SV) : List SV := match n with
  | 0 => []
  | n + 1 => z ++ rep n z
theorem rep_zero (z : List SV) : rep 0 z = [] := rfl
theorem rep_succ (n : Nat) (z : List SV) : rep (n + 1) z = z ++ rep n z := rfl
theorem rep_length (n : Nat) (z : List SV) : (rep n z).length = n * z.length := by
  induction n with
  | zero => simp [rep]
  | succ n ih => simp [rep, ih, Nat.add_mul]; omega

theorem denl_rep {ρ : Env} {z : List SV} {Z : List Value} (h : denl ρ z = some Z) (n : Nat) :
    denl ρ (rep n z) = some (((List.range (n * Z.length)).map fun i => (Z.toArray)[i % Z.length]!)) := by
  induction n with
  | zero => simp [rep, denl]
  | succ n ih =>
    have hd := denl_append h ih
    rw [rep_succ, hd]
    congr 1
    rw [Nat.add_mul, Nat.one_mul, Nat.add_comm, List.range_add, List.map_append, List.map_map]
    congr 1
    · apply List.ext_getElem?
      intro i
      simp only [List.getElem?_map]
      by_cases hi : i < Z.length
      · simp [hi, Nat.mod_eq_of_lt hi]
      · simp [hi]
    · apply List.map_congr_left
      intro i _
      simp

theorem madeCells_rep {ρ : Env} {z : SV} {Z : Value} (h : den ρ z = some Z) (n size : Nat) (hs : z.cells.length = size) :
    denl ρ (rep n z.cells) = some ((Array.range (n * size)).map (Z.cells[· % Z.cells.size]!)).toList := by
  have hc := cells_den h
  have hl := denl_length hc
  rw [denl_rep hc]
  simp only [Array.length_toList] at hl
  simp [hl, hs]
end Go.Sx
