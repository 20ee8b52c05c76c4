/- Part of an executor of given code on symbolic values, with its proof of soundness: what is proved stands in each theorem. -/
import Derived.Test.YtnnmofebjfpcnaaGreatSxMain
set_option linter.unusedVariables false
set_option linter.unusedSimpArgs false

namespace Go.Sx
open Go.RowKit

/-- A function of plain values: whatever it was handed, it answers this, and turns nothing. -/
def Pure (P : Program) (f : FuncId) (as : List SV) (v : SV) : Prop := Con P f as [] v []

def out2 (r : Option (SV × Heap × Nat × Ds × List Prop)) : Option (SV × Heap × List Prop) :=
  match r with
  | some (v, h, _, _, o) => some (v, h, o)
  | none => none
theorem fn_of {P : Program} {D : Dat} (hL : LOK P D) {f : FuncId} {as : List SV} {h h' : Heap} {v : SV} {o : List Prop} (n nx : Nat) (ds : Ds) (hr : out2 (callFn P D n f as h nx ds) = some (v, h', o)) (ho : All o) : FnOK P f as h v h' := by
  cases hq : callFn P D n f as h nx ds with
  | none => rw [hq] at hr; simp [out2] at hr
  | some q =>
    obtain ⟨v', hh, nx', ds', o'⟩ := q
    rw [hq] at hr; simp only [out2, Option.some.injEq, Prod.mk.injEq] at hr
    obtain ⟨rfl, rfl, rfl⟩ := hr
    exact (sound hL n).fn _ _ _ _ _ _ _ _ _ _ hq ho

def out1 (r : Option (SV × Heap × Nat × Ds × List Prop)) : Option (SV × List Prop) :=
  match r with
  | some (v, _, _, _, o) => some (v, o)
  | none => none

theorem pure_of {P : Program} {D : Dat} (hL : LOK P D) {f : FuncId} {as : List SV} {v : SV} {o : List Prop} (n : Nat) (ds : Ds) (h : out1 (callFn P D n f as [] 0 ds) = some (v, o)) (ho : All o)
    (ha : nmInL [] as = true) (hv : nmIn [] v = true) : Pure P f as v := by
  cases hr : callFn P D n f as [] 0 ds with
  | none => rw [hr] at h; simp [out1] at h
  | some q =>
    obtain ⟨v', h', nx', ds', o'⟩ := q
    rw [hr] at h; simp only [out1, Option.some.injEq, Prod.mk.injEq] at h
    obtain ⟨rfl, rfl⟩ := h
    have hfn := (sound hL n).fn _ _ _ _ _ _ _ _ _ _ hr ho
    have := con_of_fn hfn id [] (by simp [renH]) (fun i j hi hj _ => by rcases hi with ⟨e, he⟩ | ⟨e, he⟩ <;> simp [get] at he) (by simp) (by simp [get]) (by simp [get]) (sup_nil ha) (sup_nil (by simp [nmInL, hv]))
    rw [renl_nil _ _ ha, ren_nil _ _ hv] at this
    exact this

theorem Pure.cast {P : Program} {f : FuncId} {as as' : List SV} {v v' : SV} (h : Pure P f as v) (ha : as = as') (hv : v = v') : Pure P f as' v' := by subst ha; subst hv; exact h

/-- .. as the kit's walk has it. -/
theorem Pure.calls {P : Program} {f : FuncId} {as : List SV} {v : SV} (h : Pure P f as v) {As : List Value} {V : Value} (hA : denl (fun _ => none) as = some As) (hV : ∀ ρ, den ρ v = some V) (W : World) :
    Calls P f As.toArray W (fun e W' => e = .returned V ∧ Below W.heap.size W W') := by
  have hsat : Sat W (fun _ => False) (fun _ => none) [] W := ⟨⟨rfl, rfl, rfl, Nat.le_refl _, fun _ _ _ => rfl⟩, fun _ _ => rfl, fun j e he => by simp [get] at he, fun i j ei ej li lj b _ hi => by simp [get] at hi, fun j e l b hj => by simp [get] at hj⟩
  refine (h W (fun _ => False) (fun _ => none) [] W As hsat (by simp) (by simp) hA).mono ?_
  rintro e W' ⟨ρ', V', _, hd, rfl, hs⟩
  rw [hV ρ'] at hd; injection hd with hd; subst hd
  exact ⟨rfl, ⟨hs.fr.os, hs.fr.tape, hs.fr.output, hs.fr.size, fun k hk => hs.fr.block k hk (fun h => h)⟩⟩
end Go.Sx
