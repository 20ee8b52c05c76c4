/- Part of an executor of given code on symbolic values, with its proof of soundness: what is proved stands in each theorem. -/
import Derived.Test.YtnnmofebjfpcnaaGreatSxEff1
set_option linter.unusedVariables false
set_option linter.unusedSimpArgs false

namespace Go.Sx
open Go.RowKit

/-! ## Slicing -/
/-- a bound: its number, and what is owed -/
def xbd (v : Option SV) (dflt : Int) : Option Int :=
  match v with
  | none => some dflt
  | some (.int _ i) => some i
  | some (.num _ i) => some i
  | some _ => none

structure SlIn where
  lo : Option SV
  hi : Option SV
  mx : Option SV

def knO : Option SV → Bool
  | none => true
  | some v => v.known
def SlIn.kn (b : SlIn) : Bool := knO b.lo && knO b.hi && knO b.mx

def xslice (P : Program) (hp : Heap) (t : TypeId) (v : SV) (b : SlIn) : Option (SV × List Prop) :=
  match P.underlying t with
  | some (.array n e) => (match v, sizeT P e, b.mx with
    | .ptr j off, some z, none => (match xbd b.hi n, xbd b.lo 0 with
      | some h, some l => (match chk b.kn (0 ≤ l ∧ l ≤ h ∧ h ≤ n) with
        | some o => some (.sl j (if n = l.toNat then off else off + l.toNat * z) (h.toNat - l.toNat) (n - l.toNat), o)
        | none => none)
      | _, _ => none)
    | .ptr j off, some z, some mv => (match xbd (some mv) n, xbd b.hi n, xbd b.lo 0, b.hi with
      | some m, some h, some l, some _ => (match chk b.kn (0 ≤ l ∧ l ≤ h ∧ h ≤ m ∧ m ≤ n) with
        | some o => some (.sl j (if m.toNat = l.toNat then off else off + l.toNat * z) (h.toNat - l.toNat) (m.toNat - l.toNat), o)
        | none => none)
      | _, _, _, _ => none)
    | _, _, _ => none)
  | some (.slice e) => (match v, sizeT P e, b.mx with
    | .sl j off len cap, some z, none => (match xbd b.hi len, xbd b.lo 0 with
      | some h, some l => (match chk b.kn (0 ≤ l ∧ l ≤ h ∧ h ≤ cap) with
        | some o => some (.sl j (if cap = l.toNat then off else off + l.toNat * z) (h.toNat - l.toNat) (cap - l.toNat), o)
        | none => none)
      | _, _ => none)
    | .rw j z' lo len, some z, none => (match xbd b.hi len, xbd b.lo 0, get hp j with
      | some h, some l, some ent => (match ent.zcells? with
        | some (z2, cs) => if z = z' ∧ z = z2 then some (.rw j z (lo + l.toNat) (h.toNat - l.toNat), [0 ≤ l ∧ l ≤ h ∧ h ≤ len, (lo + len) * z ≤ cs.length, 0 < z, l = 0 ∨ l < h]) else none
        | none => none)
      | _, _, _ => none)
    | .nils, some _, none => (match xbd b.hi 0, xbd b.lo 0 with
      | some h, some l => (match chk b.kn (l = 0 ∧ h = 0) with
        | some o => some (.nils, o)
        | none => none)
      | _, _ => none)
    | _, _, _ => none)
  | _ => none

theorem xbd_lo {v : Option SV} {d i : Int} (h : xbd v d = some i) {ρ : Env} {X : Option Value} (hx : ∀ s, v = some s → ∃ V, X = some V ∧ den ρ s = some V) (hn : v = none → X = none) :
    (X = none ∧ i = d) ∨ ∃ k, X = some (.int k i) := by
  cases v with
  | none => simp [xbd] at h; exact .inl ⟨hn rfl, h.symm⟩
  | some s =>
    obtain ⟨V, h1, h2⟩ := hx s rfl
    cases s <;> simp [xbd] at h <;> (subst h; simp [den] at h2; subst h2; exact .inr ⟨_, h1⟩)

theorem bound_run {P : Program} (k : IntKind) (i : Int) (y : Nat) (code : BoundsCode) (W : World) (h : 0 ≤ i ∧ i ≤ y) : (Instr.sliceBound (.int k i) y code).run P W = .ok i.toNat W := by
  simp [Instr.sliceBound, asIntOf, h]

/-- The bounds, all at once. -/
theorem bounds_run {P : Program} (isS : Bool) (len cap : Nat) (X Y Z : Option Value) (l h m : Int) (W : World)
    (hl : (X = none ∧ l = 0) ∨ ∃ k, X = some (.int k l)) (hh : (Y = none ∧ h = len) ∨ ∃ k, Y = some (.int k h)) (hm : (Z = none ∧ m = cap) ∨ ((∃ k, Z = some (.int k m)) ∧ Y ≠ none))
    (hb : 0 ≤ l ∧ l ≤ h ∧ h ≤ m ∧ m ≤ cap) (hlen : Y = none → len ≤ cap) : (Instr.sliceBounds isS len cap X Y Z).run P W = .ok (l.toNat, h.toNat, m.toNat) W := by
  obtain ⟨b1, b2, b3, b4⟩ := hb
  rcases hm with ⟨rfl, rfl⟩ | ⟨⟨km, rfl⟩, hy⟩
  · rcases hh with ⟨rfl, rfl⟩ | ⟨kh, rfl⟩
    · rcases hl with ⟨rfl, rfl⟩ | ⟨kl, rfl⟩
      · simp [Instr.sliceBounds]
      · have := bound_run (P := P) kl l len .sliceB W ⟨b1, by omega⟩
        simp [Instr.sliceBounds, this]
    · have e1 := bound_run (P := P) kh h cap (if isS then .sliceAcap else .sliceAlen) W ⟨by omega, by omega⟩
      rcases hl with ⟨rfl, rfl⟩ | ⟨kl, rfl⟩
      · simp [Instr.sliceBounds, e1]
      · have e2 := bound_run (P := P) kl l h.toNat .sliceB W ⟨b1, by omega⟩
        simp [Instr.sliceBounds, e1, e2]
  · have e0 := bound_run (P := P) km m cap (if isS then .slice3Acap else .slice3Alen) W ⟨by omega, by omega⟩
    rcases hh with ⟨rfl, _⟩ | ⟨kh, rfl⟩
    · exact absurd rfl hy
    · have e1 := bound_run (P := P) kh h m.toNat .slice3B W ⟨by omega, by omega⟩
      rcases hl with ⟨rfl, rfl⟩ | ⟨kl, rfl⟩
      · simp [Instr.sliceBounds, e0, e1]
      · have e2 := bound_run (P := P) kl l h.toNat .slice3C W ⟨b1, by omega⟩
        simp [Instr.sliceBounds, e0, e1, e2]

theorem xslice_run {P : Program} {hp : Heap} {t : TypeId} {v u : SV} {b : SlIn} {o : List Prop} (h : xslice P hp t v b = some (u, o)) (ho : All o) {ρ : Env} {W0 : World} {S : Nat → Prop} {W : World} (s : Sat W0 S ρ hp W)
    {V : Value} (hv : den ρ v = some V) {X Y Z : Option Value}
    (hX : ∀ s, b.lo = some s → ∃ V, X = some V ∧ den ρ s = some V) (hXn : b.lo = none → X = none)
    (hY : ∀ s, b.hi = some s → ∃ V, Y = some V ∧ den ρ s = some V) (hYn : b.hi = none → Y = none)
    (hZ : ∀ s, b.mx = some s → ∃ V, Z = some V ∧ den ρ s = some V) (hZn : b.mx = none → Z = none) :
    ∃ U, den ρ u = some U ∧ (Instr.sliceAt t V X Y Z).run P W = .ok U W := by
  unfold xslice at h
  split at h
  · rename_i n e hu
    have hur := run_underlying hu W
    split at h
    · rename_i j off z hz hmx
      obtain ⟨lc, a, h1, h2, rfl⟩ := den_ptr hv
      have hzr := sizeT_run hz W
      split at h
      · rename_i hh ll hhi hlo
        split at h
        case h_2 => cases h
        rename_i oc hchk
        simp only [Option.some.injEq, Prod.mk.injEq] at h
        obtain ⟨rfl, rfl⟩ := h
        obtain ⟨o1, o2, o3⟩ := chk_ok hchk ho
        have hb := bounds_run (P := P) false n n X Y Z ll hh n W (xbd_lo hlo hX hXn) (xbd_lo hhi hY hYn) (.inl ⟨hZn hmx, rfl⟩) ⟨o1, o2, o3, by omega⟩ (fun _ => Nat.le_refl _)
        refine ⟨.slice (some (a.add (if n = ll.toNat then off else off + ll.toNat * z))) (hh.toNat - ll.toNat) (n - ll.toNat), by simp [den, h1, h2], ?_⟩
        simp only [Instr.sliceAt, Sem.run_bind, hur, Result.andThen_ok, Instr.sureAddr, Sem.run_pure, hb, hzr, Int.toNat_natCast]
        congr 2
        split <;> simp [Addr.add_add]
      · cases h
    · rename_i j off z mv hz hmx
      obtain ⟨lc, a, h1, h2, rfl⟩ := den_ptr hv
      have hzr := sizeT_run hz W
      split at h
      · rename_i mm hh ll hs hm hhi hlo hsome
        split at h
        case h_2 => cases h
        rename_i oc hchk
        simp only [Option.some.injEq, Prod.mk.injEq] at h
        obtain ⟨rfl, rfl⟩ := h
        obtain ⟨o1, o2, o3, o4⟩ := chk_ok hchk ho
        have hmm : ∃ k, Z = some (.int k mm) := by
          rcases xbd_lo hm (X := Z) (ρ := ρ) (fun s hs => hZ s (by rw [hmx]; exact hs)) (fun hh => by cases hh) with ⟨hh1, _⟩ | hh1
          · obtain ⟨V, hV, _⟩ := hZ mv hmx
            rw [hV] at hh1; cases hh1
          · exact hh1
        have hyn : Y ≠ none := by
          obtain ⟨V, hV, _⟩ := hY hs hsome
          rw [hV]; simp
        have hb := bounds_run (P := P) false n n X Y Z ll hh mm W (xbd_lo hlo hX hXn) (xbd_lo hhi hY hYn) (.inr ⟨hmm, hyn⟩) ⟨o1, o2, o3, o4⟩ (fun _ => Nat.le_refl _)
        refine ⟨.slice (some (a.add (if mm.toNat = ll.toNat then off else off + ll.toNat * z))) (hh.toNat - ll.toNat) (mm.toNat - ll.toNat), by simp [den, h1, h2], ?_⟩
        simp only [Instr.sliceAt, Sem.run_bind, hur, Result.andThen_ok, Instr.sureAddr, Sem.run_pure, hb, hzr]
        congr 2
        split <;> simp [Addr.add_add]
      · cases h
    · cases h
  · rename_i e hu
    have hur := run_underlying hu W
    split at h
    · rename_i j off len cap z hz hmx
      obtain ⟨lc, a, h1, h2, rfl⟩ := den_sl hv
      have hzr := sizeT_run hz W
      split at h
      · rename_i hh ll hhi hlo
        split at h
        case h_2 => cases h
        rename_i oc hchk
        simp only [Option.some.injEq, Prod.mk.injEq] at h
        obtain ⟨rfl, rfl⟩ := h
        obtain ⟨o1, o2, o3⟩ := chk_ok hchk ho
        have hh0 := xbd_lo hhi hY hYn
        have hb := bounds_run (P := P) true len cap X Y Z ll hh cap W (xbd_lo hlo hX hXn) hh0 (.inl ⟨hZn hmx, rfl⟩) ⟨o1, o2, o3, by omega⟩ (fun hy => by
          rcases hh0 with ⟨_, rfl⟩ | ⟨k, hk⟩
          · omega
          · rw [hk] at hy; cases hy)
        refine ⟨.slice (some (a.add (if cap = ll.toNat then off else off + ll.toNat * z))) (hh.toNat - ll.toNat) (cap - ll.toNat), by simp [den, h1, h2], ?_⟩
        simp only [Instr.sliceAt, Instr.slice, Sem.run_bind, hur, Result.andThen_ok, Sem.run_pure, hb, hzr, Int.toNat_natCast]
        congr 2
        split <;> simp [Addr.add_add]
      · cases h
    · rename_i j z' lo len z hz hmx
      obtain ⟨lc, h1, rfl⟩ := den_rw hv
      have hzr := sizeT_run hz W
      split at h
      · rename_i hh ll ent hhi hlo hent
        split at h
        · rename_i z2 cs hcs
          split at h
          · rename_i hzz
            obtain ⟨hz1, hz2⟩ := hzz
            subst hz1; subst hz2
            simp only [Option.some.injEq, Prod.mk.injEq] at h
            obtain ⟨rfl, rfl⟩ := h
            simp only [All, and_true] at ho
            obtain ⟨⟨o1, o2, o3⟩, o4, o5, o6⟩ := ho
            obtain ⟨l', hl', ok⟩ := s.ent j ent hent
            rw [h1] at hl'; injection hl' with hl'; subst hl'
            obtain ⟨_, hcap, hnil⟩ := Ent.zcap ok hcs
            refine ⟨lc.row z (lo + ll.toNat) (hh.toNat - ll.toNat), by simp [den, h1], ?_⟩
            have hh0 := xbd_lo hhi hY hYn
            have hl0 := xbd_lo hlo hX hXn
            cases ha : lc.adr with
            | none =>
              have hcs0 := hnil ha
              have hl0' : lo + len = 0 := by
                have : (lo + len) * z = 0 := by rw [hcs0] at o4; simpa using o4
                rcases Nat.mul_eq_zero.1 this with h | h
                · exact h
                · omega
              have hlen : len = 0 := by omega
              subst hlen
              have e1 : hh = 0 := by omega
              have e2 : ll = 0 := by omega
              subst e1; subst e2
              have hb := bounds_run (P := P) true 0 0 X Y Z 0 0 0 W hl0 hh0 (.inl ⟨hZn hmx, rfl⟩) ⟨by omega, by omega, by omega, by omega⟩ (fun _ => Nat.le_refl _)
              simp only [Loc.row, ha]
              simp only [Instr.sliceAt, Instr.slice, Sem.run_bind, hur, Result.andThen_ok, Sem.run_pure, hb, hzr]
              simp
            | some a =>
              have hc := hcap a ha
              have hle : lo + len ≤ lc.cap := Nat.le_of_mul_le_mul_right (Nat.le_trans o4 hc) o5
              have hb := bounds_run (P := P) true len (lc.cap - lo) X Y Z ll hh ((lc.cap - lo : Nat) : Int) W hl0 hh0 (.inl ⟨hZn hmx, rfl⟩) ⟨o1, o2, by omega, by omega⟩ (fun _ => by omega)
              simp only [Loc.row, ha]
              simp only [Instr.sliceAt, Instr.slice, Sem.run_bind, hur, Result.andThen_ok, Sem.run_pure, hb, hzr, Int.toNat_natCast]
              have e3 : lc.cap - lo - ll.toNat = lc.cap - (lo + ll.toNat) := by omega
              rw [e3]
              congr 2
              split
              · rename_i hm
                have e4 : ll = 0 := by omega
                subst e4; simp
              · simp [Addr.add_add, Nat.add_mul]
          · cases h
        · cases h
      · cases h
    · rename_i z hz hmx
      simp [den] at hv; subst hv
      have hzr := sizeT_run hz W
      split at h
      · rename_i hh ll hhi hlo
        split at h
        case h_2 => cases h
        rename_i oc hchk
        simp only [Option.some.injEq, Prod.mk.injEq] at h
        obtain ⟨rfl, rfl⟩ := h
        obtain ⟨rfl, rfl⟩ := chk_ok hchk ho
        have hb := bounds_run (P := P) true 0 0 X Y Z 0 0 0 W (xbd_lo hlo hX hXn) (xbd_lo hhi hY hYn) (.inl ⟨hZn hmx, rfl⟩) ⟨by omega, by omega, by omega, by omega⟩ (fun _ => Nat.le_refl _)
        refine ⟨_, rfl, ?_⟩
        simp only [Instr.sliceAt, Instr.slice, Sem.run_bind, hur, Result.andThen_ok, Sem.run_pure, hb, hzr]
        simp
      · cases h
    · cases h
  · cases h
end Go.Sx
