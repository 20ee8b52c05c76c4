/- Part of an executor of given code on symbolic values, with its proof of soundness: what is proved stands in each theorem. -/
import Derived.Test.YtnnmofebjfpcnaaGreatSxSilent
set_option linter.unusedVariables false
set_option linter.unusedSimpArgs false

namespace Go.Sx
open Go.RowKit

theorem den_ptr {ρ : Env} {j off : Nat} {V : Value} (h : den ρ (.ptr j off) = some V) : ∃ l a, ρ j = some l ∧ l.adr = some a ∧ V = .pointer (some (a.add off)) := by
  simp only [den, Option.bind_eq_some_iff, Option.map_eq_some_iff] at h
  obtain ⟨l, h1, a, h2, rfl⟩ := h; exact ⟨l, a, h1, h2, rfl⟩
theorem den_sl {ρ : Env} {j off n c : Nat} {V : Value} (h : den ρ (.sl j off n c) = some V) : ∃ l a, ρ j = some l ∧ l.adr = some a ∧ V = .slice (some (a.add off)) n c := by
  simp only [den, Option.bind_eq_some_iff, Option.map_eq_some_iff] at h
  obtain ⟨l, h1, a, h2, rfl⟩ := h; exact ⟨l, a, h1, h2, rfl⟩
theorem den_rw {ρ : Env} {j z lo n : Nat} {V : Value} (h : den ρ (.rw j z lo n) = some V) : ∃ l, ρ j = some l ∧ V = l.row z lo n := by
  simp only [den, Option.map_eq_some_iff] at h
  obtain ⟨l, h1, rfl⟩ := h; exact ⟨l, h1, rfl⟩
theorem den_agg {ρ : Env} {l : List SV} {V : Value} (h : den ρ (.agg l) = some V) : ∃ A, denl ρ l = some A ∧ V = .agg A.toArray := by
  simp only [den, Option.map_eq_some_iff] at h
  obtain ⟨A, h1, rfl⟩ := h; exact ⟨A, h1, rfl⟩
theorem den_tup {ρ : Env} {l : List SV} {V : Value} (h : den ρ (.tup l) = some V) : ∃ A, denl ρ l = some A ∧ V = .tuple A.toArray := by
  simp only [den, Option.map_eq_some_iff] at h
  obtain ⟨A, h1, rfl⟩ := h; exact ⟨A, h1, rfl⟩
theorem den_iface {ρ : Env} {t : TypeId} {v : SV} {V : Value} (h : den ρ (.iface t v) = some V) : ∃ A, den ρ v = some A ∧ V = .iface t A := by
  simp only [den, Option.map_eq_some_iff] at h
  obtain ⟨A, h1, rfl⟩ := h; exact ⟨A, h1, rfl⟩
theorem den_fn {ρ : Env} {f : Nat} {x y : List SV} {V : Value} (h : den ρ (.fn f x y) = some V) : ∃ A B, denl ρ x = some A ∧ denl ρ y = some B ∧ V = .func (.func f) A.toArray B.toArray := by
  simp only [den, Option.bind_eq_some_iff, Option.map_eq_some_iff] at h
  obtain ⟨A, h1, B, h2, rfl⟩ := h; exact ⟨A, B, h1, h2, rfl⟩

theorem add_comm3 (a : Addr) (x y : Nat) : (a.add x).add y = a.add (x + y) := Addr.add_add a x y

theorem xcut_part {P : Program} {t : TypeId} {cs : List SV} {off : Nat} {v : SV} (h : xcut P t cs off = some v) {ρ : Env} {Vs : List Value} (hd : denl ρ cs = some Vs) (W : World) :
    ∃ V, den ρ v = some V ∧ (part t Vs.toArray off).run P W = .ok V W := by
  unfold xcut at h
  cases hag : isAggT P t with
  | none => simp [hag] at h
  | some b =>
    have hrun := isAggT_run hag W
    cases b with
    | false =>
      simp only [hag] at h
      obtain ⟨V, h1, h2⟩ := denl_get hd off v h
      exact ⟨V, h1, by simp [part, hrun, h2]⟩
    | true =>
      simp only [hag] at h
      cases hs : sizeT P t with
      | none => simp [hs] at h
      | some n =>
        simp only [hs] at h
        cases hk : takeN n (cs.drop off) with
        | none => simp [hk] at h
        | some l =>
          simp only [hk, Option.some.injEq] at h; subst h
          obtain ⟨h1, h2⟩ := takeN_eq _ _ _ hk
          have hdl := denl_take (denl_drop hd off) n
          rw [← h1] at hdl
          refine ⟨.agg ((Vs.drop off).take n).toArray, by simp [den, hdl], ?_⟩
          have hrun2 := sizeT_run hs W
          simp [part, hrun, hrun2, List.extract_toArray, List.extract_eq_take_drop]

theorem xfa_run {P : Program} {s : TypeId} {f : Nat} {x v : SV} (h : xfa P s f x = some v) {ρ : Env} {X : Value} (hx : den ρ x = some X) (W : World) :
    ∃ V, den ρ v = some V ∧ (Instr.fieldAt s X f).run P W = .ok V W := by
  cases x with
  | ptr j off =>
    obtain ⟨l, a, h1, h2, rfl⟩ := den_ptr hx
    simp only [xfa] at h
    split at h
    · rename_i fs hu
      split at h
      · rename_i fd hfd
        split at h
        · rename_i n hs
          simp only [Option.some.injEq] at h; subst h
          refine ⟨.pointer (some (a.add (off + fd.offset))), by simp [den, h1, h2], ?_⟩
          have hrun := run_underlying hu W
          have hrun2 := sizeT_run hs W
          simp [Instr.fieldAt, hrun, hfd, Instr.sureAddr, fieldPlace, hrun2, Addr.add_add]
        · cases h
      · cases h
    · cases h
  | _ => simp [xfa] at h

theorem xfield_run {P : Program} {s : TypeId} {f : Nat} {x v : SV} (h : xfield P s f x = some v) {ρ : Env} {X : Value} (hx : den ρ x = some X) (W : World) :
    ∃ V, den ρ v = some V ∧ (Instr.field s X f).run P W = .ok V W := by
  cases x with
  | agg l =>
    obtain ⟨A, h1, rfl⟩ := den_agg hx
    simp only [xfield] at h
    split at h
    · rename_i fs hu
      split at h
      · rename_i fd hfd
        obtain ⟨V, h2, h3⟩ := xcut_part h h1 W
        have hrun := run_underlying hu W
        exact ⟨V, h2, by simp [Instr.field, hrun, hfd, asAgg, h3]⟩
      · cases h
    · cases h
  | _ => simp [xfield] at h

theorem xix_run {P : Program} {t : TypeId} {kn : Bool} {x y v : SV} {o : List Prop} (h : xix P t kn x y = some (v, o)) (ho : All o) {ρ : Env} {X Y : Value} (hx : den ρ x = some X) (hy : den ρ y = some Y) (W : World) :
    ∃ V, den ρ v = some V ∧ (Instr.index t X Y).run P W = .ok V W := by
  unfold xix at h
  split at h
  · rename_i l k i
    obtain ⟨A, h1, rfl⟩ := den_agg hx
    simp [den] at hy; subst hy
    split at h
    · rename_i n e hu
      split at h
      · rename_i z hz
        split at h
        · rename_i u o' hu2 hc
          simp only [Option.some.injEq, Prod.mk.injEq] at h
          obtain ⟨rfl, rfl⟩ := h
          have ho := chk_ok hc ho
          obtain ⟨V, h2, h3⟩ := xcut_part hu2 h1 W
          have hrun := run_underlying hu W
          have hrun2 := sizeT_run hz W
          refine ⟨V, h2, ?_⟩
          simp [Instr.index, asIntOf, hrun, ho, hrun2, h3]
        · cases h
      · cases h
    · cases h
  · rename_i st k i
    simp [den] at hx hy; subst hx; subst hy
    split at h
    · rename_i hu
      split at h
      · rename_i b o' hb hc
        simp only [Option.some.injEq, Prod.mk.injEq] at h
        obtain ⟨rfl, rfl⟩ := h
        have ho := chk_ok hc ho
        have hrun := run_underlying hu W
        refine ⟨_, rfl, ?_⟩
        have hb2 : st[i.toNat]? = some b := by
          rw [Array.getElem?_eq_some_iff] at hb
          obtain ⟨h1, h2⟩ := hb
          have h3 : i.toNat < st.size := h1
          rw [getElem?_pos st i.toNat h3]
          exact congrArg some h2
        simp [Instr.index, asIntOf, hrun, ho, hb2]
      · cases h
    · cases h
  · cases h

theorem xia_run {P : Program} {t : TypeId} {x y v : SV} {o : List Prop} (h : xia P t x y = some (v, o)) (ho : All o) {ρ : Env} {X Y : Value} (hx : den ρ x = some X) (hy : den ρ y = some Y) (W : World) :
    ∃ V, den ρ v = some V ∧ (Instr.indexAt t X Y).run P W = .ok V W := by
  unfold xia at h
  split at h
  · rename_i j off k i
    obtain ⟨l, a, h1, h2, rfl⟩ := den_ptr hx
    simp [den] at hy; subst hy
    split at h
    · rename_i n e hu
      split at h
      · rename_i z hz
        simp only [Option.some.injEq, Prod.mk.injEq] at h
        obtain ⟨rfl, rfl⟩ := h
        simp [All] at ho
        refine ⟨.pointer (some (a.add (off + i.toNat * z))), by simp [den, h1, h2], ?_⟩
        have hrun := run_underlying hu W
        have hrun2 := sizeT_run hz W
        simp [Instr.indexAt, asIntOf, Instr.sureAddr, hrun, ho, hrun2, Addr.add_add]
      · cases h
    · cases h
  · rename_i j off len cap k i
    obtain ⟨l, a, h1, h2, rfl⟩ := den_sl hx
    simp [den] at hy; subst hy
    split at h
    · rename_i e hu
      split at h
      · rename_i z hz
        simp only [Option.some.injEq, Prod.mk.injEq] at h
        obtain ⟨rfl, rfl⟩ := h
        simp [All] at ho
        refine ⟨.pointer (some (a.add (off + i.toNat * z))), by simp [den, h1, h2], ?_⟩
        have hrun := run_underlying hu W
        have hrun2 := sizeT_run hz W
        simp [Instr.indexAt, asIntOf, hrun, ho, hrun2, Addr.add_add]
      · cases h
    · cases h
  · cases h

theorem xia0_run {P : Program} {t : TypeId} {x y v : SV} {o : List Prop} (h : xia0 P t x y = some (v, o)) {ρ : Env} {X Y : Value} (hx : den ρ x = some X) (hy : den ρ y = some Y) (W : World) :
    ∃ V, den ρ v = some V ∧ (Instr.indexAt t X Y).run P W = .ok V W := by
  have : ∃ o', xia P t x y = some (v, o') ∧ All o' := by
    unfold xia0 at h
    split at h
    · split at h
      · rename_i hu
        split at h
        · rename_i hz
          split at h
          · rename_i ho
            simp only [Option.some.injEq, Prod.mk.injEq] at h
            obtain ⟨rfl, rfl⟩ := h
            refine ⟨[_], ?_, ⟨ho, trivial⟩⟩
            simp only [xia, hu, hz]
          · cases h
        · cases h
      · cases h
    · split at h
      · rename_i hu
        split at h
        · rename_i hz
          split at h
          · rename_i ho
            simp only [Option.some.injEq, Prod.mk.injEq] at h
            obtain ⟨rfl, rfl⟩ := h
            refine ⟨[_], ?_, ⟨ho, trivial⟩⟩
            simp only [xia, hu, hz]
          · cases h
        · cases h
      · cases h
    · cases h
  obtain ⟨o', h1, h2⟩ := this
  exact xia_run h1 h2 hx hy W

theorem xia2_run {P : Program} {hp : Heap} {t : TypeId} {x y v : SV} {o : List Prop} (h : xia2 P hp t x y = some (v, o)) (ho : All o) {ρ : Env} {W0 : World} {S : Nat → Prop} {W : World} (s : Sat W0 S ρ hp W)
    {X Y : Value} (hx : den ρ x = some X) (hy : den ρ y = some Y) :
    ∃ V, den ρ v = some V ∧ (Instr.indexAt t X Y).run P W = .ok V W := by
  unfold xia2 at h
  split at h
  · rename_i j z lo len k i
    obtain ⟨l, h1, rfl⟩ := den_rw hx
    simp [den] at hy; subst hy
    split at h
    · rename_i e hu
      split at h
      · rename_i z' hz
        split at h
        · rename_i hzz
          subst hzz
          split at h
          · rename_i ent he
            split at h
            · rename_i cs hcs
              simp only [Option.some.injEq, Prod.mk.injEq] at h
              obtain ⟨rfl, rfl⟩ := h
              simp only [All, and_true] at ho
              obtain ⟨⟨ho1, ho2⟩, ho3, ho4⟩ := ho
              obtain ⟨l', hl', ok⟩ := s.ent j ent he
              rw [h1] at hl'; injection hl' with hl'; subst hl'
              obtain ⟨Vs, _, _, hne, _⟩ := Ent.reads ok hcs
              have hlen : 0 < cs.length := by
                have : 0 < (lo + len) * z' := Nat.mul_pos (by omega) ho4
                omega
              obtain ⟨a, ha⟩ := hne (by intro hh; subst hh; simp at hlen)
              refine ⟨.pointer (some (a.add (lo * z' + i.toNat * z'))), by simp [den, h1, ha], ?_⟩
              have hrun := run_underlying hu W
              have hrun2 := sizeT_run hz W
              simp [Instr.indexAt, asIntOf, Loc.row, ha, hrun, ho1, ho2, hrun2, Addr.add_add]
            · cases h
          · cases h
        · cases h
      · cases h
    · cases h
  · exact xia_run h ho hx hy W

theorem xlen2_run {P : Program} {hp : Heap} {t ty : TypeId} {ats : Array TypeId} {as : Array Value} {x v : SV} {o : List Prop} (h : xlen2 P hp t x = some (v, o)) (ho : All o) {ρ : Env} {W0 : World} {S : Nat → Prop} {W : World} (s : Sat W0 S ρ hp W)
    {X : Value} (hx : den ρ x = some X) (h0 : ats[0]? = some t) (h1 : as[0]? = some X) :
    ∃ V, den ρ v = some V ∧ (Builtin.len_ ats ty as).run P W = .ok V W := by
  unfold xlen2 at h
  split at h
  · rename_i j z lo n
    obtain ⟨l, hl, rfl⟩ := den_rw hx
    split at h
    · rename_i e hu
      split at h
      · rename_i ent he
        split at h
        · rename_i cs hcs
          simp only [Option.some.injEq, Prod.mk.injEq] at h
          obtain ⟨rfl, rfl⟩ := h
          simp only [All, and_true] at ho
          obtain ⟨ho3, ho4⟩ := ho
          obtain ⟨l', hl', ok⟩ := s.ent j ent he
          rw [hl] at hl'; injection hl' with hl'; subst hl'
          obtain ⟨Vs, _, _, hne, _⟩ := Ent.reads ok hcs
          refine ⟨_, rfl, ?_⟩
          have hrun := run_underlying hu W
          by_cases hn : n = 0
          · subst hn
            cases ha : l.adr with
            | some a => simp [Builtin.len_, h0, h1, hrun, Loc.row, ha, goInt]
            | none => simp [Builtin.len_, h0, h1, hrun, Loc.row, ha, goInt]
          · have hlen : 0 < cs.length := by
              have : 0 < (lo + n) * z := Nat.mul_pos (by omega) ho4
              omega
            obtain ⟨a, ha⟩ := hne (by intro hh; subst hh; simp at hlen)
            simp [Builtin.len_, h0, h1, hrun, Loc.row, ha, goInt]
        · cases h
      · cases h
    · cases h
  · split at h
    · rename_i u hu
      simp only [Option.some.injEq, Prod.mk.injEq] at h
      obtain ⟨rfl, rfl⟩ := h
      unfold xlen at hu
      split at hu
      · rename_i e hut
        have hrun := run_underlying hut W
        split at hu
        · rename_i j off n c
          simp only [Option.some.injEq] at hu; subst hu
          obtain ⟨l, a, _, _, rfl⟩ := den_sl hx
          exact ⟨_, rfl, by simp [Builtin.len_, h0, h1, hrun, goInt]⟩
        · simp only [Option.some.injEq] at hu; subst hu
          simp [den] at hx; subst hx
          exact ⟨_, rfl, by simp [Builtin.len_, h0, h1, hrun, goInt]⟩
        · cases hu
      · rename_i n e hut
        have hrun := run_underlying hut W
        simp only [Option.some.injEq] at hu; subst hu
        exact ⟨_, rfl, by simp [Builtin.len_, h0, h1, hrun, goInt]⟩
      · rename_i hut
        have hrun := run_underlying hut W
        split at hu
        · simp only [Option.some.injEq] at hu; subst hu
          simp [den] at hx; subst hx
          exact ⟨_, rfl, by simp [Builtin.len_, h0, h1, hrun, goInt]⟩
        · cases hu
      · cases hu
    · cases h

theorem xmin_run {P : Program} {op : Builtin} {x y v : SV} (h : xmin op x y = some v) {ρ : Env} {X Y : Value} (hx : den ρ x = some X) (hy : den ρ y = some Y) (ats : Array TypeId) (ty : TypeId) (W : World) :
    ∃ V, den ρ v = some V ∧ (op = .min → (Builtin.min_ ats ty #[X, Y]).run P W = .ok V W) ∧ (op = .max → (Builtin.max_ ats ty #[X, Y]).run P W = .ok V W) := by
  unfold xmin at h
  split at h
  · simp [den] at hx hy; subst hx; subst hy
    split at h
    · rename_i hk; subst hk
      cases op <;> simp at h <;> (subst h; exact ⟨_, rfl, by simp [Builtin.min_, Builtin.min2], by simp [Builtin.max_, Builtin.max2]⟩)
    · cases h
  · cases h
end Go.Sx
