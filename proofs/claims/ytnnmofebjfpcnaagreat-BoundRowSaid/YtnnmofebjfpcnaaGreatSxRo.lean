/- Part of an executor of given code on symbolic values, with its proof of soundness: what is proved stands in each theorem. -/
import Derived.Test.YtnnmofebjfpcnaaGreatSxLoop
set_option linter.unusedVariables false
set_option linter.unusedSimpArgs false

namespace Go.Sx
open Go.RowKit

/-- In heap h the value u is a slice of n pieces of z cells each, that are cs. -/
def Shows (h : Heap) (u : SV) (z n : Nat) (cs : List SV) : Prop :=
  ∀ (W0 : World) (S : Nat → Prop) (ρ : Env) (W : World) (U : Value), Sat W0 S ρ h W → den ρ u = some U →
    ∃ l : Loc, U = l.row z 0 n ∧ IsRo ρ W l z cs

theorem shows_nils {h : Heap} {z : Nat} : Shows h .nils z 0 [] := by
  intro W0 S ρ W U hs hd
  simp [den] at hd; subst hd
  exact ⟨⟨none, 0⟩, rfl, ⟨by simp, [], rfl, by simp, by simp, by simp⟩⟩

theorem ent_lt {ρ : Env} {W : World} {l : Loc} {e : Ent} {cs : List SV} (ok : e.ok ρ W l) (hc : e.cells? = some cs) {a : Addr} (ha : l.adr = some a) : a.block < W.heap.size := by
  have hl : e.live = true := by cases e <;> simp [Ent.cells?, Ent.live] at hc ⊢
  exact Ent.blk_lt ok hl a.block (by simp [Loc.blk, ha])
theorem add_block (a : Addr) (i : Nat) : (a.add i).block = a.block := by unfold Addr.add; split <;> rfl

theorem shows_sl {h : Heap} {j off n cap z : Nat} {e : Ent} {cells cs : List SV} (he : get h j = some e) (hc : e.cells? = some cells) (ht : takeN (n * z) (cells.drop off) = some cs) (hcap : n ≤ cap) : Shows h (.sl j off n cap) z n cs := by
  intro W0 S ρ W U hs hd
  obtain ⟨l, a, h1, h2, rfl⟩ := den_sl hd
  obtain ⟨l', hl', ok⟩ := hs.ent j e he
  rw [h1] at hl'; injection hl' with hl'; subst hl'
  obtain ⟨Vs, k1, k2, k3, k4⟩ := Ent.reads ok hc
  obtain ⟨t1, t2⟩ := takeN_eq _ _ _ ht
  have hdl := denl_take (denl_drop k1 off) (n * z)
  rw [← t1] at hdl
  refine ⟨⟨some (a.add off), cap⟩, by simp [Loc.row, Addr.add_add], ⟨?_, _, hdl, ?_, fun _ => ⟨_, rfl⟩, ?_⟩⟩
  · have : cs.length = n * z := by rw [t1, List.length_take]; omega
    rw [this]; exact Nat.mul_le_mul_right _ hcap
  · intro V hV; exact k2 V (List.mem_of_mem_drop (List.mem_of_mem_take hV))
  · intro b hb
    injection hb with hb; subst hb
    refine ⟨by rw [add_block]; exact ent_lt ok hc h2, fun i V hV => ?_⟩
    rw [Addr.add_add]
    refine k4 a h2 (off + i) V ?_
    rw [List.getElem?_take] at hV
    split at hV
    · rw [List.getElem?_drop] at hV; exact hV
    · cases hV

theorem shows_rw {h : Heap} {j lo n z : Nat} {e : Ent} {cells cs : List SV} (he : get h j = some e) (hc : e.zcells? = some (z, cells)) (ht : takeN (n * z) (cells.drop (lo * z)) = some cs) (hz : 0 < z) : Shows h (.rw j z lo n) z n cs := by
  intro W0 S ρ W U hs hd
  obtain ⟨l, h1, rfl⟩ := den_rw hd
  obtain ⟨l', hl', ok⟩ := hs.ent j e he
  rw [h1] at hl'; injection hl' with hl'; subst hl'
  obtain ⟨hcc, hcap, hnil⟩ := Ent.zcap ok hc
  obtain ⟨Vs, k1, k2, k3, k4⟩ := Ent.reads ok hcc
  obtain ⟨t1, t2⟩ := takeN_eq _ _ _ ht
  have hdl := denl_take (denl_drop k1 (lo * z)) (n * z)
  rw [← t1] at hdl
  have hlen : cs.length = n * z := by rw [t1, List.length_take]; omega
  have hone : ∀ V ∈ (Vs.drop (lo * z)).take (n * z), V.oneCell' = true := fun V hV => k2 V (List.mem_of_mem_drop (List.mem_of_mem_take hV))
  cases ha : l.adr with
  | none =>
    have hc0 := hnil ha
    have : n = 0 := by
      rw [hc0] at t2
      simp only [List.drop_nil, List.length_nil, Nat.le_zero] at t2
      rcases Nat.mul_eq_zero.1 t2 with h | h
      · exact h
      · omega
    subst this
    refine ⟨⟨none, 0⟩, by simp [Loc.row, ha], ⟨by simp [hlen], _, hdl, hone, fun hne => ?_, fun a ha => by cases ha⟩⟩
    exact absurd (List.eq_nil_of_length_eq_zero (by simpa using hlen)) hne
  | some a =>
    refine ⟨⟨some (a.add (lo * z)), l.cap - lo⟩, by simp [Loc.row, ha, Addr.add_add], ⟨?_, _, hdl, hone, fun _ => ⟨_, rfl⟩, ?_⟩⟩
    · rw [hlen]
      have h5 := hcap a ha
      by_cases hn : n = 0
      · subst hn; simp
      · have h6 : (lo + n) * z ≤ l.cap * z := by
          rw [List.length_drop] at t2
          have : n * z > 0 := Nat.mul_pos (by omega) hz
          rw [Nat.add_mul]; omega
        have h7 := Nat.le_of_mul_le_mul_right h6 hz
        exact Nat.mul_le_mul_right _ (by show n ≤ l.cap - lo; omega)
    · intro b hb
      injection hb with hb; subst hb
      refine ⟨by rw [add_block]; exact ent_lt ok hcc ha, fun i V hV => ?_⟩
      rw [Addr.add_add]
      refine k4 a ha (lo * z + i) V ?_
      rw [List.getElem?_take] at hV
      split at hV
      · rw [List.getElem?_drop] at hV; exact hV
      · cases hV

/-- An argument: a plain value, or a slice that is only read. -/
inductive VA where
  | pl (v : SV)
  | vw (u : SV) (z n : Nat) (cs : List SV)
def VA.out : VA → SV
  | .pl v => v
  | .vw u _ _ _ => u
def inn : Nat → List VA → List SV
  | _, [] => []
  | k, .pl v :: l => v :: inn (k + 1) l
  | k, .vw _ z n _ :: l => .rw k z 0 n :: inn (k + 1) l
def roH : Nat → List VA → Heap
  | _, [] => []
  | k, .pl _ :: l => roH (k + 1) l
  | k, .vw _ z _ cs :: l => roH (k + 1) l ++ [(k, .ro z cs)]
def VA.ok (rd : Heap) : VA → Prop
  | .pl v => nmIn [] v = true
  | .vw u z n cs => Shows rd u z n cs ∧ Sup (fun _ => False) cs

theorem roH_ge : ∀ (l : List VA) (k j : Nat) (e : Ent), get (roH k l) j = some e → k ≤ j ∧ e.mine = false ∧ e.live = true
  | [], k, j, e, h => by simp [roH, get] at h
  | .pl v :: l, k, j, e, h => by
    have := roH_ge l (k + 1) j e h
    exact ⟨by omega, this.2⟩
  | .vw u z n cs :: l, k, j, e, h => by
    simp only [roH] at h
    rw [get_app] at h
    cases hh : get (roH (k + 1) l) j with
    | some e' =>
      rw [hh] at h; simp only [Option.some.injEq] at h; subst h
      have := roH_ge l (k + 1) j e' hh
      exact ⟨by omega, this.2⟩
    | none =>
      rw [hh] at h
      simp only [get] at h
      cases hb : Nat.beq k j with
      | true =>
        rw [hb] at h; simp only [cond_true, Option.some.injEq] at h; subst h
        have := Nat.eq_of_beq_eq_true hb
        exact ⟨by omega, rfl, rfl⟩
      | false => rw [hb] at h; cases h

theorem roH_lt : ∀ (l : List VA) (k j : Nat) (e : Ent), get (roH k l) j = some e → j < k + l.length
  | [], k, j, e, h => by simp [roH, get] at h
  | .pl v :: l, k, j, e, h => by
    have := roH_lt l (k + 1) j e h
    simp only [List.length_cons]; omega
  | .vw u z n cs :: l, k, j, e, h => by
    simp only [roH] at h
    rw [get_app] at h
    simp only [List.length_cons]
    cases hh : get (roH (k + 1) l) j with
    | some e' =>
      have := roH_lt l (k + 1) j e' hh
      omega
    | none =>
      rw [hh] at h
      simp only [get] at h
      cases hb : Nat.beq k j with
      | true => have := Nat.eq_of_beq_eq_true hb; omega
      | false => rw [hb] at h; cases h

theorem nm_any {ρ ρ' : Env} {v : SV} {V : Value} (h : nmIn [] v = true) (hd : den ρ v = some V) : den ρ' v = some V :=
  nmIn_den (K := []) (fun j x hj => by cases hj) v V h hd

theorem ro_env {rd : Heap} {W0 : World} {S : Nat → Prop} {ρ : Env} {W : World} (hsat : Sat W0 S ρ rd W) : ∀ (l : List VA) (k : Nat) (As : List Value), (∀ x ∈ l, x.ok rd) → denl ρ (l.map VA.out) = some As →
    ∃ ρ0 : Env, (∀ j, get (roH k l) j = none → ρ0 j = none) ∧ (∀ j e, get (roH k l) j = some e → ∃ x z cs, ρ0 j = some x ∧ e = .ro z cs ∧ IsRo ρ W x z cs ∧ Sup (fun _ => False) cs) ∧ denl ρ0 (inn k l) = some As
  | [], k, As, _, hd => ⟨fun _ => none, fun _ _ => rfl, fun j e he => by simp [roH, get] at he, by simpa [inn, denl] using hd⟩
  | .pl v :: l, k, As, hok, hd => by
    simp only [List.map_cons, VA.out] at hd
    obtain ⟨V, M, h1, h2, rfl⟩ := denl_cons.1 hd
    obtain ⟨ρ0, q1, q2, q3⟩ := ro_env hsat l (k + 1) M (fun x hx => hok x (by simp [hx])) h2
    have hv : nmIn [] v = true := hok (.pl v) (by simp)
    exact ⟨ρ0, q1, q2, denl_cons.2 ⟨V, M, nm_any hv h1, q3, rfl⟩⟩
  | .vw u z n cs :: l, k, As, hok, hd => by
    simp only [List.map_cons, VA.out] at hd
    obtain ⟨V, M, h1, h2, rfl⟩ := denl_cons.1 hd
    obtain ⟨ρ0, q1, q2, q3⟩ := ro_env hsat l (k + 1) M (fun x hx => hok x (by simp [hx])) h2
    obtain ⟨hsh, hsup⟩ : Shows rd u z n cs ∧ Sup (fun _ => False) cs := hok (.vw u z n cs) (by simp)
    obtain ⟨x, hx, hro⟩ := hsh W0 S ρ W V hsat h1
    have hk0 : get (roH (k + 1) l) k = none := by
      cases hh : get (roH (k + 1) l) k with
      | none => rfl
      | some e => have := (roH_ge l (k + 1) k e hh).1; omega
    have hρk := q1 k hk0
    refine ⟨ρ0.upd k x, ?_, ?_, ?_⟩
    · intro j hj
      simp only [roH] at hj
      rw [get_app] at hj
      cases hh : get (roH (k + 1) l) j with
      | some e => rw [hh] at hj; cases hj
      | none =>
        rw [hh] at hj
        simp only [get] at hj
        cases hb : Nat.beq k j with
        | true => rw [hb] at hj; cases hj
        | false =>
          have : j ≠ k := fun h => by subst h; simp at hb
          simp only [Env.upd, if_neg this]
          exact q1 j hh
    · intro j e he
      simp only [roH] at he
      rw [get_app] at he
      cases hh : get (roH (k + 1) l) j with
      | some e' =>
        rw [hh] at he; simp only [Option.some.injEq] at he; subst he
        obtain ⟨y, z', cs', a1, a2, a3, a4⟩ := q2 j e' hh
        have hne : j ≠ k := fun h => by subst h; rw [hk0] at hh; cases hh
        exact ⟨y, z', cs', by simp only [Env.upd, if_neg hne]; exact a1, a2, a3, a4⟩
      | none =>
        rw [hh] at he
        simp only [get] at he
        cases hb : Nat.beq k j with
        | true =>
          rw [hb] at he; simp only [cond_true, Option.some.injEq] at he
          have := Nat.eq_of_beq_eq_true hb; subst this
          exact ⟨x, z, cs, by simp [Env.upd], he.symm, hro, hsup⟩
        | false => rw [hb] at he; cases he
    · refine denl_cons.2 ⟨V, M, ?_, denl_le (Env.upd_le hρk) _ _ q3, rfl⟩
      simp [den, Env.upd, hx]

theorem ok_sup {K : Nat → Prop} {ρa ρb : Env} (h : ∀ j x, K j → ρa j = some x → ρb j = some x) {e : Ent} (hs : SupE K e) {W : World} {l : Loc} (ok : e.ok ρa W l) : e.ok ρb W l := by
  cases e with
  | own t cs =>
    obtain ⟨b, Vs, h1, h2, h3, h4⟩ := ok.ex
    exact ⟨b, Vs, h1, hs ρa ρb h Vs h2, h3, h4⟩
  | row t z cs =>
    obtain ⟨Vs, n, h1, h2, h3⟩ := ok.ex
    exact ⟨Vs, n, hs ρa ρb h Vs h1, h2, h3⟩
  | ro z cs =>
    obtain ⟨Vs, h1, h2, h3, h4⟩ := ok.ex
    exact ⟨ok.cap, Vs, hs ρa ρb h Vs h1, h2, h3, h4⟩
  | mp cs =>
    obtain ⟨b, Vs, es, ck, h1, h2, h3, h4⟩ := ok.ex
    exact ⟨b, Vs, es, ck, h1, hs ρa ρb h Vs h2, h3, h4⟩
  | dead => trivial

/-- What a function does that only reads its slices, at any caller's. -/
theorem fn_ro {P : Program} {f : FuncId} {vs : List VA} {rd hf : Heap} {n : Nat} {v : SV} (hfn : FnOK P f (inn 0 vs) (roH 0 vs) v (hf ++ roH 0 vs)) (hs : ∀ x ∈ vs, x.ok rd)
    (hvn : vs.length ≤ n) (hk : keysLt n rd = true) (hg : keysGe n hf = true) (hr : noRo hf = true) (hv : Sup (fun j => n ≤ j) [v]) (hE : ∀ j e, get hf j = some e → SupE (fun j => n ≤ j) e) :
    FnOK P f (vs.map VA.out) rd v (hf ++ rd) := by
  intro W0 S ρ W As hA hsat
  obtain ⟨ρ0, q1, q2, q3⟩ := ro_env hsat vs 0 As hs hA
  have h0 : Sat W (fun _ => False) ρ0 (roH 0 vs) W := by
    refine ⟨⟨rfl, rfl, rfl, Nat.le_refl _, fun _ _ _ => rfl⟩, q1, ?_, ?_, ?_⟩
    · intro j e he
      obtain ⟨x, z, cs, a1, rfl, a3, a4⟩ := q2 j e he
      refine ⟨x, a1, ?_⟩
      obtain ⟨Vs, h1, h2⟩ := a3.ex
      exact ⟨a3.cap, Vs, a4 ρ ρ0 (fun _ _ h => h.elim) Vs h1, h2⟩
    · intro i j ei ej li lj b _ hi _ hm
      rw [(roH_ge vs 0 i ei hi).2.1] at hm; cases hm
    · intro j e l b he hm
      rw [(roH_ge vs 0 j e he).2.1] at hm; cases hm
  refine (hfn W _ ρ0 W As q3 h0).mono ?_
  rintro e W' ⟨ρ', V, _, hd, rfl, hs'⟩
  have hnone : ∀ j, n ≤ j → ρ j = none := fun j hj => hsat.key j (keysLt_spec hk j hj)
  have hro0 : ∀ j, n ≤ j → get (roH 0 vs) j = none := fun j hj => by
    cases hh : get (roH 0 vs) j with
    | none => rfl
    | some e => have := roH_lt vs 0 j e hh; omega
  let ρ2 : Env := fun j => match ρ j with | some l => some l | none => if n ≤ j then ρ' j else none
  have gf : ∀ j e, get hf j = some e → get (hf ++ roH 0 vs) j = some e := fun j e he => by rw [get_app, he]
  have l1 : Env.le ρ ρ2 := fun j l hl => by simp only [ρ2, hl]
  have l2 : ∀ j x, n ≤ j → ρ' j = some x → ρ2 j = some x := by
    intro j x hj hx
    simp only [ρ2, hnone j hj, if_pos hj]; exact hx
  have hb := hsat.below (W' := W') ⟨hs'.fr.os, hs'.fr.tape, hs'.fr.output, hs'.fr.size, fun k hk => hs'.fr.block k hk (fun h => h)⟩
  have old : ∀ j e, get rd j = some e → ∃ l, ρ j = some l ∧ ρ2 j = some l ∧ e.ok ρ W l := fun j e he => by
    obtain ⟨l, hl, ok⟩ := hsat.ent j e he
    exact ⟨l, hl, l1 j l hl, ok⟩
  have new : ∀ j e, get hf j = some e → ∃ l, ρ' j = some l ∧ ρ2 j = some l ∧ e.ok ρ' W' l := fun j e he => by
    obtain ⟨l, hl, ok⟩ := hs'.ent j e (gf j e he)
    exact ⟨l, hl, l2 j l (keysGe_spec hg j e he) hl, ok⟩
  have newblk : ∀ j e l b, get hf j = some e → e.live = true → ρ2 j = some l → l.blk = some b → W.heap.size ≤ b := by
    intro j e l b he hl hρ hbl
    obtain ⟨l', h1, h2, _⟩ := new j e he
    rw [hρ] at h2; injection h2 with h2; subst h2
    rcases hs'.mine j e l b (gf j e he) (noRo_spec hr j e he hl) h1 hbl with h | h
    · exact absurd h (fun h => h)
    · exact h
  have oldblk : ∀ j e l b, get rd j = some e → e.live = true → ρ2 j = some l → l.blk = some b → b < W.heap.size := by
    intro j e l b he hl hρ hbl
    obtain ⟨l', h1, h2, ok⟩ := old j e he
    rw [hρ] at h2; injection h2 with h2; subst h2
    exact Ent.blk_lt ok hl b hbl
  have mineLive : ∀ e : Ent, e.mine = true → e.live = true := by intro e; cases e <;> simp [Ent.mine, Ent.live]
  have hdv : den ρ2 v = some V := by
    have := hv ρ' ρ2 (fun j x hj hx => l2 j x hj hx) [V] (denl_cons.2 ⟨V, [], hd, rfl, rfl⟩)
    obtain ⟨V', M, h2, _, h3⟩ := denl_cons.1 this
    injection h3 with h3 _; rw [h3]; exact h2
  refine ⟨ρ2, V, l1, hdv, rfl, ⟨hb.fr, ?_, ?_, ?_, ?_⟩⟩
  · intro j hj
    rw [get_app] at hj
    cases hh : get hf j with
    | some e => rw [hh] at hj; cases hj
    | none =>
      rw [hh] at hj
      simp only [ρ2, hsat.key j hj]
      split
      · rename_i hn
        exact hs'.key j (by rw [get_app, hh]; exact hro0 j hn)
      · rfl
  · intro j e hj
    rw [get_app] at hj
    cases hh : get hf j with
    | some e' =>
      rw [hh] at hj; simp only [Option.some.injEq] at hj; subst hj
      obtain ⟨l, _, h2, ok⟩ := new j e' hh
      exact ⟨l, h2, ok_sup (fun j x hj hx => l2 j x hj hx) (hE j e' hh) ok⟩
    | none =>
      rw [hh] at hj
      obtain ⟨l, h1, h2, _⟩ := old j e hj
      obtain ⟨l', h3, ok⟩ := hb.ent j e hj
      rw [h1] at h3; injection h3 with h3; subst h3
      exact ⟨l, h2, Ent.ok_mono l1 (Nat.le_refl _) (fun _ _ => rfl) ok⟩
  · intro i j ei ej li lj b hij hi hj hmi hlj hli hlj2 hbi
    rw [get_app] at hi hj
    have hli' := mineLive _ hmi
    cases hhi : get hf i with
    | some e1 =>
      rw [hhi] at hi; simp only [Option.some.injEq] at hi; subst hi
      have hge := newblk i e1 li b hhi hli' hli hbi
      cases hhj : get hf j with
      | some e2 =>
        rw [hhj] at hj; simp only [Option.some.injEq] at hj; subst hj
        obtain ⟨l3, a1, a2, _⟩ := new i e1 hhi
        obtain ⟨l4, b1, b2, _⟩ := new j e2 hhj
        rw [hli] at a2; injection a2 with a2; subst a2
        rw [hlj2] at b2; injection b2 with b2; subst b2
        exact hs'.dist i j e1 e2 li lj b hij (gf i e1 hhi) (gf j e2 hhj) hmi hlj a1 b1 hbi
      | none =>
        rw [hhj] at hj
        intro hc
        have := oldblk j ej lj b hj hlj hlj2 hc
        omega
    | none =>
      rw [hhi] at hi
      have hlt := oldblk i ei li b hi hli' hli hbi
      cases hhj : get hf j with
      | some e2 =>
        rw [hhj] at hj; simp only [Option.some.injEq] at hj; subst hj
        intro hc
        have := newblk j e2 lj b hhj hlj hlj2 hc
        omega
      | none =>
        rw [hhj] at hj
        obtain ⟨l3, a1, a2, _⟩ := old i ei hi
        obtain ⟨l4, b1, b2, _⟩ := old j ej hj
        rw [hli] at a2; injection a2 with a2; subst a2
        rw [hlj2] at b2; injection b2 with b2; subst b2
        exact hsat.dist i j ei ej li lj b hij hi hj hmi hlj a1 b1 hbi
  · intro j e l b hj hm hl hbl
    rw [get_app] at hj
    cases hh : get hf j with
    | some e' =>
      rw [hh] at hj; simp only [Option.some.injEq] at hj; subst hj
      have := newblk j e' l b hh (mineLive _ hm) hl hbl
      exact .inr (Nat.le_trans hsat.fr.size this)
    | none =>
      rw [hh] at hj
      obtain ⟨l3, a1, a2, _⟩ := old j e hj
      rw [hl] at a2; injection a2 with a2; subst a2
      exact hsat.mine j e l b hj hm a1 hbl

def ShowsIn (rd : List (Nat × Ent)) (u : SV) (z n : Nat) (cs : List SV) : Prop := ∀ h : Heap, (∀ j e, (j, e) ∈ rd → get h j = some e) → Shows h u z n cs
def VA.okIn (rd : List (Nat × Ent)) : VA → Prop
  | .pl v => nmIn [] v = true
  | .vw u z n cs => ShowsIn rd u z n cs ∧ Sup (fun _ => False) cs

theorem showsIn_nils {rd : List (Nat × Ent)} {z : Nat} : ShowsIn rd .nils z 0 [] := fun _ _ => shows_nils
theorem showsIn_sl {rd : List (Nat × Ent)} {j off n cap z : Nat} {cells cs : List SV} (e : Ent) (he : (j, e) ∈ rd) (hc : e.cells? = some cells) (ht : takeN (n * z) (cells.drop off) = some cs) (hcap : n ≤ cap) : ShowsIn rd (.sl j off n cap) z n cs :=
  fun _ h => shows_sl (h j e he) hc ht hcap
theorem showsIn_rw {rd : List (Nat × Ent)} {j lo n z : Nat} {cells cs : List SV} (e : Ent) (he : (j, e) ∈ rd) (hc : e.zcells? = some (z, cells)) (ht : takeN (n * z) (cells.drop (lo * z)) = some cs) (hz : 0 < z) : ShowsIn rd (.rw j z lo n) z n cs :=
  fun _ h => shows_rw (h j e he) hc ht hz
theorem takeN_all : ∀ (l : List SV), takeN l.length l = some l
  | [] => rfl
  | v :: l => by simp [takeN, takeN_all l]
/-- a whole row of single cells -/
theorem showsIn_row {rd : List (Nat × Ent)} {j n : Nat} {t : TypeId} {cs : List SV} (he : (j, .row t 1 cs) ∈ rd) (hn : cs.length = n) : ShowsIn rd (.rw j 1 0 n) 1 n cs := by
  subst hn
  exact showsIn_rw _ he rfl (by simpa using takeN_all cs) (by omega)
theorem showsIn_ro {rd : List (Nat × Ent)} {j n : Nat} {cs : List SV} (he : (j, .ro 1 cs) ∈ rd) (hn : cs.length = n) : ShowsIn rd (.rw j 1 0 n) 1 n cs := by
  subst hn
  exact showsIn_rw _ he rfl (by simpa using takeN_all cs) (by omega)
theorem showsIn_own {rd : List (Nat × Ent)} {j n : Nat} {t : TypeId} {cs : List SV} (he : (j, .own t cs) ∈ rd) (hn : cs.length = n) : ShowsIn rd (.sl j 0 n n) 1 n cs := by
  subst hn
  exact showsIn_sl _ he rfl (by simpa using takeN_all cs) (Nat.le_refl _)

theorem roH_mem : ∀ (l : List VA) (k j : Nat) (e : Ent), (j, e) ∈ roH k l → get (roH k l) j = some e
  | [], k, j, e, h => by simp [roH] at h
  | .pl v :: l, k, j, e, h => roH_mem l (k + 1) j e h
  | .vw u z n cs :: l, k, j, e, h => by
    simp only [roH] at h ⊢
    rw [get_app]
    rcases List.mem_append.1 h with h | h
    · rw [roH_mem l (k + 1) j e h]
    · simp only [List.mem_singleton, Prod.mk.injEq] at h
      obtain ⟨rfl, rfl⟩ := h
      cases hh : get (roH (j + 1) l) j with
      | some e' => have := (roH_ge l (j + 1) j e' hh).1; omega
      | none => simp [get]

theorem nodup_of_names {w : List (Nat × Ent)} (h : (w.map (·.1)).Nodup) : (w.map (·.1)).Nodup := h

/-- A contract of read-only slices, at any slices that show the same. -/
theorem Con.ro {P : Program} {f : FuncId} {vs : List VA} {rd w : List (Nat × Ent)} {v : SV} (i0 : Nat) (h : Con P f (inn i0 vs) (roH i0 vs) v w) (hs : ∀ x ∈ vs, x.okIn rd)
    (hnd : (w.map (·.1)).Nodup) (hlt : ∀ j ∈ w.map (·.1), j < i0) (hnr : ∀ j ∈ w.map (·.1), j ∉ rd.map (·.1))
    (hw : ∀ j e, (j, e) ∈ w → (e.mine = true ∨ e = .dead) ∧ SupE (fun j => j ∈ w.map (·.1)) e) (hv : Sup (fun j => j ∈ w.map (·.1)) [v]) : Con P f (vs.map VA.out) rd v w := by
  classical
  intro W0 S ρ hp W As hsat hrd hfresh hden
  have hs' : ∀ x ∈ vs, x.ok hp := by
    intro x hx
    have := hs x hx
    cases x with
    | pl v => exact this
    | vw u z n cs => exact ⟨this.1 hp hrd, this.2⟩
  obtain ⟨ρ0, q1, q2, q3⟩ := ro_env hsat vs i0 As hs' hden
  have h0 : Sat W (fun _ => False) ρ0 (roH i0 vs) W := by
    refine ⟨⟨rfl, rfl, rfl, Nat.le_refl _, fun _ _ _ => rfl⟩, q1, ?_, ?_, ?_⟩
    · intro j e he
      obtain ⟨x, z, cs, a1, rfl, a3, a4⟩ := q2 j e he
      refine ⟨x, a1, ?_⟩
      obtain ⟨Vs, h1, h2⟩ := a3.ex
      exact ⟨a3.cap, Vs, a4 ρ ρ0 (fun _ _ h => h.elim) Vs h1, h2⟩
    · intro i j ei ej li lj b _ hi _ hm
      rw [(roH_ge vs i0 i ei hi).2.1] at hm; cases hm
    · intro j e l b he hm
      rw [(roH_ge vs i0 j e he).2.1] at hm; cases hm
  have hwr : ∀ j ∈ w.map (·.1), get (roH i0 vs) j = none := fun j hj => by
    cases hh : get (roH i0 vs) j with
    | none => rfl
    | some e => have := (roH_ge vs i0 j e hh).1; have := hlt j hj; omega
  refine (h W _ ρ0 (roH i0 vs) W As h0 (fun j e hm => roH_mem vs i0 j e hm) (fun j hj => .inr (hwr j hj)) q3).mono ?_
  rintro e W' ⟨ρ', V, _, hd, rfl, hs1⟩
  have hnone : ∀ j ∈ w.map (·.1), get hp j = none := fun j hj => by
    rcases hfresh j hj with h | h
    · exact absurd h (hnr j hj)
    · exact h
  have hρnone : ∀ j ∈ w.map (·.1), ρ j = none := fun j hj => hsat.key j (hnone j hj)
  let ρ2 : Env := fun j => if j ∈ w.map (·.1) then ρ' j else ρ j
  have r1 : ∀ j, j ∈ w.map (·.1) → ρ2 j = ρ' j := fun j hj => by simp only [ρ2, if_pos hj]
  have r0 : ∀ j, j ∉ w.map (·.1) → ρ2 j = ρ j := fun j hj => by simp only [ρ2, if_neg hj]
  have l1 : Env.le ρ ρ2 := fun j l hl => by
    by_cases hj : j ∈ w.map (·.1)
    · rw [hρnone j hj] at hl; cases hl
    · rw [r0 j hj]; exact hl
  have l2 : ∀ j x, j ∈ w.map (·.1) → ρ' j = some x → ρ2 j = some x := fun j x hj hx => by rw [r1 j hj]; exact hx
  have gw : ∀ j e, (j, e) ∈ w → get (puts (roH i0 vs) w) j = some e := fun j e hm => get_puts_mem hnd hm
  have gh : ∀ j e, (j, e) ∈ w → get (puts hp w) j = some e := fun j e hm => get_puts_mem hnd hm
  have gn : ∀ j, j ∉ w.map (·.1) → get (puts hp w) j = get hp j := fun j hj => get_puts w hp j hj
  have hmem : ∀ j, j ∈ w.map (·.1) → ∃ e, (j, e) ∈ w := fun j hj => by
    obtain ⟨⟨k, e⟩, hm, hk⟩ := List.mem_map.1 hj
    simp only at hk; subst hk; exact ⟨e, hm⟩
  have hb := hsat.below (W' := W') ⟨hs1.fr.os, hs1.fr.tape, hs1.fr.output, hs1.fr.size, fun k hk => hs1.fr.block k hk (fun h => h)⟩
  have mineLive : ∀ e : Ent, e.mine = true → e.live = true := by intro e; cases e <;> simp [Ent.mine, Ent.live]
  have liveMine : ∀ j e, (j, e) ∈ w → e.live = true → e.mine = true := fun j e hm hl => by
    rcases (hw j e hm).1 with h | h
    · exact h
    · rw [h] at hl; cases hl
  have newblk : ∀ j e l b, (j, e) ∈ w → e.live = true → ρ' j = some l → l.blk = some b → W.heap.size ≤ b := by
    intro j e l b hm hl hρ hbl
    rcases hs1.mine j e l b (gw j e hm) (liveMine j e hm hl) hρ hbl with h | h
    · exact absurd h (fun h => h)
    · exact h
  have oldblk : ∀ j e l b, get hp j = some e → e.live = true → ρ j = some l → l.blk = some b → b < W.heap.size := by
    intro j e l b he hl hρ hbl
    obtain ⟨l', h1, ok⟩ := hsat.ent j e he
    rw [hρ] at h1; injection h1 with h1; subst h1
    exact Ent.blk_lt ok hl b hbl
  have hdv : den ρ2 v = some V := by
    have := hv ρ' ρ2 (fun j x hj hx => l2 j x hj hx) [V] (denl_cons.2 ⟨V, [], hd, rfl, rfl⟩)
    obtain ⟨V', M, h2, _, h3⟩ := denl_cons.1 this
    injection h3 with h3 _; rw [h3]; exact h2
  refine ⟨ρ2, V, l1, hdv, rfl, ⟨hb.fr, ?_, ?_, ?_, ?_⟩⟩
  · intro j hj
    by_cases hjw : j ∈ w.map (·.1)
    · obtain ⟨e, hm⟩ := hmem j hjw
      rw [gh j e hm] at hj; cases hj
    · rw [gn j hjw] at hj
      rw [r0 j hjw]; exact hsat.key j hj
  · intro j e hj
    by_cases hjw : j ∈ w.map (·.1)
    · obtain ⟨e', hm⟩ := hmem j hjw
      rw [gh j e' hm] at hj; injection hj with hj; subst hj
      obtain ⟨l, hl, ok⟩ := hs1.ent j e' (gw j e' hm)
      exact ⟨l, l2 j l hjw hl, ok_sup (fun j x hj hx => l2 j x hj hx) (hw j e' hm).2 ok⟩
    · rw [gn j hjw] at hj
      obtain ⟨l, hl, ok⟩ := hb.ent j e hj
      exact ⟨l, by rw [r0 j hjw]; exact hl, Ent.ok_mono l1 (Nat.le_refl _) (fun _ _ => rfl) ok⟩
  · intro i j ei ej li lj b hij hi hj hmi hlj hli hlj2 hbi
    by_cases hiw : i ∈ w.map (·.1)
    · obtain ⟨e1, hm1⟩ := hmem i hiw
      rw [gh i e1 hm1] at hi; injection hi with hi; subst hi
      rw [r1 i hiw] at hli
      have hge := newblk i e1 li b hm1 (mineLive _ hmi) hli hbi
      by_cases hjw : j ∈ w.map (·.1)
      · obtain ⟨e2, hm2⟩ := hmem j hjw
        rw [gh j e2 hm2] at hj; injection hj with hj; subst hj
        rw [r1 j hjw] at hlj2
        exact hs1.dist i j e1 e2 li lj b hij (gw i e1 hm1) (gw j e2 hm2) hmi hlj hli hlj2 hbi
      · rw [gn j hjw] at hj
        rw [r0 j hjw] at hlj2
        intro hc
        have := oldblk j ej lj b hj hlj hlj2 hc
        omega
    · rw [gn i hiw] at hi
      rw [r0 i hiw] at hli
      have hlt2 := oldblk i ei li b hi (mineLive _ hmi) hli hbi
      by_cases hjw : j ∈ w.map (·.1)
      · obtain ⟨e2, hm2⟩ := hmem j hjw
        rw [gh j e2 hm2] at hj; injection hj with hj; subst hj
        rw [r1 j hjw] at hlj2
        intro hc
        have := newblk j e2 lj b hm2 hlj hlj2 hc
        omega
      · rw [gn j hjw] at hj
        rw [r0 j hjw] at hlj2
        exact hsat.dist i j ei ej li lj b hij hi hj hmi hlj hli hlj2 hbi
  · intro j e l b hj hm hl hbl
    by_cases hjw : j ∈ w.map (·.1)
    · obtain ⟨e2, hm2⟩ := hmem j hjw
      rw [gh j e2 hm2] at hj; injection hj with hj; subst hj
      rw [r1 j hjw] at hl
      have := newblk j e2 l b hm2 (mineLive _ hm) hl hbl
      exact .inr (Nat.le_trans hsat.fr.size this)
    · rw [gn j hjw] at hj
      rw [r0 j hjw] at hl
      exact hsat.mine j e l b hj hm hl hbl
end Go.Sx
namespace Go.Sx
open Go.RowKit
/-- New names: those of τ as τ says, the arguments' from i0 on. -/
def sg : List (Nat × Nat) → Nat → Nat → Nat
  | [], i0, j => i0 + j
  | (r, m) :: τ, i0, j => bif Nat.beq r j then m else sg τ i0 j
theorem sg_mem : ∀ {τ : List (Nat × Nat)} {i0 j : Nat}, j ∈ τ.map (·.1) → sg τ i0 j ∈ τ.map (·.2)
  | [], i0, j, h => by simp at h
  | (r, m) :: τ, i0, j, h => by
    simp only [sg]
    cases hb : Nat.beq r j with
    | true => simp
    | false =>
      have hne : r ≠ j := fun h => by subst h; simp at hb
      simp only [List.map_cons, List.mem_cons] at h ⊢
      rcases h with h | h
      · exact absurd h.symm hne
      · exact .inr (sg_mem h)
theorem sg_out : ∀ {τ : List (Nat × Nat)} {i0 j : Nat}, j ∉ τ.map (·.1) → sg τ i0 j = i0 + j
  | [], i0, j, h => rfl
  | (r, m) :: τ, i0, j, h => by
    simp only [List.map_cons, List.mem_cons, not_or] at h
    simp only [sg]
    have : Nat.beq r j = false := beq_ne (fun hh => h.1 hh.symm)
    rw [this]; exact sg_out h.2
theorem sg_inj : ∀ {τ : List (Nat × Nat)} {i0 i j : Nat}, (τ.map (·.2)).Nodup → i ∈ τ.map (·.1) → j ∈ τ.map (·.1) → sg τ i0 i = sg τ i0 j → i = j
  | [], i0, i, j, _, h, _, _ => by simp at h
  | (r, m) :: τ, i0, i, j, hn, hi, hj, he => by
    simp only [List.map_cons, List.nodup_cons] at hn
    simp only [List.map_cons, List.mem_cons] at hi hj
    simp only [sg] at he
    by_cases h1 : r = i
    · by_cases h2 : r = j
      · omega
      · have e1 : Nat.beq r i = true := by subst h1; simp
        have e2 : Nat.beq r j = false := beq_ne h2
        rw [e1, e2] at he
        simp only [cond_true, cond_false] at he
        have hj' : j ∈ τ.map (·.1) := by rcases hj with h | h; exact absurd h.symm h2; exact h
        have := sg_mem (i0 := i0) hj'
        rw [← he] at this
        exact absurd this hn.1
    · have e1 : Nat.beq r i = false := beq_ne h1
      have hi' : i ∈ τ.map (·.1) := by rcases hi with h | h; exact absurd h.symm h1; exact h
      by_cases h2 : r = j
      · have e2 : Nat.beq r j = true := by subst h2; simp
        rw [e1, e2] at he
        simp only [cond_true, cond_false] at he
        have := sg_mem (i0 := i0) hi'
        rw [he] at this
        exact absurd this hn.1
      · have e2 : Nat.beq r j = false := beq_ne h2
        have hj' : j ∈ τ.map (·.1) := by rcases hj with h | h; exact absurd h.symm h2; exact h
        rw [e1, e2] at he
        exact sg_inj hn.2 hi' hj' he

/-- The argument's own cells mean no names. -/
def VA.nl : VA → Prop
  | .pl v => nmIn [] v = true
  | .vw _ _ _ cs => Sup (fun _ => False) cs ∧ ∀ σ, renl σ cs = cs
theorem inn_ren {τ : List (Nat × Nat)} {i0 : Nat} : ∀ (l : List VA) (k : Nat), (∀ x ∈ l, x.nl) → (∀ j ∈ τ.map (·.1), k + l.length ≤ j) → renl (sg τ i0) (inn k l) = inn (i0 + k) l ∧ renH (sg τ i0) (roH k l) = roH (i0 + k) l
  | [], k, _, _ => ⟨rfl, rfl⟩
  | .pl v :: l, k, h, hj => by
    obtain ⟨h1, h2⟩ := inn_ren (τ := τ) (i0 := i0) l (k + 1) (fun x hx => h x (by simp [hx])) (fun j hm => by have := hj j hm; simp at this; omega)
    have hv : nmIn [] v = true := h (.pl v) (by simp)
    simp only [inn, renl, ren_nil _ _ hv, h1, roH, h2]
    exact ⟨rfl, rfl⟩
  | .vw u z n cs :: l, k, h, hj => by
    obtain ⟨h1, h2⟩ := inn_ren (τ := τ) (i0 := i0) l (k + 1) (fun x hx => h x (by simp [hx])) (fun j hm => by have := hj j hm; simp at this; omega)
    obtain ⟨_, hr⟩ : Sup (fun _ => False) cs ∧ ∀ σ, renl σ cs = cs := h (.vw u z n cs) (by simp)
    have hk : sg τ i0 k = i0 + k := sg_out (fun hm => by have := hj k hm; simp at this; omega)
    simp only [inn, renl, ren, hk, h1, roH]
    refine ⟨rfl, ?_⟩
    have happ : ∀ (a b : List (Nat × Ent)), renH (sg τ i0) (a ++ b) = renH (sg τ i0) a ++ renH (sg τ i0) b := fun a b => by simp [renH]
    rw [happ, h2]
    simp only [renH, List.map_cons, List.map_nil, renE, hk, hr]
    rfl

theorem roH_nl : ∀ (l : List VA) (k j : Nat) (e : Ent), (∀ x ∈ l, x.nl) → get (roH k l) j = some e → SupE (fun _ => False) e
  | [], k, j, e, _, h => by simp [roH, get] at h
  | .pl v :: l, k, j, e, hl, h => roH_nl l (k + 1) j e (fun x hx => hl x (by simp [hx])) h
  | .vw u z n cs :: l, k, j, e, hl, h => by
    simp only [roH] at h
    rw [get_app] at h
    cases hh : get (roH (k + 1) l) j with
    | some e' =>
      rw [hh] at h; simp only [Option.some.injEq] at h; subst h
      exact roH_nl l (k + 1) j e' (fun x hx => hl x (by simp [hx])) hh
    | none =>
      rw [hh] at h
      simp only [get] at h
      cases hb : Nat.beq k j with
      | true =>
        rw [hb] at h; simp only [cond_true, Option.some.injEq] at h; subst h
        exact (hl (.vw u z n cs) (by simp)).1
      | false => rw [hb] at h; cases h

theorem Sup.mono {K K' : Nat → Prop} {l : List SV} (h : Sup K l) (hk : ∀ j, K j → K' j) : Sup K' l := fun ρa ρb hab L hL => h ρa ρb (fun j x hj hx => hab j x (hk j hj) hx) L hL
theorem SupE.mono {K K' : Nat → Prop} {e : Ent} (h : SupE K e) (hk : ∀ j, K j → K' j) : SupE K' e := by
  cases e <;> first | exact Sup.mono h hk | trivial

theorem inn_sup : ∀ (l : List VA) (k : Nat), (∀ x ∈ l, x.nl) → Sup (fun j => ∃ e, get (roH k l) j = some e) (inn k l)
  | [], k, _ => fun _ _ _ L hL => by simpa [inn, denl] using hL
  | .pl v :: l, k, h => by
    intro ρa ρb hab L hL
    simp only [inn] at hL ⊢
    obtain ⟨V, M, h1, h2, rfl⟩ := denl_cons.1 hL
    have hv : nmIn [] v = true := h (.pl v) (by simp)
    exact denl_cons.2 ⟨V, M, nm_any hv h1, inn_sup l (k + 1) (fun x hx => h x (by simp [hx])) ρa ρb hab M h2, rfl⟩
  | .vw u z n cs :: l, k, h => by
    intro ρa ρb hab L hL
    simp only [inn] at hL ⊢
    obtain ⟨V, M, h1, h2, rfl⟩ := denl_cons.1 hL
    have hk : get (roH (k + 1) l) k = none := by
      cases hh : get (roH (k + 1) l) k with
      | none => rfl
      | some e => have := (roH_ge l (k + 1) k e hh).1; omega
    have hab' : ∀ j x, (∃ e, get (roH (k + 1) l) j = some e) → ρa j = some x → ρb j = some x := by
      rintro j x ⟨e, he⟩ hx
      exact hab j x ⟨e, by simp only [roH]; rw [get_app, he]⟩ hx
    refine denl_cons.2 ⟨V, M, ?_, inn_sup l (k + 1) (fun x hx => h x (by simp [hx])) ρa ρb hab' M h2, rfl⟩
    simp only [den, Option.map_eq_some_iff] at h1 ⊢
    obtain ⟨x, hx, rfl⟩ := h1
    exact ⟨x, hab k x ⟨.ro z cs, by simp only [roH]; rw [get_app, hk]; simp [get]⟩ hx, rfl⟩

/-- From an executor's run with read-only slices to a contract at any slices. kp: the entries that stay; τ: their new names. -/
theorem con_keep {P : Program} {f : FuncId} {vs : List VA} {v : SV} {rd : List (Nat × Ent)} (hf : Heap) (hfn : FnOK P f (inn 0 vs) (roH 0 vs) v (hf ++ roH 0 vs)) (hg : keysGe vs.length hf = true) (kp : List (Nat × Ent)) (τ : List (Nat × Nat))
    (hτ : kp.map (·.1) = τ.map (·.1)) (hnd : (τ.map (·.2)).Nodup) (hnk : (kp.map (·.1)).Nodup) (hge : ∀ j ∈ kp.map (·.1), vs.length ≤ j)
    (hget : ∀ j e, (j, e) ∈ kp → get hf j = some e) (hm : ∀ j e, (j, e) ∈ kp → e.mine = true ∨ e = .dead) (hE : ∀ j e, (j, e) ∈ kp → SupE (fun j => j ∈ kp.map (·.1)) e) (hv : Sup (fun j => j ∈ kp.map (·.1)) [v])
    (hnl : ∀ x ∈ vs, x.nl) (hs : ∀ x ∈ vs, x.okIn rd) (hnr : ∀ j ∈ τ.map (·.2), j ∉ rd.map (·.1)) :
    ∃ i0, Con P f (vs.map VA.out) rd (ren (sg τ i0) v) (renH (sg τ i0) kp) := by
  have hun : ∀ j e, get (roH 0 vs) j = some e → get (hf ++ roH 0 vs) j = some e := by
    intro j e he
    rw [get_app]
    cases hh : get hf j with
    | none => exact he
    | some e' => have h1 := keysGe_spec hg j e' hh; have h2 := roH_lt vs 0 j e he; omega
  -- above all new names
  have hi0 : ∃ i0, ∀ j ∈ τ.map (·.2), j < i0 := by
    refine ⟨(τ.map (·.2)).foldr (fun a b => max a b) 0 + 1, ?_⟩
    generalize τ.map (·.2) = l
    induction l with
    | nil => intro j hj; cases hj
    | cons a l ih =>
      intro j hj
      rcases List.mem_cons.1 hj with rfl | hj
      · simp only [List.foldr_cons]; omega
      · have := ih j hj; simp only [List.foldr_cons]; omega
  obtain ⟨i0, hi0⟩ := hi0
  refine ⟨i0, ?_⟩
  have hrenm : (renH (sg τ i0) kp).map (·.1) = (kp.map (·.1)).map (sg τ i0) := by simp [renH]
  have hlow : ∀ j, (∃ e, get (roH 0 vs) j = some e) → sg τ i0 j = i0 + j ∧ j < vs.length := by
    rintro j ⟨e, he⟩
    have h1 := roH_lt vs 0 j e he
    refine ⟨sg_out (fun hm => ?_), by omega⟩
    rw [← hτ] at hm
    have := hge j hm; omega
  have hkpm : ∀ j, (∃ e, (j, e) ∈ kp) → j ∈ kp.map (·.1) := fun j ⟨e, he⟩ => List.mem_map.2 ⟨(j, e), he, rfl⟩
  have hcon : Con P f (renl (sg τ i0) (inn 0 vs)) (renH (sg τ i0) (roH 0 vs)) (ren (sg τ i0) v) (renH (sg τ i0) kp) := by
    refine con_of_fn hfn (sg τ i0) kp ?_ ?_ ?_ ?_ ?_ ?_ ?_
    · rw [hrenm, List.Nodup, List.pairwise_map]
      refine List.Pairwise.imp_of_mem ?_ hnk
      intro a b ha hb hab he
      rw [hτ] at ha hb
      exact hab (sg_inj hnd ha hb he)
    · rintro i j (hi | hi) (hj | hj) he
      · rw [(hlow i hi).1, (hlow j hj).1] at he; omega
      · exfalso
        have h1 := hi0 _ (sg_mem (i0 := i0) (by rw [← hτ]; exact hkpm j hj))
        rw [← he, (hlow i hi).1] at h1; omega
      · exfalso
        have h1 := hi0 _ (sg_mem (i0 := i0) (by rw [← hτ]; exact hkpm i hi))
        rw [he, (hlow j hj).1] at h1; omega
      · exact sg_inj hnd (by rw [← hτ]; exact hkpm i hi) (by rw [← hτ]; exact hkpm j hj) he
    · intro j e hje
      refine ⟨by rw [get_app, hget j e hje], (hE j e hje).mono (fun k hk => ?_), hm j e hje⟩
      obtain ⟨⟨k', e'⟩, h1, h2⟩ := List.mem_map.1 hk
      simp only at h2; subst h2
      exact .inr ⟨e', h1⟩
    · intro j e hje _; exact hun j e hje
    · intro j e hje; exact (roH_nl vs 0 j e hnl hje).mono (fun _ h => h.elim)
    · exact inn_sup vs 0 hnl
    · refine hv.mono (fun k hk => ?_)
      obtain ⟨⟨k', e'⟩, h1, h2⟩ := List.mem_map.1 hk
      simp only at h2; subst h2
      exact .inr ⟨e', h1⟩
  obtain ⟨r1, r2⟩ := inn_ren (τ := τ) (i0 := i0) vs 0 hnl (fun j hj => by rw [← hτ] at hj; have := hge j hj; omega)
  rw [r1, r2, Nat.add_zero] at hcon
  have hwn : ∀ j ∈ (renH (sg τ i0) kp).map (·.1), j ∈ τ.map (·.2) := by
    intro j hj
    rw [hrenm] at hj
    obtain ⟨k, hk, rfl⟩ := List.mem_map.1 hj
    exact sg_mem (by rw [← hτ]; exact hk)
  refine Con.ro i0 hcon hs ?_ (fun j hj => hi0 j (hwn j hj)) (fun j hj => hnr j (hwn j hj)) ?_ ?_
  · rw [hrenm, List.Nodup, List.pairwise_map]
    refine List.Pairwise.imp_of_mem ?_ hnk
    intro a b ha hb hab he
    rw [hτ] at ha hb
    exact hab (sg_inj hnd ha hb he)
  · intro j e hje
    obtain ⟨⟨k, e0⟩, h1, h2⟩ := List.mem_map.1 hje
    simp only [Prod.mk.injEq] at h2
    obtain ⟨rfl, rfl⟩ := h2
    refine ⟨?_, ?_⟩
    · rcases hm k e0 h1 with h | h
      · exact .inl (by rw [renE_mine]; exact h)
      · exact .inr (by rw [h]; rfl)
    · have hsup := hE k e0 h1
      rw [hrenm]
      have gen : ∀ cs : List SV, Sup (fun j => j ∈ kp.map (·.1)) cs → Sup (fun j => j ∈ (kp.map (·.1)).map (sg τ i0)) (renl (sg τ i0) cs) := by
        intro cs hc ρa ρb hab L hL
        rw [denl_ren] at hL ⊢
        exact hc _ _ (fun j x hj hx => hab (sg τ i0 j) x (List.mem_map.2 ⟨j, hj, rfl⟩) hx) L hL
      cases e0 with
      | own t cs => exact gen cs hsup
      | row t z cs => exact gen cs hsup
      | ro z cs => exact gen cs hsup
      | mp cs => exact gen cs hsup
      | dead => trivial
  · rw [hrenm]
    intro ρa ρb hab L hL
    have e1 : [ren (sg τ i0) v] = renl (sg τ i0) [v] := rfl
    rw [e1, denl_ren] at hL ⊢
    exact hv _ _ (fun j x hj hx => hab (sg τ i0 j) x (List.mem_map.2 ⟨j, hj, rfl⟩) hx) L hL
end Go.Sx
