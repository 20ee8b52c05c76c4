/- Part of an executor of given code on symbolic values, with its proof of soundness: what is proved stands in each theorem. -/
import Derived.Test.YtnnmofebjfpcnaaGreatSxApp
set_option linter.unusedVariables false
set_option linter.unusedSimpArgs false

namespace Go.Sx
open Go.RowKit

/-- What is appended: its cells, how many, what is owed. -/
def xsrc (P : Program) (h : Heap) (tx : TypeId) (z : Nat) (d : Option Dir) : SV → Option (List SV × Nat × List Prop)
  | .nils => (match P.underlying tx with | some (.slice _) => some ([], 0, []) | _ => none)
  | .sl j off len _ => (match P.underlying tx, get h j with
    | some (.slice _), some ent => (match ent.cells? with
      | some cs => (match d with
        | some (.at_ (.agg xs)) => some (xs, len, [takeN (len * z) (cs.drop off) = some xs])
        | _ => (match takeN (len * z) (cs.drop off) with | some xs => some (xs, len, []) | none => none))
      | none => none)
    | _, _ => none)
  | .rw j z' lo len => (match P.underlying tx, get h j with
    | some (.slice _), some ent => (match ent.zcells? with
      | some (z2, cs) => if z' = z ∧ z2 = z then (match d with
        | some (.at_ (.agg xs)) => some (xs, len, [takeN (len * z) (cs.drop (lo * z)) = some xs, 0 < z, xs = [] → lo = 0 ∨ 0 < lo])
        | _ => (match takeN (len * z) (cs.drop (lo * z)) with | some xs => some (xs, len, [0 < z]) | none => none)) else none
      | none => none)
    | _, _ => none)
  | _ => none

/-- What it is appended to: its cells, how many, the heap's changes. -/
def xdst (h : Heap) (e : TypeId) (z : Nat) : SV → Option (List SV × Nat × List (Nat × Ent) × List Prop)
  | .nils => some ([], 0, [], [])
  | .rw j z' lo n => (match get h j with
    | some (.row e' z2 cs) => if e' = e ∧ z' = z ∧ z2 = z ∧ lo = 0 then some (cs, n, [(j, .dead)], [cs.length = n * z, 0 < z]) else none
    | _ => none)
  | .sl j off len cap => (match get h j with
    | some (.own e' cs) => if e' = e ∧ off = 0 ∧ cs.length = cap * z ∧ len ≤ cap ∧ cap ≤ 9223372036854775807 then (match takeN (len * z) cs with
      | some xs => some (xs, len, [(j, .dead)], [0 < z])
      | none => none) else none
    | _ => none)
  | _ => none

def xapp (P : Program) (h : Heap) (m : Nat) (d : Option Dir) (ts tx : TypeId) (s x : SV) : Option Out :=
  match P.underlying ts with
  | some (.slice e) => (match P.info? e, zeroT P e with
    | some i, some zv => if zv.cells.length = i.size then (match xdst h e i.size s, xsrc P h tx i.size d x with
      | some (cs, n, w, o1), some (xs, k, o2) => if isNone (get h m) then
          some ⟨.rw m i.size 0 (n + k), w ++ [(m, .row e i.size (cs ++ xs))], ((n + k) * i.bytes ≤ 140737488355328 ∧ n + k ≤ 9223372036854775807) :: (o1 ++ o2)⟩ else none
      | _, _ => none) else none
    | _, _ => none)
  | _ => none

theorem xsrc_run {P : Program} {hp : Heap} {tx : TypeId} {z : Nat} {d : Option Dir} {x : SV} {xs : List SV} {k : Nat} {o : List Prop} (h : xsrc P hp tx z d x = some (xs, k, o)) (ho : All o)
    {ρ : Env} {W0 : World} {S : Nat → Prop} {W : World} (s : Sat W0 S ρ hp W) {X : Value} (hx : den ρ x = some X) : ∃ Vs, denl ρ xs = some Vs ∧ Src P z tx X k Vs W := by
  unfold xsrc at h
  split at h
  · simp [den] at hx; subst hx
    split at h
    · rename_i e hu
      simp only [Option.some.injEq, Prod.mk.injEq] at h
      obtain ⟨rfl, rfl, rfl⟩ := h
      exact ⟨[], rfl, Src.ofNil W hu 0⟩
    · cases h
  · rename_i j off len cap
    obtain ⟨l, a, h1, h2, rfl⟩ := den_sl hx
    split at h
    · rename_i e ent hu hent
      split at h
      · rename_i cs hcs
        obtain ⟨l', hl', ok⟩ := s.ent j ent hent
        rw [h1] at hl'; injection hl' with hl'; subst hl'
        obtain ⟨Vs, k1, k2, _, k3⟩ := Ent.reads ok hcs
        have key : takeN (len * z) (cs.drop off) = some xs ∧ k = len := by
          split at h
          · simp only [Option.some.injEq, Prod.mk.injEq] at h
            obtain ⟨rfl, rfl, rfl⟩ := h
            exact ⟨ho.1, rfl⟩
          · split at h
            · rename_i ys hys
              simp only [Option.some.injEq, Prod.mk.injEq] at h
              obtain ⟨rfl, rfl, rfl⟩ := h
              exact ⟨hys, rfl⟩
            · cases h
        obtain ⟨key, rfl⟩ := key
        obtain ⟨e1, e2⟩ := takeN_eq _ _ _ key
        have hd := denl_take (denl_drop k1 off) (k * z)
        rw [← e1] at hd
        have hlen : ((Vs.drop off).take (k * z)).length = k * z := by
          have := denl_length (denl_drop k1 off)
          rw [List.length_take, this]; omega
        refine ⟨_, hd, Src.ofSlice W hu (a.add off) k cap _ hlen (fun i V hV => ?_) (fun V hV => ?_)⟩
        · rw [Addr.add_add]
          refine k3 a h2 _ _ ?_
          rw [List.getElem?_take] at hV
          split at hV
          · simpa using hV
          · cases hV
        · exact k2 V (List.mem_of_mem_drop (List.mem_of_mem_take hV))
      · cases h
    · cases h
  · rename_i j z' lo len
    obtain ⟨l, h1, rfl⟩ := den_rw hx
    split at h
    · rename_i e ent hu hent
      split at h
      · rename_i z2 cs hcs
        split at h
        · rename_i hz
          obtain ⟨rfl, rfl⟩ := hz
          obtain ⟨l', hl', ok⟩ := s.ent j ent hent
          rw [h1] at hl'; injection hl' with hl'; subst hl'
          obtain ⟨hcs2, hcap, hnil⟩ := Ent.zcap ok hcs
          obtain ⟨Vs, k1, k2, _, k3⟩ := Ent.reads ok hcs2
          have key : takeN (len * z2) (cs.drop (lo * z2)) = some xs ∧ k = len ∧ 0 < z2 := by
            split at h
            · simp only [Option.some.injEq, Prod.mk.injEq] at h
              obtain ⟨rfl, rfl, rfl⟩ := h
              exact ⟨ho.1, rfl, ho.2.1⟩
            · split at h
              · rename_i ys hys
                simp only [Option.some.injEq, Prod.mk.injEq] at h
                obtain ⟨rfl, rfl, rfl⟩ := h
                exact ⟨hys, rfl, ho.1⟩
              · cases h
          obtain ⟨key, rfl, hz0⟩ := key
          obtain ⟨e1, e2⟩ := takeN_eq _ _ _ key
          have hd := denl_take (denl_drop k1 (lo * z2)) (k * z2)
          rw [← e1] at hd
          have hlen : ((Vs.drop (lo * z2)).take (k * z2)).length = k * z2 := by
            have := denl_length (denl_drop k1 (lo * z2))
            rw [List.length_take, this]; omega
          cases ha : l.adr with
          | none =>
            have hcs0 := hnil ha
            subst hcs0
            have hk0 : k = 0 := by
              have e3 : k * z2 = 0 := by simpa using e2
              rcases Nat.mul_eq_zero.1 e3 with e4 | e4
              · exact e4
              · omega
            subst hk0
            simp [takeN] at key; subst key
            simp only [Loc.row, ha]
            exact ⟨[], rfl, Src.ofNil W hu 0⟩
          | some a =>
            simp only [Loc.row, ha]
            refine ⟨_, hd, Src.ofSlice W hu (a.add (lo * z2)) k _ _ hlen (fun i V hV => ?_) (fun V hV => ?_)⟩
            · rw [Addr.add_add]
              refine k3 a ha _ _ ?_
              rw [List.getElem?_take] at hV
              split at hV
              · simpa using hV
              · cases hV
            · exact k2 V (List.mem_of_mem_drop (List.mem_of_mem_take hV))
        · cases h
      · cases h
    · cases h
  · cases h

theorem puts_append : ∀ (a b : List (Nat × Ent)) (h : Heap), puts h (a ++ b) = puts (puts h a) b
  | [], b, h => rfl
  | (j, e) :: a, b, h => by simp only [List.cons_append, puts, puts_append a b]

theorem xapp_sound {P : Program} {hp : Heap} {m : Nat} {d : Option Dir} {ts tx ty : TypeId} {u x : SV} {out : Out} (h : xapp P hp m d ts tx u x = some out) (ho : All out.o)
    {ρ : Env} {W0 : World} {S : Nat → Prop} {W : World} (s : Sat W0 S ρ hp W) {U X : Value} (hu : den ρ u = some U) (hx : den ρ x = some X) :
    ∃ ρ' W' V, Env.le ρ ρ' ∧ den ρ' out.v = some V ∧ (Builtin.append_ #[ts, tx] ty #[U, X]).run P W = .ok V W' ∧ Sat W0 S ρ' (puts hp out.w) W' := by
  unfold xapp at h
  split at h
  · rename_i e ht
    split at h
    · rename_i i zv hi hzv
      split at h
      · rename_i hsz
        split at h
        · rename_i cs n w o1 xs k o2 hdst hsrc
          split at h
          · rename_i hc
            have hm := isNone_iff hc
            simp only [Option.some.injEq] at h; subst h
            simp only [All] at ho
            obtain ⟨hb, ho⟩ := ho
            obtain ⟨ho1, ho2⟩ := All_append.1 ho
            obtain ⟨Ns, hN, hS⟩ := xsrc_run hsrc ho2 s hx
            obtain ⟨Z, hZ, hZr⟩ := zeroT_run hzv ρ
            have hz : i.zero = some Z := by
              unfold zeroT at hzv
              rw [hi] at hzv
              simp only at hzv
              cases hz2 : i.zero with
              | none => rw [hz2] at hzv; simp at hzv
              | some Z' =>
                rw [hz2] at hzv; simp only at hzv
                have := den_lift ρ Z' zv hzv
                rw [hZ] at this; exact this.symm ▸ rfl
            have hzs : Z.cells.size = i.size := by
              have := denl_length (cells_den hZ)
              rw [hsz] at this; simpa using this
            -- the row that it is appended to
            have row : ∃ Cs, denl ρ cs = some Cs ∧ (∀ V ∈ Cs, V.oneCell' = true) ∧ W.ownsRow 0 e i.size U n Cs ∧
                (∀ b, U.ownBlock = some b → (∀ j f l, get (puts hp w) j = some f → f.live = true → ρ j = some l → l.blk ≠ some b) ∧ (S b ∨ W0.heap.size ≤ b)) ∧
                (∀ j f, get (puts hp w) j = some f → f = .dead ∨ get hp j = some f) ∧ (∀ j, get (puts hp w) j = none → get hp j = none) ∧ (∀ j, get (puts hp w) j = some .dead → ∃ l, ρ j = some l) ∧ get (puts hp w) m = none := by
              unfold xdst at hdst
              split at hdst
              · simp only [Option.some.injEq, Prod.mk.injEq] at hdst
                obtain ⟨rfl, rfl, rfl, rfl⟩ := hdst
                simp [den] at hu; subst hu
                refine ⟨[], rfl, by simp, World.ownsRow_nil W 0 e i.size, by simp [Value.ownBlock], fun j f hf => .inr hf, fun j hj => hj, fun j hj => ?_, hm⟩
                obtain ⟨l, hl, _⟩ := s.ent j _ hj
                exact ⟨l, hl⟩
              · rename_i j z' lo n'
                obtain ⟨l, hl, rfl⟩ := den_rw hu
                split at hdst
                · rename_i e' z2 cs' hget
                  split at hdst
                  · rename_i hcc
                    obtain ⟨rfl, rfl, rfl, rfl⟩ := hcc
                    simp only [Option.some.injEq, Prod.mk.injEq] at hdst
                    obtain ⟨rfl, rfl, rfl, rfl⟩ := hdst
                    obtain ⟨l', hl', ok⟩ := s.ent j _ hget
                    rw [hl] at hl'; injection hl' with hl'; subst hl'
                    obtain ⟨Cs, n2, k1, k2, k3⟩ := ok.ex
                    have hnn : n2 = n' := by
                      have h1 := k3.1
                      have h2 := denl_length k1
                      have h3 := ho1.1
                      have : n2 * i.size = n' * i.size := by omega
                      exact Nat.eq_of_mul_eq_mul_right ho1.2.1 this
                    subst hnn
                    have hval : l.row i.size 0 n2 = l.val n2 := by
                      unfold Loc.row Loc.val; cases l.adr <;> simp [Addr.add]
                    rw [hval]
                    have hjm : ¬ m = j := fun hh => by rw [hh] at hm; rw [hm] at hget; cases hget
                    refine ⟨Cs, k1, k2, k3, fun b hb => ?_, fun i f hf => ?_, fun i hi => ?_, fun i hi => ?_, ?_⟩
                    · rw [Loc.val_block] at hb
                      refine ⟨fun i f k hf hlv hk => ?_, s.mine j _ l b hget rfl hl hb⟩
                      simp only [puts, get_put] at hf
                      by_cases hij : i = j
                      · rw [if_pos hij] at hf; injection hf with hf; subst hf; simp [Ent.live] at hlv
                      · rw [if_neg hij] at hf
                        exact s.dist j i _ f l k b (fun hh => hij hh.symm) hget hf rfl hlv hl hk hb
                    · simp only [puts, get_put] at hf
                      by_cases hij : i = j
                      · rw [if_pos hij] at hf; injection hf with hf; exact .inl hf.symm
                      · rw [if_neg hij] at hf; exact .inr hf
                    · simp only [puts, get_put] at hi
                      by_cases hij : i = j
                      · rw [if_pos hij] at hi; cases hi
                      · rw [if_neg hij] at hi; exact hi
                    · simp only [puts, get_put] at hi
                      by_cases hij : i = j
                      · subst hij; exact ⟨l, hl⟩
                      · rw [if_neg hij] at hi
                        obtain ⟨k, hk, _⟩ := s.ent i _ hi
                        exact ⟨k, hk⟩
                    · simp only [puts, get_put]; rw [if_neg hjm]; exact hm
                  · cases hdst
                · cases hdst
              · rename_i j off len cap
                obtain ⟨l, a, hl, ha, rfl⟩ := den_sl hu
                split at hdst
                · rename_i e' cs' hget
                  split at hdst
                  · rename_i hcc
                    obtain ⟨rfl, rfl, hcl, hle, hmx⟩ := hcc
                    split at hdst
                    · rename_i ys hys
                      simp only [Option.some.injEq, Prod.mk.injEq] at hdst
                      obtain ⟨rfl, rfl, rfl, rfl⟩ := hdst
                      obtain ⟨l', hl', ok⟩ := s.ent j _ hget
                      rw [hl] at hl'; injection hl' with hl'; subst hl'
                      obtain ⟨b, Cs, k1, k2, k3, k4⟩ := ok.ex
                      rw [ha] at k1; injection k1 with k1; subst k1
                      obtain ⟨e1, e2⟩ := takeN_eq _ _ _ hys
                      have hd := denl_take k2 (len * i.size)
                      rw [← e1] at hd
                      have hcl2 := denl_length k2
                      have hjm : ¬ m = j := fun hh => by rw [hh] at hm; rw [hm] at hget; cases hget
                      refine ⟨_, hd, fun V hV => k4 V (List.mem_of_mem_take hV), ?_, fun c hb => ?_, fun i f hf => ?_, fun i hi => ?_, fun i hi => ?_, ?_⟩
                      · refine ⟨?_, .inr ⟨b, cap, Cs.toArray, by simp [Addr.add], Nat.zero_le _, k3, hle, by simpa [maxLen] using hmx, by simp; omega, by simp⟩⟩
                        rw [List.length_take]; omega
                      · simp [Value.ownBlock, Addr.add] at hb; subst hb
                        have hbb : l.blk = some b := by simp [Loc.blk, ha]
                        refine ⟨fun i f k hf hlv hk => ?_, s.mine j _ l b hget rfl hl hbb⟩
                        simp only [puts, get_put] at hf
                        by_cases hij : i = j
                        · rw [if_pos hij] at hf; injection hf with hf; subst hf; simp [Ent.live] at hlv
                        · rw [if_neg hij] at hf
                          exact s.dist j i _ f l k b (fun hh => hij hh.symm) hget hf rfl hlv hl hk hbb
                      · simp only [puts, get_put] at hf
                        by_cases hij : i = j
                        · rw [if_pos hij] at hf; injection hf with hf; exact .inl hf.symm
                        · rw [if_neg hij] at hf; exact .inr hf
                      · simp only [puts, get_put] at hi
                        by_cases hij : i = j
                        · rw [if_pos hij] at hi; cases hi
                        · rw [if_neg hij] at hi; exact hi
                      · simp only [puts, get_put] at hi
                        by_cases hij : i = j
                        · subst hij; exact ⟨l, hl⟩
                        · rw [if_neg hij] at hi
                          obtain ⟨k, hk, _⟩ := s.ent i _ hi
                          exact ⟨k, hk⟩
                      · simp only [puts, get_put]; rw [if_neg hjm]; exact hm
                    · cases hdst
                  · cases hdst
                · cases hdst
              · cases hdst
            obtain ⟨Cs, r1, r2, r3, r4, r5, r6, r7, r8⟩ := row
            obtain ⟨v', W', a1, a2, a3, a4⟩ := append_row (ty := ty) ht hi hz rfl hzs r3 hS hb
            have hρ := s.key m hm
            -- where the new row lies
            have hloc : ∃ l : Loc, v' = l.val (n + k) ∧ l.row i.size 0 (n + k) = v' := by
              rcases a2.2 with ⟨hv, hn⟩ | ⟨g, cap, cur, hv, _⟩
              · exact ⟨⟨none, 0⟩, by simp [Loc.val, hv], by simp [Loc.row, hv]⟩
              · exact ⟨⟨some ⟨g, 0, none⟩, cap⟩, by simp [Loc.val, hv], by simp [Loc.row, hv, Addr.add]⟩
            obtain ⟨l, hl1, hl2⟩ := hloc
            have hle := Env.upd_le (l := l) hρ
            refine ⟨ρ.upd m l, W', v', hle, by simp [den, Env.upd, hl2], a1, ?_⟩
            have hN2 : ∀ V ∈ Cs ++ Ns, V.oneCell' = true := by
              intro V hV
              rcases List.mem_append.1 hV with hV | hV
              · exact r2 V hV
              · exact hS.one V hV
            rw [puts_append]
            refine s.grow a3 r5 r6 r4 r7 r8 hρ rfl ⟨Cs ++ Ns, n + k, denl_le hle _ _ (denl_append r1 hN), hN2, by rw [← hl1]; exact a2⟩ ?_
            rw [← Loc.val_block l (n + k), ← hl1]
            rcases a4 with h | h
            · exact .inl h
            · exact .inr (.inl h)
          · cases h
        · cases h
      · cases h
    · cases h
  · cases h
end Go.Sx
