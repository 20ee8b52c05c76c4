/- Part of an executor of given code on symbolic values, with its proof of soundness: what is proved stands in each theorem. -/
import Derived.Test.YtnnmofebjfpcnaaGreatSxCopy
import Derived.MapKept
set_option linter.unusedVariables false
set_option linter.unusedSimpArgs false

namespace Go.Sx
open Go.RowKit Go.MapKept

/-! ## Maps: keys that are known numbers, or bools -/
def kEq : SV → SV → Option Bool
  | .int k a, .int k' b => if k = k' then some (a == b) else none
  | .bool a, .bool b => some (a == b)
  | _, _ => none
def mget : List SV → SV → Option (Option SV)
  | [], _ => some none
  | k :: v :: l, x => (match kEq x (soft k) with | some true => some (some v) | some false => mget l x | none => none)
  | [_], _ => none
def mput : List SV → SV → SV → Option (List SV)
  | [], k, v => some [k, v]
  | k :: w :: l, x, v => (match kEq (soft x) (soft k) with
    | some true => some (x :: v :: l)
    | some false => (match mput l x v with | some m => some (k :: w :: m) | none => none)
    | none => none)
  | [_], _, _ => none
/-- integers and bools -/
def keyT (P : Program) (t : TypeId) : Option TypeDesc :=
  match P.underlying t with
  | some (.map kt _) => (match P.underlying kt with
    | some (.int k) => some (.int k)
    | some .bool => some .bool
    | _ => none)
  | _ => none
def keyOk (d : TypeDesc) (k : SV) : Bool := match d, k with
  | .int k, .int k' _ => decide (k = k')
  | .bool, .bool _ => true
  | _, _ => false
def elemT (P : Program) (t : TypeId) : Option TypeId := match P.underlying t with | some (.map _ e) => some e | _ => none
def intS : SV → Bool
  | .int _ _ => true
  | _ => false

def hintS : List SV → Bool
  | [] => true
  | v :: _ => intS (soft v)

def xmap (P : Program) (h : Heap) (t : Tmps) (m : Nat) (d : Option Dir) (op : Op) : Option Out :=
  match op with
  | .makeMap ty r => (match P.underlying ty with
    | some (.map _ _) => (match evs t r.toList with
      | some l => if hintS l && isNone (get h m) then some ⟨.mapp m, [(m, .mp [])], []⟩ else none
      | none => none)
    | _ => none)
  | .insert ty x k v | .mapUpdate ty x k v => (match ev t x, ev t k, ev t v, keyT P ty with
    | some (.mapp j), some ks, some vs, some kd => (match get h j with
      | some (.mp cs) => if keyOk kd (soft ks) then (match mput cs ks vs with
        | some cs' => some ⟨.tup [], [(j, .mp cs')], []⟩
        | none => none) else none
      | _ => none)
    | _, _, _, _ => none)
  | .lookup ty x k ok => (match ev t x, ev t k, keyT P ty, elemT P ty with
    | some (.mapp j), some ks, some kd, some et => (match get h j, zeroT P et with
      | some (.mp cs), some z => if keyOk kd (soft ks) then (match d with
        | some (.at_ (.tup [u, .bool b])) => some ⟨bif ok then .tup [u, .bool b] else u, [], [mget cs (soft ks) = some (bif b then some u else none), b = true ∨ u = z]⟩
        | _ => (match mget cs (soft ks) with
          | some (some u) => some ⟨bif ok then .tup [u, .bool true] else u, [], []⟩
          | some none => some ⟨bif ok then .tup [z, .bool false] else z, [], []⟩
          | none => none)) else none
      | _, _ => none)
    | _, _, _, _ => none)
  | _ => none

theorem kEq_now {ρ : Env} {d : TypeDesc} {x k : SV} {X K : Value} {b : Bool} (h : kEq x k = some b) (hd : keyOk d x = true) (hx : den ρ x = some X) (hk : den ρ k = some K) : Instr.sameNow d X K = some b := by
  cases x <;> cases k <;> simp only [kEq, reduceCtorEq] at h
  · simp [den] at hx hk; subst hx; subst hk
    cases d <;> simp [keyOk] at hd
    split at h
    · rename_i he
      simp only [Option.some.injEq] at h
      simp [Instr.sameNow, he, h]
    · cases h
  · simp [den] at hx hk; subst hx; subst hk
    cases d <;> simp [keyOk] at hd
    simp only [Option.some.injEq] at h
    simp [Instr.sameNow, h]
theorem keyOk_is {ρ : Env} {d : TypeDesc} {x : SV} {X : Value} (hd : keyOk d x = true) (hx : den ρ x = some X) : IsKey d X := by
  cases d <;> cases x <;> simp [keyOk] at hd
  · simp [den] at hx; subst hx; simp [IsKey]
  · simp [den] at hx; subst hx; simp [IsKey]; exact hd.symm

theorem denl_two {ρ : Env} {k v : SV} {l : List SV} {e : MapEntry} {es : List MapEntry} (h : denl ρ (k :: v :: l) = some (flatM (e :: es))) : den ρ k = some e.key ∧ den ρ v = some e.val ∧ denl ρ l = some (flatM es) := by
  obtain ⟨K, M, h1, h2, h3⟩ := denl_cons.1 h
  obtain ⟨V, N, h4, h5, h6⟩ := denl_cons.1 h2
  simp only [flatM] at h3
  injection h3 with h7 h8
  rw [h6] at h8
  injection h8 with h9 h10
  exact ⟨by rw [h7]; exact h1, by rw [h9]; exact h4, by rw [h10]; exact h5⟩

theorem mget_run {ρ : Env} {d : TypeDesc} {x : SV} {X : Value} (hx : den ρ x = some X) (hd : keyOk d x = true) : ∀ (cs : List SV) (es : List MapEntry) (i : Nat) (r : Option SV), denl ρ cs = some (flatM es) → mget cs x = some r →
    (r = none → Instr.findNow d X es i = some none) ∧ (∀ u, r = some u → ∃ j V, Instr.findNow d X es i = some (some (j, V)) ∧ den ρ u = some V)
  | [], [], i, r, _, h => by simp [mget] at h; subst h; exact ⟨fun _ => rfl, fun u hu => (by cases hu)⟩
  | [], e :: es, i, r, hc, _ => by simp [denl, flatM] at hc
  | [k], es, i, r, _, h => by simp [mget] at h
  | k :: v :: l, [], i, r, hc, _ => by
    have := denl_length hc
    simp [flatM] at this
  | k :: v :: l, e :: es, i, r, hc, h => by
    obtain ⟨h1, h2, h3⟩ := denl_two hc
    simp only [mget] at h
    split at h
    · rename_i he
      have hn := kEq_now he hd hx (by rw [den_soft]; exact h1)
      simp only [Option.some.injEq] at h; subst h
      exact ⟨fun hr => (by cases hr), fun u hu => by
        injection hu with hu; subst hu
        exact ⟨i, e.val, by simp [Instr.findNow, hn], h2⟩⟩
    · rename_i he
      have hn := kEq_now he hd hx (by rw [den_soft]; exact h1)
      obtain ⟨a, b⟩ := mget_run hx hd l es (i + 1) r h3 h
      exact ⟨fun hr => by simp [Instr.findNow, hn, a hr], fun u hu => by
        obtain ⟨j, V, c1, c2⟩ := b u hu
        exact ⟨j, V, by simp [Instr.findNow, hn, c1], c2⟩⟩
    · cases h

theorem flatM_append : ∀ (a b : List MapEntry), flatM (a ++ b) = flatM a ++ flatM b
  | [], _ => rfl
  | e :: a, b => by simp only [List.cons_append, flatM, flatM_append a b]

theorem mput_run {ρ : Env} {d : TypeDesc} {x v : SV} {X V : Value} (hx : den ρ x = some X) (hd : keyOk d (soft x) = true) (hv : den ρ v = some V) : ∀ (cs : List SV) (es : List MapEntry) (i : Nat) (cs' : List SV), denl ρ cs = some (flatM es) → mput cs x v = some cs' →
    (Instr.findNow d X es i = some none ∧ ∀ c, denl ρ cs' = some (flatM (es ++ [{ key := X, val := V, born := c }]))) ∨
    ∃ j e, Instr.findNow d X es i = some (some (i + j, e.val)) ∧ es[j]? = some e ∧ e.key = X ∧ denl ρ cs' = some (flatM (es.modify j fun e => { e with key := X, val := V }))
  | [], [], i, cs', _, h => by
    simp [mput] at h; subst h
    exact .inl ⟨rfl, fun c => denl_cons.2 ⟨X, [V], hx, denl_cons.2 ⟨V, [], hv, rfl, rfl⟩, rfl⟩⟩
  | [], e :: es, i, cs', hc, _ => by simp [denl, flatM] at hc
  | [k], es, i, cs', _, h => by simp [mput] at h
  | k :: w :: l, [], i, cs', hc, _ => by
    have := denl_length hc
    simp [flatM] at this
  | k :: w :: l, e :: es, i, cs', hc, h => by
    obtain ⟨h1, h2, h3⟩ := denl_two hc
    have hx' : den ρ (soft x) = some X := by rw [den_soft]; exact hx
    simp only [mput] at h
    split at h
    · rename_i he
      have hn := kEq_now he hd hx' (by rw [den_soft]; exact h1)
      simp only [Option.some.injEq] at h; subst h
      refine .inr ⟨0, e, by simp [Instr.findNow, hn], rfl, ?_, ?_⟩
      · -- the keys are the same
        have hs : keyOk d (soft k) = true := by
          revert he hd
          cases soft x <;> cases soft k <;> cases d <;> simp [kEq, keyOk]
          all_goals (intros; simp_all)
        obtain ⟨r, hr, hiff⟩ := sameNow_of_keys (keyOk_is hd hx') (keyOk_is hs (by rw [den_soft]; exact h1))
        rw [hn] at hr; injection hr with hr
        exact (hiff.1 hr.symm).symm
      · simp only [List.modify_zero_cons, flatM]
        exact denl_cons.2 ⟨X, _, hx, denl_cons.2 ⟨V, _, hv, h3, rfl⟩, rfl⟩
    · rename_i he
      have hn := kEq_now he hd hx' (by rw [den_soft]; exact h1)
      split at h
      · rename_i m hm
        simp only [Option.some.injEq] at h; subst h
        rcases mput_run hx hd hv l es (i + 1) m h3 hm with ⟨a, b⟩ | ⟨j, e', a, b, c, dd⟩
        · refine .inl ⟨by simp [Instr.findNow, hn, a], fun c => ?_⟩
          simp only [List.cons_append, flatM]
          exact denl_cons.2 ⟨_, _, h1, denl_cons.2 ⟨_, _, h2, b c, rfl⟩, rfl⟩
        · refine .inr ⟨j + 1, e', by simp [Instr.findNow, hn, a]; omega, by simpa using b, c, ?_⟩
          simp only [List.modify_succ_cons, flatM]
          exact denl_cons.2 ⟨_, _, h1, denl_cons.2 ⟨_, _, h2, dd, rfl⟩, rfl⟩
      · cases h
    · cases h

theorem keyT_some {P : Program} {t : TypeId} {d : TypeDesc} (h : keyT P t = some d) : ∃ kt et, P.underlying t = some (.map kt et) ∧ P.underlying kt = some d := by
  unfold keyT at h
  split at h
  · rename_i kt et hu
    refine ⟨kt, et, hu, ?_⟩
    split at h
    · rename_i k hk; simp only [Option.some.injEq] at h; subst h; exact hk
    · rename_i hk; simp only [Option.some.injEq] at h; subst h; exact hk
    · cases h
  · cases h
theorem elemT_some {P : Program} {t e : TypeId} (h : elemT P t = some e) : ∃ kt, P.underlying t = some (.map kt e) := by
  unfold elemT at h
  split at h
  · rename_i kt et hu; simp only [Option.some.injEq] at h; subst h; exact ⟨kt, hu⟩
  · cases h
theorem den_mapp {ρ : Env} {j : Nat} {V : Value} (h : den ρ (.mapp j) = some V) : ∃ l a, ρ j = some l ∧ l.adr = some a ∧ V = .map (some a.block) := by
  simp only [den, Option.bind_eq_some_iff, Option.map_eq_some_iff] at h
  obtain ⟨l, hl, a, ha, rfl⟩ := h; exact ⟨l, a, hl, ha, rfl⟩

theorem stays {P : Program} {d : TypeDesc} {X : Value} (h : IsKey d X) (W : World) : (Instr.keyThatStays X X).run P W = .ok X W := by
  have : Instr.sameBits 10000 X X = true := by
    cases d <;> cases X <;> simp_all [IsKey, Instr.sameBits, bytes_beq]
  simp [Instr.keyThatStays, this]

theorem update_run {P : Program} {ty : TypeId} {kd : TypeDesc} (hk : keyT P ty = some kd) {ρ : Env} {W0 : World} {S : Nat → Prop} {hp : Heap} {W : World} (s : Sat W0 S ρ hp W) {j : Nat} {cs cs' : List SV} {ks vs : SV} (hj : get hp j = some (.mp cs))
    (hd : keyOk kd (soft ks) = true) (hm : mput cs ks vs = some cs') {M X V : Value} (hM : den ρ (.mapp j) = some M) (hX : den ρ ks = some X) (hV : den ρ vs = some V) :
    ∃ W', (Instr.mapUpdate ty M X V).run P W = .ok () W' ∧ Sat W0 S ρ (put hp j (.mp cs')) W' := by
  obtain ⟨l, a, h1, h2, rfl⟩ := den_mapp hM
  obtain ⟨l', h3, ok⟩ := s.ent j _ hj
  rw [h1] at h3; injection h3 with h3; subst h3
  obtain ⟨b, Vs, es, ck, k1, k2, k3, k4⟩ := ok.ex
  rw [h2] at k1; injection k1 with k1; subst k1
  subst k4
  obtain ⟨kt, et, hu, hku⟩ := keyT_some hk
  have hkey : IsKey kd X := keyOk_is hd (by rw [den_soft]; exact hX)
  have hck := MapKept.run_checkKey (P := P) (w := W) hku hkey false 9999
  have hur := run_underlying hu W
  have hget := MapKept.run_getObj_map (P := P) k3
  have hb : l.blk = some b := by simp [Loc.blk, h2]
  rcases mput_run hX hd hV cs es.toList 0 cs' k2 hm with ⟨f1, f2⟩ | ⟨i, e, f1, f2, f3, f4⟩
  · have hf := MapKept.run_findKey (P := P) (w := W) hku f1
    have hset := MapKept.run_setObj_map (P := P) (Obj.map (es.push { key := X, val := V, born := ck }) (ck + 1)) k3
    refine ⟨_, by simp only [Instr.mapUpdate, Sem.run_bind, hur, Result.andThen_ok, hget, hck, hf]; exact hset, ?_⟩
    refine s.turn hj rfl h1 hb rfl rfl rfl (by simp) (fun k hk2 => (MapKept.heap_set k3).2 k hk2) ⟨b, _, _, _, h2, f2 ck, (MapKept.heap_set k3).1, ?_⟩
    simp
  · have hf := MapKept.run_findKey (P := P) (w := W) hku f1
    rw [Nat.zero_add] at f1 hf
    have hold : ((es[i]?).map (·.key)).getD X = X := by
      have : es[i]? = some e := by simpa using f2
      rw [this]; exact f3
    have hst := stays (P := P) hkey W
    have hset := MapKept.run_setObj_map (P := P) (Obj.map (es.modify i fun e => { e with key := X, val := V }) ck) k3
    refine ⟨_, by simp only [Instr.mapUpdate, Sem.run_bind, hur, Result.andThen_ok, hget, hck, hf, hold, hst]; exact hset, ?_⟩
    refine s.turn hj rfl h1 hb rfl rfl rfl (by simp) (fun k hk2 => (MapKept.heap_set k3).2 k hk2) ⟨b, _, _, _, h2, f4, (MapKept.heap_set k3).1, ?_⟩
    simp

theorem lookup_run {P : Program} {ty et : TypeId} {kd : TypeDesc} (hk : keyT P ty = some kd) (he : elemT P ty = some et) {z : SV} (hz : zeroT P et = some z) {ρ : Env} {W0 : World} {S : Nat → Prop} {hp : Heap} {W : World} (s : Sat W0 S ρ hp W) {j : Nat} {cs : List SV} {ks : SV} (hj : get hp j = some (.mp cs))
    (hd : keyOk kd (soft ks) = true) {r : Option SV} (hm : mget cs (soft ks) = some r) {M X : Value} (hM : den ρ (.mapp j) = some M) (hX : den ρ ks = some X) (ok : Bool) :
    ∃ V, den ρ (match r with | some u => bif ok then .tup [u, .bool true] else u | none => bif ok then .tup [z, .bool false] else z) = some V ∧ (Instr.lookup ty M X ok).run P W = .ok V W := by
  obtain ⟨l, a, h1, h2, rfl⟩ := den_mapp hM
  obtain ⟨l', h3, ok'⟩ := s.ent j _ hj
  rw [h1] at h3; injection h3 with h3; subst h3
  obtain ⟨b, Vs, es, ck, k1, k2, k3, k4⟩ := ok'.ex
  rw [h2] at k1; injection k1 with k1; subst k1
  subst k4
  obtain ⟨kt, et', hu, hku⟩ := keyT_some hk
  obtain ⟨kt2, hu2⟩ := elemT_some he
  rw [hu] at hu2; injection hu2 with hu2; injection hu2 with e1 e2; subst e1; subst e2
  have hX' : den ρ (soft ks) = some X := by rw [den_soft]; exact hX
  have hkey : IsKey kd X := keyOk_is hd hX'
  have hck := MapKept.run_checkKey (P := P) (w := W) hku hkey es.isEmpty 9999
  have hur := run_underlying hu W
  have hget := MapKept.run_getObj_map (P := P) k3
  obtain ⟨f1, f2⟩ := mget_run hX' hd cs es.toList 0 r k2 hm
  cases r with
  | none =>
    have hf := MapKept.run_findKey (P := P) (w := W) hku (f1 rfl)
    obtain ⟨Z, hZ, hZr⟩ := zeroT_run hz ρ
    cases ok with
    | true => exact ⟨.tuple #[Z, .bool false], by simp [den, denl, hZ], by simp [Instr.lookup, hur, hget, hck, hf, hZr]⟩
    | false => exact ⟨Z, by simpa using hZ, by simp [Instr.lookup, hur, hget, hck, hf, hZr]⟩
  | some u =>
    obtain ⟨i, V, g1, g2⟩ := f2 u rfl
    have hf := MapKept.run_findKey (P := P) (w := W) hku g1
    cases ok with
    | true => exact ⟨.tuple #[V, .bool true], by simp [den, denl, g2], by simp [Instr.lookup, hur, hget, hck, hf]⟩
    | false => exact ⟨V, by simpa using g2, by simp [Instr.lookup, hur, hget, hck, hf]⟩

theorem xmap_sound {P : Program} (o : Oper) {hp : Heap} {t : Tmps} {m : Nat} {d : Option Dir} {out : Out} (h : xmap P hp t m d o.op = some out) (ho : All out.o)
    {ρ : Env} {a : Act} (ag : Agree ρ t a.tmps) {W0 : World} {S : Nat → Prop} {W : World} (s : Sat W0 S ρ hp W) : Eff P W0 S ρ hp W out ((execOp a.eval o).run P W) := by
  have upd : ∀ ty x k v, (∀ e, execOp e o = (do Instr.mapUpdate ty (e x) (e k) (e v); pure .skip)) → (match ev t x, ev t k, ev t v, keyT P ty with
    | some (.mapp j), some ks, some vs, some kd => (match get hp j with
      | some (.mp cs) => if keyOk kd (soft ks) then (match mput cs ks vs with
        | some cs' => some ⟨.tup [], [(j, .mp cs')], []⟩
        | none => none) else none
      | _ => none)
    | _, _, _, _ => none) = some out → Eff P W0 S ρ hp W out ((execOp a.eval o).run P W) := by
    intro ty x k v hex h
    split at h
    · rename_i j ks vs kd hx hk hv hkt
      split at h
      · rename_i cs hj
        split at h
        · rename_i hd
          split at h
          · rename_i cs' hm
            simp only [Option.some.injEq] at h; subst h
            obtain ⟨W', h1, h2⟩ := update_run hkt s hj hd hm (ev_den ag hx) (ev_den ag hk) (ev_den ag hv)
            refine ⟨ρ, W', undef, .skip, Env.le.refl _, rfl, ?_, .inr ⟨rfl, rfl⟩, h2⟩
            rw [hex]
            simp [h1]
          · cases h
        · cases h
      · cases h
    · cases h
  cases hop : o.op with
  | makeMap ty r =>
    rw [hop] at h; simp only [xmap] at h
    split at h
    · rename_i kt et hu
      have hur := run_underlying hu W
      split at h
      · rename_i l hl
        split at h
        · rename_i hc
          simp only [Bool.and_eq_true] at hc
          simp only [Option.some.injEq] at h; subst h
          have hm := isNone_iff hc.2
          have hrun : (execOp a.eval o).run P W = .ok (.value (.map (some W.heap.size))) (W.alloc (.map #[] 0)) := by
            cases r with
            | none => simp [execOp, hop, Instr.makeMap]
            | some x =>
              have hd := evs_den ag hl
              simp only [Option.toList_some, List.map_cons, List.map_nil] at hd
              cases l with
              | nil => simp [denl] at hd
              | cons v l =>
                obtain ⟨V, M, q1, q2, q3⟩ := denl_cons.1 hd
                injection q3 with q3 _
                have hi : intS (soft v) = true := hc.1
                have q4 : den ρ (soft v) = some V := by rw [den_soft]; exact q1
                cases hsv : soft v <;> rw [hsv] at hi q4 <;> simp [intS] at hi
                simp [den] at q4
                rw [← q4] at q3
                simp [execOp, hop, Instr.makeMap, hur, q3, asInt, asIntOf]
          exact ⟨_, _, .map (some W.heap.size), _, Env.upd_le (s.key m hm), by simp [den, Env.upd], hrun, .inl rfl, s.allocE hm _ ⟨W.heap.size, [], #[], 0, rfl, rfl, (MapKept.heap_alloc W _).1, rfl⟩⟩
        · cases h
      · cases h
    · cases h
  | insert ty x k v =>
    rw [hop] at h; simp only [xmap] at h
    exact upd ty x k v (fun e => by simp only [execOp, hop]) h
  | mapUpdate ty x k v =>
    rw [hop] at h; simp only [xmap] at h
    exact upd ty x k v (fun e => by simp only [execOp, hop]) h
  | lookup ty x k ok =>
    rw [hop] at h; simp only [xmap] at h
    split at h
    · rename_i j ks kd et hx hk hkt het
      split at h
      · rename_i cs z hj hz
        split at h
        · rename_i hd
          have fin : ∀ r, mget cs (soft ks) = some r → ∃ V, den ρ (match r with | some u => bif ok then .tup [u, .bool true] else u | none => bif ok then .tup [z, .bool false] else z) = some V ∧ (execOp a.eval o).run P W = .ok (.value V) W := by
            intro r hm
            obtain ⟨V, h1, h2⟩ := lookup_run hkt het hz s hj hd hm (ev_den ag hx) (ev_den ag hk) ok
            exact ⟨V, h1, by simp [execOp, hop, h2]⟩
          split at h
          · rename_i u b
            simp only [Option.some.injEq] at h; subst h
            obtain ⟨o1, o2, _⟩ := ho
            obtain ⟨V, h1, h2⟩ := fin _ o1
            refine ⟨ρ, W, V, _, Env.le.refl _, ?_, h2, .inl rfl, s⟩
            cases b with
            | true => exact h1
            | false =>
              rcases o2 with o2 | o2
              · cases o2
              · subst o2; exact h1
          · split at h
            · rename_i u hm
              simp only [Option.some.injEq] at h; subst h
              obtain ⟨V, h1, h2⟩ := fin _ hm
              exact ⟨ρ, W, V, _, Env.le.refl _, h1, h2, .inl rfl, s⟩
            · rename_i hm
              simp only [Option.some.injEq] at h; subst h
              obtain ⟨V, h1, h2⟩ := fin _ hm
              exact ⟨ρ, W, V, _, Env.le.refl _, h1, h2, .inl rfl, s⟩
            · cases h
        · cases h
      · cases h
    · cases h
  | _ => rw [hop] at h; simp [xmap] at h
end Go.Sx
