/- What functions of the program answer: contracts, each proved by the executor. -/
import Derived.Test.YtnnmofebjfpcnaaGreatSeatD
import Derived.Test.YtnnmofebjfpcnaaGreatSxDig
import Derived.Test.YtnnmofebjfpcnaaGreatKLen
import Derived.Test.YtnnmofebjfpcnaaGreatKDivRaw
set_option linter.unusedVariables false
set_option linter.unusedSimpArgs false

namespace Go.Sx
open Go.Proofs
set_option maxRecDepth 100000
theorem shl_ob (x s : Nat) (h : s ≤ 64) : IntKind.u64.wrap ((x : Int) * (2 : Int) ^ (min ((s : Int)).toNat 64)) = ((x * 2 ^ s % 18446744073709551616 : Nat) : Int) := by
  rw [Int.toNat_natCast, Nat.min_eq_left h, ← w64n]
  simp
theorem shr_ob (x s : Nat) (h : s ≤ 64) : (x : Int).fdiv ((2 : Int) ^ (min ((s : Int)).toNat 64)) = ((x / 2 ^ s : Nat) : Int) := by
  rw [Int.toNat_natCast, Nat.min_eq_left h]
  exact fd x s
theorem tdiv_ob (a b : Nat) (h : a < 18446744073709551616) : IntKind.u64.wrap ((a : Int).tdiv (b : Int)) = ((a / b : Nat) : Int) := by
  have : (a : Int).tdiv (b : Int) = ((a / b : Nat) : Int) := rfl
  rw [this]
  exact w64_lt (Nat.lt_of_le_of_lt (Nat.div_le_self _ _) h)
theorem mulc_ob (a : Nat) : IntKind.u64.wrap ((a : Int) * (4294967296 : Int)) = ((a * 4294967296 % 18446744073709551616 : Nat) : Int) := w64_mul a 4294967296
theorem cmul_ob (r : Nat) (h : r < 4294967296) : IntKind.u64.wrap ((4294967296 : Int) * (r : Int)) = ((4294967296 * r : Nat) : Int) := by
  have : (4294967296 : Int) * (r : Int) = ((4294967296 * r : Nat) : Int) := by omega
  rw [this]; exact w64_lt (by omega)
theorem sub1_ob (q : Nat) (h0 : 0 < q) (h : q ≤ 4294967297) : IntKind.u64.wrap ((q : Int) - (1 : Int)) = ((q - 1 : Nat) : Int) := by
  have : (q : Int) - (1 : Int) = ((q - 1 : Nat) : Int) := by omega
  rw [this]; exact w64_lt (by omega)
theorem add_ob (r a : Nat) (h : r + a < 18446744073709551616) : IntKind.u64.wrap ((r : Int) + (a : Int)) = ((r + a : Nat) : Int) := by
  rw [add_cast]; exact w64_lt h
theorem cond_ob (q m r d : Nat) (hq : q < 4294967296) (hm : m < 4294967296) (hr : r < 4294967296) (hd : d < 4294967296) :
    decide (IntKind.u64.wrap ((q : Int) * (m : Int)) > IntKind.u64.wrap (IntKind.u64.wrap ((4294967296 : Int) * (r : Int)) + (d : Int))) = decide (4294967296 * r + d < q * m) := by
  have h1 := sq_le hq hm
  rw [cmul_ob r hr, mul_cast, w64_lt (by omega), add_ob _ _ (by omega)]
  simp only [decide_eq_decide, gt_iff_lt]
  exact Int.ofNat_lt

theorem loop1 (ys s a m u d1 d0 q0 r0 : Nat) (ea : a = ys / 4294967296) (em : m = ys % 4294967296) (hu : u < ys) (hd : d1 < 4294967296) (ha : 2147483648 ≤ ys / 4294967296) (hy : ys < 18446744073709551616) (e0 : q0 = u / a) (er : r0 = u % a) :
    CodeOK Tryz.prog 0 (cutAt Tryz.prog 34 0) ⟨mkT 135 [(2, u64 ys), (8, u64 s), (9, u64 a), (10, u64 m), (11, u64 u), (13, u64 d1), (14, u64 d0), (15, u64 q0), (16, u64 r0)], []⟩ ⟨mkT 135 [(2, u64 ys), (8, u64 s), (9, u64 a), (10, u64 m), (11, u64 u), (13, u64 d1), (14, u64 d0), (15, u64 (Dv.Q u ys d1))], []⟩ (.exit 0) := by
  have hc : cutAt Tryz.prog 34 0 = .loop (loopB Tryz.prog 34 0) := by kernel_rfl
  rw [hc]
  subst ea em e0 er
  have hm : ys % 4294967296 < 4294967296 := Nat.mod_lt _ (by decide)
  refine digit (fun q r => ⟨mkT 135 [(2, u64 ys), (8, u64 s), (9, u64 (ys / 4294967296)), (10, u64 (ys % 4294967296)), (11, u64 u), (13, u64 d1), (14, u64 d0), (15, u64 q), (16, u64 r)], []⟩) (fun q => ⟨mkT 135 [(2, u64 ys), (8, u64 s), (9, u64 (ys / 4294967296)), (10, u64 (ys % 4294967296)), (11, u64 u), (13, u64 d1), (14, u64 d0), (15, u64 q)], []⟩) hu hd ha hy ?_ ?_ ?_
  · intro q r h0 h1 h2 hc h3
    by_cases hq : 4294967296 ≤ q
    · exact see0 L0 100 0 _ (lp1_tn ys s (ys / 4294967296) (ys % 4294967296) u d1 d0 q r (q - 1) (r + ys / 4294967296)) ⟨svb (decide_eq_true (by omega)), svi (sub1_ob q h0 h1), svi (add_ob _ _ (by omega)), svb (decide_eq_false (by omega)), trivial⟩ ⟨rfl, rfl, rfl, rfl, rfl, rfl, rfl, rfl, rfl, trivial⟩ rfl
    · exact see0 L0 100 0 _ (lp1_fn ys s (ys / 4294967296) (ys % 4294967296) u d1 d0 q r (q - 1) (r + ys / 4294967296)) ⟨svb (decide_eq_false (by omega)), svb ((cond_ob q _ r _ (by omega) hm h2 hd).trans (decide_eq_true (by omega))), svi (sub1_ob q h0 h1), svi (add_ob _ _ (by omega)), svb (decide_eq_false (by omega)), trivial⟩ ⟨rfl, rfl, rfl, rfl, rfl, rfl, rfl, rfl, rfl, trivial⟩ rfl
  · intro q r h0 h1 h2 hc h3
    by_cases hq : 4294967296 ≤ q
    · exact see0 L0 100 0 _ (lp1_te ys s (ys / 4294967296) (ys % 4294967296) u d1 d0 q r (q - 1) (r + ys / 4294967296)) ⟨svb (decide_eq_true (by omega)), svi (sub1_ob q h0 h1), svi (add_ob _ _ (by omega)), svb (decide_eq_true (by omega)), trivial⟩ ⟨rfl, rfl, rfl, rfl, rfl, rfl, rfl, rfl, trivial⟩ rfl
    · exact see0 L0 100 0 _ (lp1_fe ys s (ys / 4294967296) (ys % 4294967296) u d1 d0 q r (q - 1) (r + ys / 4294967296)) ⟨svb (decide_eq_false (by omega)), svb ((cond_ob q _ r _ (by omega) hm h2 hd).trans (decide_eq_true (by omega))), svi (sub1_ob q h0 h1), svi (add_ob _ _ (by omega)), svb (decide_eq_true (by omega)), trivial⟩ ⟨rfl, rfl, rfl, rfl, rfl, rfl, rfl, rfl, trivial⟩ rfl
  · intro q r h0 h1 h2
    exact see0 L0 100 0 _ (lp1_s ys s (ys / 4294967296) (ys % 4294967296) u d1 d0 q r) ⟨svb (decide_eq_false (by omega)), svb ((cond_ob q _ r _ h0 hm h1 hd).trans (decide_eq_false (by omega))), trivial⟩ ⟨rfl, rfl, rfl, rfl, rfl, rfl, rfl, rfl, trivial⟩ rfl

theorem loop2 (ys s a m d0 q1 v q0 r0 : Nat) (ea : a = ys / 4294967296) (em : m = ys % 4294967296) (hu : v < ys) (hd : d0 < 4294967296) (ha : 2147483648 ≤ ys / 4294967296) (hy : ys < 18446744073709551616) (e0 : q0 = v / a) (er : r0 = v % a) :
    CodeOK Tryz.prog 0 (cutAt Tryz.prog 34 1) ⟨mkT 135 [(2, u64 ys), (8, u64 s), (9, u64 a), (10, u64 m), (14, u64 d0), (15, u64 q1), (17, u64 v), (18, u64 q0), (16, u64 r0)], []⟩ ⟨mkT 135 [(2, u64 ys), (8, u64 s), (9, u64 a), (10, u64 m), (14, u64 d0), (15, u64 q1), (17, u64 v), (18, u64 (Dv.Q v ys d0))], []⟩ (.exit 2) := by
  have hc : cutAt Tryz.prog 34 1 = .loop (loopB Tryz.prog 34 1) := by kernel_rfl
  rw [hc]
  subst ea em e0 er
  have hm : ys % 4294967296 < 4294967296 := Nat.mod_lt _ (by decide)
  refine digit (fun q r => ⟨mkT 135 [(2, u64 ys), (8, u64 s), (9, u64 (ys / 4294967296)), (10, u64 (ys % 4294967296)), (14, u64 d0), (15, u64 q1), (17, u64 v), (18, u64 q), (16, u64 r)], []⟩) (fun q => ⟨mkT 135 [(2, u64 ys), (8, u64 s), (9, u64 (ys / 4294967296)), (10, u64 (ys % 4294967296)), (14, u64 d0), (15, u64 q1), (17, u64 v), (18, u64 q)], []⟩) hu hd ha hy ?_ ?_ ?_
  · intro q r h0 h1 h2 hc h3
    by_cases hq : 4294967296 ≤ q
    · exact see0 L0 100 0 _ (lp2_tn ys s (ys / 4294967296) (ys % 4294967296) d0 q1 v q r (q - 1) (r + ys / 4294967296)) ⟨svb (decide_eq_true (by omega)), svi (sub1_ob q h0 h1), svi (add_ob _ _ (by omega)), svb (decide_eq_false (by omega)), trivial⟩ ⟨rfl, rfl, rfl, rfl, rfl, rfl, rfl, rfl, rfl, trivial⟩ rfl
    · exact see0 L0 100 0 _ (lp2_fn ys s (ys / 4294967296) (ys % 4294967296) d0 q1 v q r (q - 1) (r + ys / 4294967296)) ⟨svb (decide_eq_false (by omega)), svb ((cond_ob q _ r _ (by omega) hm h2 hd).trans (decide_eq_true (by omega))), svi (sub1_ob q h0 h1), svi (add_ob _ _ (by omega)), svb (decide_eq_false (by omega)), trivial⟩ ⟨rfl, rfl, rfl, rfl, rfl, rfl, rfl, rfl, rfl, trivial⟩ rfl
  · intro q r h0 h1 h2 hc h3
    by_cases hq : 4294967296 ≤ q
    · exact see0 L0 100 0 _ (lp2_te ys s (ys / 4294967296) (ys % 4294967296) d0 q1 v q r (q - 1) (r + ys / 4294967296)) ⟨svb (decide_eq_true (by omega)), svi (sub1_ob q h0 h1), svi (add_ob _ _ (by omega)), svb (decide_eq_true (by omega)), trivial⟩ ⟨rfl, rfl, rfl, rfl, rfl, rfl, rfl, rfl, trivial⟩ rfl
    · exact see0 L0 100 0 _ (lp2_fe ys s (ys / 4294967296) (ys % 4294967296) d0 q1 v q r (q - 1) (r + ys / 4294967296)) ⟨svb (decide_eq_false (by omega)), svb ((cond_ob q _ r _ (by omega) hm h2 hd).trans (decide_eq_true (by omega))), svi (sub1_ob q h0 h1), svi (add_ob _ _ (by omega)), svb (decide_eq_true (by omega)), trivial⟩ ⟨rfl, rfl, rfl, rfl, rfl, rfl, rfl, rfl, trivial⟩ rfl
  · intro q r h0 h1 h2
    exact see0 L0 100 0 _ (lp2_s ys s (ys / 4294967296) (ys % 4294967296) d0 q1 v q r) ⟨svb (decide_eq_false (by omega)), svb ((cond_ob q _ r _ h0 hm h1 hd).trans (decide_eq_false (by omega))), trivial⟩ ⟨rfl, rfl, rfl, rfl, rfl, rfl, rfl, rfl, trivial⟩ rfl

theorem sub_ob {a b v : Nat} (hb : b ≤ 18446744073709551616) (h : (a + (18446744073709551616 - b)) % 18446744073709551616 = v) : IntKind.u64.wrap ((a : Int) - (b : Int)) = (v : Int) := by rw [w64_sub a b hb, h]
theorem left_over (u y d q v : Nat) (e : q * y + v = u * 4294967296 + d) (hv : v < 18446744073709551616) :
    ((u * 4294967296 % 18446744073709551616 + d) % 18446744073709551616 + (18446744073709551616 - q * y % 18446744073709551616)) % 18446744073709551616 = v := by
  have h1 : q * y % 18446744073709551616 < 18446744073709551616 := Nat.mod_lt _ (by decide)
  generalize q * y = p at *
  generalize u * 4294967296 = x at *
  omega

theorem div_go (hi lo y s ys a m h1 s2 l1 u w d1 d0 q0 qa r0 q1 ub ud qy v p0 pa r1 p1 qb qq vb vd py rr rm : Nat)
    (h0 : 0 < hi) (hlt : hi < y) (hy : y < 18446744073709551616) (hs : s ≤ 63) (es : s = 64 - bl y)
    (eys : ys = y * 2 ^ s % 18446744073709551616) (ea : a = ys / 4294967296) (em : m = ys % 4294967296) (eh1 : h1 = hi * 2 ^ s % 18446744073709551616) (es2 : s2 = 64 - s) (el1 : l1 = lo / 2 ^ s2)
    (eu : u = (h1 ||| l1) % 18446744073709551616) (ew : w = lo * 2 ^ s % 18446744073709551616) (ed1 : d1 = w / 4294967296) (ed0 : d0 = w % 4294967296) (eq0 : q0 = u / a) (eqa : qa = q0 * a % 18446744073709551616) (er0 : r0 = u % a)
    (eq1 : q1 = Dv.Q u ys d1) (eub : ub = u * 4294967296 % 18446744073709551616) (eud : ud = (ub + d1) % 18446744073709551616) (eqy : qy = q1 * ys % 18446744073709551616) (ev : v = Dv.R u ys d1)
    (ep0 : p0 = v / a) (epa : pa = p0 * a % 18446744073709551616) (er1 : r1 = v % a) (ep1 : p1 = Dv.Q v ys d0) (eqb : qb = q1 * 4294967296 % 18446744073709551616) (eqq : qq = (qb + p1) % 18446744073709551616)
    (evb : vb = v * 4294967296 % 18446744073709551616) (evd : vd = (vb + d0) % 18446744073709551616) (epy : py = p1 * ys % 18446744073709551616) (err : rr = Dv.R v ys d0) (erm : rm = rr / 2 ^ s)
    (hu : u < ys) (ha : 2147483648 ≤ ys / 4294967296) :
    Pure Tryz.prog 34 [u64 hi, u64 lo, u64 y] (.tup [u64 qq, u64 rm]) := by
  have hys : ys < 18446744073709551616 := by rw [eys]; exact Nat.mod_lt _ (by decide)
  have hw : w < 18446744073709551616 := by rw [ew]; exact Nat.mod_lt _ (by decide)
  have hd1 : d1 < 4294967296 := by omega
  have hd0 : d0 < 4294967296 := by omega
  have hv : v < ys := by rw [ev]; exact Nat.mod_lt _ (by omega)
  have hrr : rr < ys := by rw [err]; exact Nat.mod_lt _ (by omega)
  have ha0 : 0 < a := by omega
  have huM : u < 18446744073709551616 := by omega
  have k0 : qa + r0 = u := by
    have hh := Nat.div_add_mod u a
    rw [← eq0, ← er0, Nat.mul_comm] at hh
    rw [eqa, Nat.mod_eq_of_lt (by omega)]; exact hh
  have k1 : pa + r1 = v := by
    have hh := Nat.div_add_mod v a
    rw [← ep0, ← er1, Nat.mul_comm] at hh
    rw [epa, Nat.mod_eq_of_lt (by omega)]; exact hh
  have m1 : (ud + (18446744073709551616 - qy)) % 18446744073709551616 = v := by
    rw [eud, eub, eqy]
    exact left_over u ys d1 q1 v (by rw [eq1, ev]; exact Dv.rest_eq u ys d1) (by omega)
  have m2 : (vd + (18446744073709551616 - py)) % 18446744073709551616 = rr := by
    rw [evd, evb, epy]
    exact left_over v ys d0 p1 rr (by rw [ep1, err]; exact Dv.rest_eq v ys d0) (by omega)
  have hqy : qy ≤ 18446744073709551616 := by omega
  have hpy : py ≤ 18446744073709551616 := by omega
  have c1 := loop1 ys s a m u d1 d0 q0 r0 ea em hu hd1 ha hys eq0 er0
  have c2 := loop2 ys s a m d0 q1 v p0 r1 ea em hv hd0 ha hys ep0 er1
  rw [← eq1] at c1
  rw [← ep1] at c2
  have hld := lead64 y hy
  rw [← es] at hld
  refine pure_of L0 200 _ (div_main hi lo y s ys a m h1 s2 l1 u w d1 d0 q0 qa r0 q1 ub ud qy v p0 pa r1 p1 qb qq vb vd py rr rm)
    ⟨svb (eq0_false (by omega)), svb (decide_eq_false (by omega)), svb (eq0_false h0), hld, svi (w64_lt (by omega)), svi ((shl_ob y s (by omega)).trans (by rw [eys])), Int.natCast_nonneg _,
     svi ((fd32 ys).trans (by rw [ea])), svi ((and32_ob ys).trans (by rw [em])), svi ((shl_ob hi s (by omega)).trans (by rw [eh1])), Int.natCast_nonneg _, svi (w64_lt' (n := s2) (by omega) (by omega)),
     svi ((shr_ob lo s2 (by omega)).trans (by rw [el1])), Int.natCast_nonneg _, svi ((w64_or h1 l1).trans (by rw [eu])), svi ((shl_ob lo s (by omega)).trans (by rw [ew])), Int.natCast_nonneg _,
     svi ((fd32 w).trans (by rw [ed1])), svi ((and32_ob w).trans (by rw [ed0])), svi ((tdiv_ob u a huM).trans (by rw [eq0])), ne0 ha0, svi ((w64_mul q0 a).trans (by rw [eqa])), svi (w64_lt' (n := r0) (by omega) (by omega)),
     strong0 c1 rfl rfl ⟨rfl, rfl, rfl, rfl, rfl, rfl, rfl, rfl, rfl, trivial⟩ rfl,
     svi ((mulc_ob u).trans (by rw [eub])), svi ((w64_add ub d1).trans (by rw [eud])), svi ((w64_mul q1 ys).trans (by rw [eqy])), svi (sub_ob hqy m1), svi ((tdiv_ob v a (by omega)).trans (by rw [ep0])), ne0 ha0, svi ((w64_mul p0 a).trans (by rw [epa])), svi (w64_lt' (n := r1) (by omega) (by omega)),
     strong0 c2 rfl rfl ⟨rfl, rfl, rfl, rfl, rfl, rfl, rfl, rfl, rfl, trivial⟩ rfl,
     svi ((mulc_ob q1).trans (by rw [eqb])), svi ((w64_add qb p1).trans (by rw [eqq])), svi ((mulc_ob v).trans (by rw [evb])), svi ((w64_add vb d0).trans (by rw [evd])), svi ((w64_mul p1 ys).trans (by rw [epy])), svi (sub_ob hpy m2),
     svi ((shr_ob rr s (by omega)).trans (by rw [erm])), Int.natCast_nonneg _, trivial⟩ rfl rfl

theorem div64 (hi lo y : Nat) (hlt : hi < y) (hy : y < 18446744073709551616) (hlo : lo < 18446744073709551616) :
    Pure Tryz.prog 34 [u64 hi, u64 lo, u64 y] (.tup [u64 ((hi * 18446744073709551616 + lo) / y), u64 ((hi * 18446744073709551616 + lo) % y)]) := by
  by_cases h0 : hi = 0
  · subst h0
    rw [Nat.zero_mul, Nat.zero_add]
    exact (pure_of L0 200 _ (div_zero lo y (lo / y) (lo % y)) ⟨svb (eq0_false hlt), svb (decide_eq_false (by omega)), svi (tdiv_ob lo y hlo), ne0 hlt, svi (tmodn lo y), ne0 hlt, trivial⟩ rfl rfl).soft rfl rfl
  · obtain ⟨b1, b2, b3⟩ := bl_top (x := y) (by omega)
    have b4 := bl_le (x := y) (k := 64) (by omega)
    obtain ⟨s, es⟩ : ∃ s, s = 64 - bl y := ⟨_, rfl⟩
    have hp := Nat.two_pow_pos s
    have t1 : 2 ^ (bl y) * 2 ^ s = 18446744073709551616 := by rw [← Nat.pow_add, es, Nat.add_sub_cancel' b4]
    have t2 : 2 ^ (bl y - 1) * 2 ^ s = 9223372036854775808 := by rw [← Nat.pow_add, es, show bl y - 1 + (64 - bl y) = 63 by omega]
    have u1 : y * 2 ^ s < 18446744073709551616 := by rw [← t1]; exact (Nat.mul_lt_mul_right hp).2 b2
    have u2 : 9223372036854775808 ≤ y * 2 ^ s := by rw [← t2]; exact Nat.mul_le_mul_right _ b1
    have u3 : (hi + 1) * 2 ^ s ≤ y * 2 ^ s := Nat.mul_le_mul_right _ hlt
    rw [Nat.add_mul, Nat.one_mul] at u3
    have t3 : 2 ^ s * 2 ^ (64 - s) = 18446744073709551616 := by rw [← Nat.pow_add, Nat.add_sub_cancel' (by omega)]
    have u4 : lo / 2 ^ (64 - s) < 2 ^ s := by rw [Nat.div_lt_iff_lt_mul (Nat.two_pow_pos _), t3]; exact hlo
    have e1 : y * 2 ^ s % 18446744073709551616 = y * 2 ^ s := Nat.mod_eq_of_lt u1
    have e2 : hi * 2 ^ s % 18446744073709551616 = hi * 2 ^ s := Nat.mod_eq_of_lt (by omega)
    have e3 : (hi * 2 ^ s ||| lo / 2 ^ (64 - s)) % 18446744073709551616 = hi * 2 ^ s + lo / 2 ^ (64 - s) := by
      have := Nat.two_pow_add_eq_or_of_lt u4 hi
      rw [Nat.mul_comm, ← this, Nat.mod_eq_of_lt (by rw [Nat.mul_comm]; omega)]
    have hmv := Dv.moved (hi := hi) (lo := lo) (y := y) (s := s) (by omega) hlo (by omega)
    simp only at hmv
    have hw : (lo * 2 ^ s % 18446744073709551616) / 4294967296 * 4294967296 + (lo * 2 ^ s % 18446744073709551616) % 4294967296 = lo * 2 ^ s % 18446744073709551616 := by omega
    have htw := Dv.two (u := hi * 2 ^ s + lo / 2 ^ (64 - s)) (y := y * 2 ^ s) (d1 := (lo * 2 ^ s % 18446744073709551616) / 4294967296) (d0 := (lo * 2 ^ s % 18446744073709551616) % 4294967296) (by omega)
    rw [hw, hmv.1, hmv.2] at htw
    have hQ1 := Dv.Q_lt_B (u := hi * 2 ^ s + lo / 2 ^ (64 - s)) (y := y * 2 ^ s) (d := (lo * 2 ^ s % 18446744073709551616) / 4294967296) (by omega) (by omega)
    have hR1 : Dv.R (hi * 2 ^ s + lo / 2 ^ (64 - s)) (y * 2 ^ s) ((lo * 2 ^ s % 18446744073709551616) / 4294967296) < y * 2 ^ s := Nat.mod_lt _ (by omega)
    have hQ0 := Dv.Q_lt_B (u := Dv.R (hi * 2 ^ s + lo / 2 ^ (64 - s)) (y * 2 ^ s) ((lo * 2 ^ s % 18446744073709551616) / 4294967296)) (y := y * 2 ^ s) (d := (lo * 2 ^ s % 18446744073709551616) % 4294967296) hR1 (by omega)
    have hgo := div_go hi lo y s (y * 2 ^ s) _ _ (hi * 2 ^ s) _ _ (hi * 2 ^ s + lo / 2 ^ (64 - s)) (lo * 2 ^ s % 18446744073709551616) _ _ _ _ _ _ _ _ _ _ _ _ _ _ _ _ _ _ _ _ _
      (by omega) hlt hy (by omega) es e1.symm rfl rfl e2.symm rfl rfl e3.symm rfl rfl rfl rfl rfl rfl rfl rfl rfl rfl rfl rfl rfl rfl rfl rfl rfl rfl rfl rfl rfl rfl (by omega) (by omega)
    have f1 : (Dv.Q (hi * 2 ^ s + lo / 2 ^ (64 - s)) (y * 2 ^ s) (lo * 2 ^ s % 18446744073709551616 / 4294967296) * 4294967296 % 18446744073709551616 + Dv.Q (Dv.R (hi * 2 ^ s + lo / 2 ^ (64 - s)) (y * 2 ^ s) (lo * 2 ^ s % 18446744073709551616 / 4294967296)) (y * 2 ^ s) (lo * 2 ^ s % 18446744073709551616 % 4294967296)) % 18446744073709551616 = (hi * 18446744073709551616 + lo) / y := by
      rw [htw.1]
      generalize Dv.Q (hi * 2 ^ s + lo / 2 ^ (64 - s)) (y * 2 ^ s) (lo * 2 ^ s % 18446744073709551616 / 4294967296) = x at *
      generalize Dv.Q _ (y * 2 ^ s) (lo * 2 ^ s % 18446744073709551616 % 4294967296) = z at *
      omega
    have f2 : Dv.R (Dv.R (hi * 2 ^ s + lo / 2 ^ (64 - s)) (y * 2 ^ s) (lo * 2 ^ s % 18446744073709551616 / 4294967296)) (y * 2 ^ s) (lo * 2 ^ s % 18446744073709551616 % 4294967296) / 2 ^ s = (hi * 18446744073709551616 + lo) % y := by
      rw [← htw.2, Nat.mul_div_cancel _ hp]
    rw [f1, f2] at hgo
    exact hgo
end Go.Sx
