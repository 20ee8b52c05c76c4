/- What functions of the program answer: contracts, each proved by the executor. -/
import Derived.Test.YtnnmofebjfpcnaaGreatSeatD
import Derived.Test.YtnnmofebjfpcnaaGreatSxCut
import Derived.Test.YtnnmofebjfpcnaaGreatSxArith
import Derived.Test.YtnnmofebjfpcnaaGreatKRMulRaw
namespace Go.Sx
open Go.Proofs
set_option maxRecDepth 100000
theorem nstep {z x y c : Nat} (hz : z < 4294967296) (hx : x < 4294967296) (hy : y < 4294967296) (hc : c < 4294967296) :
    IntKind.u64.wrap (IntKind.u64.wrap ((z : Int) + IntKind.u64.wrap ((x : Int) * (y : Int))) + (c : Int)) = ((z + x * y + c : Nat) : Int) := by
  have := sq_le hx hy
  rw [mul_cast, w64_lt (by omega), add_cast, w64_lt (by omega), add_cast, w64_lt (by omega)]
theorem nlt {z x y c : Nat} (hz : z < 4294967296) (hx : x < 4294967296) (hy : y < 4294967296) (hc : c < 4294967296) : z + x * y + c < 18446744073709551616 := by
  have := sq_le hx hy
  omega
theorem tdiv32 {n : Nat} (h : n < 18446744073709551616) : IntKind.u64.wrap ((n : Int).tdiv (4294967296 : Int)) = ((n / 4294967296 : Nat) : Int) := by
  have e : (n : Int).tdiv (4294967296 : Int) = ((n / 4294967296 : Nat) : Int) := rfl
  rw [e]; exact w64_lt (by omega)

theorem ref_digits (h l : Nat) (hh : h < 18446744073709551616) (hl : l < 18446744073709551616) : Pure Tryz.prog 32 [.agg [u64 h, u64 l]] (.agg [u64 (l % 4294967296), u64 (l / 4294967296), u64 (h % 4294967296), u64 (h / 4294967296)]) := by
  have := pure_of L0 200 _ (digits_raw h l) trivial rfl rfl
  rw [tdiv32 hh, tdiv32 hl] at this
  exact this
theorem ref_whole (d0 d1 d2 d3 : Nat) (h0 : d0 < 4294967296) (h1 : d1 < 4294967296) (h2 : d2 < 4294967296) (h3 : d3 < 4294967296) :
    Pure Tryz.prog 33 [.agg [u64 d0, u64 d1, u64 d2, u64 d3]] (.agg [u64 (d2 + 4294967296 * d3), u64 (d0 + 4294967296 * d1)]) := by
  have := pure_of L0 200 _ (whole_raw d0 d1 d2 d3) trivial rfl rfl
  have e : ∀ a b : Nat, a < 4294967296 → b < 4294967296 → IntKind.u64.wrap ((a : Int) + IntKind.u64.wrap ((4294967296 : Int) * (b : Int))) = ((a + 4294967296 * b : Nat) : Int) := by
    intro a b ha hb
    have e2 : (4294967296 : Int) * (b : Int) = ((4294967296 * b : Nat) : Int) := by simp
    rw [e2, w64_lt (by omega), add_cast, w64_lt (by omega)]
  rw [e d0 d1 h0 h1, e d2 d3 h2 h3] at this
  exact this

theorem mul4 (n0 n1 n2 n3 n4 n5 n6 n7 n8 n9 p00 p01 p02 p03 p10 p11 p12 p20 p21 p30 : Nat)
    (h0 : n0 = 0 + p00 + 0) (h1 : n1 = 0 + p01 + n0 / 4294967296) (h2 : n2 = 0 + p02 + n1 / 4294967296) (h3 : n3 = 0 + p03 + n2 / 4294967296)
    (h4 : n4 = n1 % 4294967296 + p10 + 0) (h5 : n5 = n2 % 4294967296 + p11 + n4 / 4294967296) (h6 : n6 = n3 % 4294967296 + p12 + n5 / 4294967296)
    (h7 : n7 = n5 % 4294967296 + p20 + 0) (h8 : n8 = n6 % 4294967296 + p21 + n7 / 4294967296)
    (h9 : n9 = n8 % 4294967296 + p30 + 0) :
    ∃ K, p00 + (p01+p10) * 4294967296 + (p02+p11+p20) * 18446744073709551616 + (p03+p12+p21+p30) * 79228162514264337593543950336 = n0 % 4294967296 + n4 % 4294967296 * 4294967296 + n7 % 4294967296 * 18446744073709551616 + n9 % 4294967296 * 79228162514264337593543950336 + 340282366920938463463374607431768211456 * K :=
  ⟨n3 / 4294967296 + n6 / 4294967296 + n8 / 4294967296 + n9 / 4294967296, by omega⟩
theorem mul4_all (x0 x1 x2 x3 y0 y1 y2 y3 : Nat) : (x0 + x1 * 4294967296 + x2 * 18446744073709551616 + x3 * 79228162514264337593543950336) * (y0 + y1 * 4294967296 + y2 * 18446744073709551616 + y3 * 79228162514264337593543950336)
    = x0*y0 + (x0*y1+x1*y0) * 4294967296 + (x0*y2+x1*y1+x2*y0) * 18446744073709551616 + (x0*y3+x1*y2+x2*y1+x3*y0) * 79228162514264337593543950336 + 340282366920938463463374607431768211456 * ((x1*y3+x2*y2+x3*y1) + (x2*y3+x3*y2) * 4294967296 + x3*y3*18446744073709551616) := by grind

theorem ref_Mul (a b : Nat) (ha : a < 340282366920938463463374607431768211456) (hb : b < 340282366920938463463374607431768211456) : Pure Tryz.prog 20 [U a, U b] (U (a * b % 340282366920938463463374607431768211456)) := by
  obtain ⟨ah, hah⟩ : ∃ n, n = a / 18446744073709551616 := ⟨_, rfl⟩
  obtain ⟨al, hal⟩ : ∃ n, n = a % 18446744073709551616 := ⟨_, rfl⟩
  obtain ⟨bh, hbh⟩ : ∃ n, n = b / 18446744073709551616 := ⟨_, rfl⟩
  obtain ⟨bl, hbl⟩ : ∃ n, n = b % 18446744073709551616 := ⟨_, rfl⟩
  have ua : U a = .agg [u64 ah, u64 al] := by rw [hah, hal]; rfl
  have ub : U b = .agg [u64 bh, u64 bl] := by rw [hbh, hbl]; rfl
  have dA := ref_digits ah al (by omega) (by omega)
  have dB := ref_digits bh bl (by omega) (by omega)
  have eA : a = al % 4294967296 + al / 4294967296 * 4294967296 + ah % 4294967296 * 18446744073709551616 + ah / 4294967296 * 79228162514264337593543950336 := by omega
  have eB : b = bl % 4294967296 + bl / 4294967296 * 4294967296 + bh % 4294967296 * 18446744073709551616 + bh / 4294967296 * 79228162514264337593543950336 := by omega
  have lx0 : al % 4294967296 < 4294967296 := by omega
  have lx1 : al / 4294967296 < 4294967296 := by omega
  have lx2 : ah % 4294967296 < 4294967296 := by omega
  have lx3 : ah / 4294967296 < 4294967296 := by omega
  have ly0 : bl % 4294967296 < 4294967296 := by omega
  have ly1 : bl / 4294967296 < 4294967296 := by omega
  have ly2 : bh % 4294967296 < 4294967296 := by omega
  have ly3 : bh / 4294967296 < 4294967296 := by omega
  rw [ua, ub]
  generalize al % 4294967296 = x0 at *
  generalize al / 4294967296 = x1 at *
  generalize ah % 4294967296 = x2 at *
  generalize ah / 4294967296 = x3 at *
  generalize bl % 4294967296 = y0 at *
  generalize bl / 4294967296 = y1 at *
  generalize bh % 4294967296 = y2 at *
  generalize bh / 4294967296 = y3 at *
  clear hah hal hbh hbl ua ub
  obtain ⟨n0, hn0⟩ : ∃ n, n = 0 + x0 * y0 + 0 := ⟨_, rfl⟩
  have ln0 : n0 < 18446744073709551616 := by rw [hn0]; exact nlt (by decide) lx0 ly0 (by decide)
  obtain ⟨n1, hn1⟩ : ∃ n, n = 0 + x0 * y1 + n0 / 4294967296 := ⟨_, rfl⟩
  have ln1 : n1 < 18446744073709551616 := by rw [hn1]; exact nlt (by decide) lx0 ly1 (by omega)
  obtain ⟨n2, hn2⟩ : ∃ n, n = 0 + x0 * y2 + n1 / 4294967296 := ⟨_, rfl⟩
  have ln2 : n2 < 18446744073709551616 := by rw [hn2]; exact nlt (by decide) lx0 ly2 (by omega)
  obtain ⟨n3, hn3⟩ : ∃ n, n = 0 + x0 * y3 + n2 / 4294967296 := ⟨_, rfl⟩
  have ln3 : n3 < 18446744073709551616 := by rw [hn3]; exact nlt (by decide) lx0 ly3 (by omega)
  obtain ⟨n4, hn4⟩ : ∃ n, n = n1 % 4294967296 + x1 * y0 + 0 := ⟨_, rfl⟩
  have ln4 : n4 < 18446744073709551616 := by rw [hn4]; exact nlt (Nat.mod_lt _ (by decide)) lx1 ly0 (by decide)
  obtain ⟨n5, hn5⟩ : ∃ n, n = n2 % 4294967296 + x1 * y1 + n4 / 4294967296 := ⟨_, rfl⟩
  have ln5 : n5 < 18446744073709551616 := by rw [hn5]; exact nlt (Nat.mod_lt _ (by decide)) lx1 ly1 (by omega)
  obtain ⟨n6, hn6⟩ : ∃ n, n = n3 % 4294967296 + x1 * y2 + n5 / 4294967296 := ⟨_, rfl⟩
  have ln6 : n6 < 18446744073709551616 := by rw [hn6]; exact nlt (Nat.mod_lt _ (by decide)) lx1 ly2 (by omega)
  obtain ⟨n7, hn7⟩ : ∃ n, n = n5 % 4294967296 + x2 * y0 + 0 := ⟨_, rfl⟩
  have ln7 : n7 < 18446744073709551616 := by rw [hn7]; exact nlt (Nat.mod_lt _ (by decide)) lx2 ly0 (by decide)
  obtain ⟨n8, hn8⟩ : ∃ n, n = n6 % 4294967296 + x2 * y1 + n7 / 4294967296 := ⟨_, rfl⟩
  have ln8 : n8 < 18446744073709551616 := by rw [hn8]; exact nlt (Nat.mod_lt _ (by decide)) lx2 ly1 (by omega)
  obtain ⟨n9, hn9⟩ : ∃ n, n = n8 % 4294967296 + x3 * y0 + 0 := ⟨_, rfl⟩
  have ln9 : n9 < 18446744073709551616 := by rw [hn9]; exact nlt (Nat.mod_lt _ (by decide)) lx3 ly0 (by decide)
  have hsum := mul4 n0 n1 n2 n3 n4 n5 n6 n7 n8 n9 (x0*y0) (x0*y1) (x0*y2) (x0*y3) (x1*y0) (x1*y1) (x1*y2) (x2*y0) (x2*y1) (x3*y0) hn0 hn1 hn2 hn3 hn4 hn5 hn6 hn7 hn8 hn9
  obtain ⟨K, hK⟩ := hsum
  have hall := mul4_all x0 x1 x2 x3 y0 y1 y2 y3
  rw [← eA, ← eB] at hall
  have hres : a * b % 340282366920938463463374607431768211456 = n0 % 4294967296 + n4 % 4294967296 * 4294967296 + n7 % 4294967296 * 18446744073709551616 + n9 % 4294967296 * 79228162514264337593543950336 := by
    have b0 := Nat.mod_lt n0 (show 0 < 4294967296 by decide)
    have b4 := Nat.mod_lt n4 (show 0 < 4294967296 by decide)
    have b7 := Nat.mod_lt n7 (show 0 < 4294967296 by decide)
    have b9 := Nat.mod_lt n9 (show 0 < 4294967296 by decide)
    rw [hall, hK]
    generalize n0 % 4294967296 = r0 at *
    generalize n4 % 4294967296 = r4 at *
    generalize n7 % 4294967296 = r7 at *
    generalize n9 % 4294967296 = r9 at *
    generalize x1 * y3 + x2 * y2 + x3 * y1 + (x2 * y3 + x3 * y2) * 4294967296 + x3 * y3 * 18446744073709551616 = Z
    clear hn0 hn1 hn2 hn3 hn4 hn5 hn6 hn7 hn8 hn9 ln0 ln1 ln2 ln3 ln4 ln5 ln6 ln7 ln8 ln9 hK hall eA eB lx0 lx1 lx2 lx3 ly0 ly1 ly2 ly3 ha hb
    omega
  have hw := ref_whole (n0 % 4294967296) (n4 % 4294967296) (n7 % 4294967296) (n9 % 4294967296) (Nat.mod_lt _ (by decide)) (Nat.mod_lt _ (by decide)) (Nat.mod_lt _ (by decide)) (Nat.mod_lt _ (by decide))
  have hU : U (a * b % 340282366920938463463374607431768211456) = .agg [u64 (n7 % 4294967296 + 4294967296 * (n9 % 4294967296)), u64 (n0 % 4294967296 + 4294967296 * (n4 % 4294967296))] := by
    rw [hres]
    have b0 := Nat.mod_lt n0 (show 0 < 4294967296 by decide)
    have b4 := Nat.mod_lt n4 (show 0 < 4294967296 by decide)
    have b7 := Nat.mod_lt n7 (show 0 < 4294967296 by decide)
    have b9 := Nat.mod_lt n9 (show 0 < 4294967296 by decide)
    clear hw hres
    generalize n0 % 4294967296 = r0 at *
    generalize n4 % 4294967296 = r4 at *
    generalize n7 % 4294967296 = r7 at *
    generalize n9 % 4294967296 = r9 at *
    clear hn0 hn1 hn2 hn3 hn4 hn5 hn6 hn7 hn8 hn9 ln0 ln1 ln2 ln3 ln4 ln5 ln6 ln7 ln8 ln9 hK hall eA eB lx0 lx1 lx2 lx3 ly0 ly1 ly2 ly3 ha hb dA dB
    have e1 : (r0 + r4 * 4294967296 + r7 * 18446744073709551616 + r9 * 79228162514264337593543950336) / 18446744073709551616 = r7 + 4294967296 * r9 := by omega
    have e2 : (r0 + r4 * 4294967296 + r7 * 18446744073709551616 + r9 * 79228162514264337593543950336) % 18446744073709551616 = r0 + 4294967296 * r4 := by omega
    unfold U
    rw [e1, e2]
  rw [hU]
  clear hU hres hall hK
  refine pure_of L0 400 _ (rmul_raw ah al bh bl x0 x1 x2 x3 y0 y1 y2 y3 n0 n1 n2 n3 n4 n5 n6 n7 n8 n9 (n0 % 4294967296) (n1 % 4294967296) (n2 % 4294967296) (n3 % 4294967296) (n4 % 4294967296) (n5 % 4294967296) (n6 % 4294967296) (n7 % 4294967296) (n8 % 4294967296) (n9 % 4294967296) (n0 / 4294967296) (n1 / 4294967296) (n2 / 4294967296) (n3 / 4294967296) (n4 / 4294967296) (n5 / 4294967296) (n6 / 4294967296) (n7 / 4294967296) (n8 / 4294967296) (n9 / 4294967296) _ _)
    ⟨dA, dB, svi (hn0 ▸ nstep (by decide) lx0 ly0 (by decide)), svi (tmodn n0 4294967296), svi (tdiv32 ln0), svi (hn1 ▸ nstep (by decide) lx0 ly1 (by omega)), svi (tmodn n1 4294967296), svi (tdiv32 ln1), svi (hn2 ▸ nstep (by decide) lx0 ly2 (by omega)), svi (tmodn n2 4294967296), svi (tdiv32 ln2), svi (hn3 ▸ nstep (by decide) lx0 ly3 (by omega)), svi (tmodn n3 4294967296), svi (tdiv32 ln3), svi (hn4 ▸ nstep (Nat.mod_lt _ (by decide)) lx1 ly0 (by decide)), svi (tmodn n4 4294967296), svi (tdiv32 ln4), svi (hn5 ▸ nstep (Nat.mod_lt _ (by decide)) lx1 ly1 (by omega)), svi (tmodn n5 4294967296), svi (tdiv32 ln5), svi (hn6 ▸ nstep (Nat.mod_lt _ (by decide)) lx1 ly2 (by omega)), svi (tmodn n6 4294967296), svi (tdiv32 ln6), svi (hn7 ▸ nstep (Nat.mod_lt _ (by decide)) lx2 ly0 (by decide)), svi (tmodn n7 4294967296), svi (tdiv32 ln7), svi (hn8 ▸ nstep (Nat.mod_lt _ (by decide)) lx2 ly1 (by omega)), svi (tmodn n8 4294967296), svi (tdiv32 ln8), svi (hn9 ▸ nstep (Nat.mod_lt _ (by decide)) lx3 ly0 (by decide)), svi (tmodn n9 4294967296), svi (tdiv32 ln9), hw, trivial⟩ rfl rfl
end Go.Sx
