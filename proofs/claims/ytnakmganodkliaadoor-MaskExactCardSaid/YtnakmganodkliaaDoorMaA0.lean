/- Sets of numbers: what may be called. -/
import Derived.Test.YtnakmganodkliaaDoorGrD
import Derived.Test.YtnakmganodkliaaDoorLh
import Derived.Test.YtnakmganodkliaaDoorMaP
set_option linter.unusedVariables false
set_option linter.unusedSimpArgs false
set_option maxRecDepth 100000
namespace Go.Proofs.YtnakmganodkliaaDoorAm
open Go

/-- The lowest number (64: none). -/
def tzI (m : Int) : Int := (listN m.toNat).headD 64
def nthN (m : Nat) (k : Int) : Int := if 0 ≤ k ∧ k < ((listN m).length : Int) then (listN m).getD k.toNat 0 else -1
def u64 (m : Nat) : D := .v (.int .u64 (m : Int))

def spM : Sp := fun f args rd => match f, args with
  | 73, [.v (.int _ m)] => some { f := 73, args := [.v (.int .u64 m)], val := .v (.int .i64 (tzI m)) }
  | 21, [.v (.int _ m)] => some { f := 21, args := [.v (.int .u64 m)], val := .fn 72 [.rptr [.v (.int .u64 m)]] }
  | 25, [.v (.int _ m)] => some { f := 25, args := [.v (.int .u64 m)], val := .own 0 0 (listN m.toNat).length none, allocs := [.data 3 (.int .i64) (listN m.toNat)] }
  | 22, [.v (.int _ m)] => some { f := 22, args := [.v (.int .u64 m)], val := .own 0 0 (listN m.toNat).length none, allocs := [.data 3 (.int .i64) (listN m.toNat)] }
  | 29, [.v (.int _ m)] => some { f := 29, args := [.v (.int .u64 m)], val := .v (.int .i64 ((listN m.toNat).length : Nat)) }
  | 34, [.v (.int _ m), .v (.int _ k)] => some { f := 34, args := [.v (.int .u64 m), .v (.int .i64 k)], val := .v (.int .i64 (nthN m.toNat k)) }
  | 26, [.v (.int _ m), .v (.int _ i)] => some { f := 26, args := [.v (.int .u64 m), .v (.int .i64 i)], val := .v (.bool (hasN m.toNat i)) }
  | 33, [.v (.int _ m), .v (.int _ i)] => some { f := 33, args := [.v (.int .u64 m), .v (.int .i64 i)], val := .v (.bool (hasN m.toNat i)) }
  | 24, [l] => match slC rd (.int .i64) [l] with
    | some L => some { f := 24, args := [slI L], val := .v (.int .u64 (ofN L : Nat)), lent := refsDs [l] }
    | none => none
  | 30, [l] => match slC rd (.int .i64) [l] with
    | some L => some { f := 30, args := [slI L], val := .v (.int .u64 (ofN L : Nat)), lent := refsDs [l] }
    | none => none
  | 31, [.v (.int _ n)] => some { f := 31, args := [.v (.int .i64 n)], val := .v (.int .u64 (fullN n : Nat)) }
  | 32, [.v (.int _ n)] => some { f := 32, args := [.v (.int .i64 n)], val := .v (.int .u64 (fullN n : Nat)) }
  | 74, [.v (.int _ i)] => some { f := 74, args := [.v (.int .i64 i)], val := .v (.int .u64 (bitN i : Nat)) }
  | 20, [] => some { f := 20, args := [], val := .v (.bool true) }
  | f, args => spG true f args rd

noncomputable def m73 : Code := (Tryd.f73.body).getD .skip
noncomputable def m72 : Code := (Tryd.f72.body).getD .skip
noncomputable def m21 : Code := (Tryd.f21.body).getD .skip
noncomputable def m25 : Code := (Tryd.f25.body).getD .skip
noncomputable def m22 : Code := (Tryd.f22.body).getD .skip
noncomputable def m29 : Code := (Tryd.f29.body).getD .skip
noncomputable def m34 : Code := (Tryd.f34.body).getD .skip
noncomputable def m26 : Code := (Tryd.f26.body).getD .skip
noncomputable def m33 : Code := (Tryd.f33.body).getD .skip
noncomputable def m24 : Code := (Tryd.f24.body).getD .skip
noncomputable def m30 : Code := (Tryd.f30.body).getD .skip
noncomputable def m31 : Code := (Tryd.f31.body).getD .skip
noncomputable def m32 : Code := (Tryd.f32.body).getD .skip
noncomputable def m74 : Code := (Tryd.f74.body).getD .skip
noncomputable def m20 : Code := (Tryd.f20.body).getD .skip
noncomputable def m3 : Code := (Tryd.f3.body).getD .skip
noncomputable def m4 : Code := (Tryd.f4.body).getD .skip
noncomputable def m6 : Code := (Tryd.f6.body).getD .skip

theorem wrU' {n : Nat} (h : n < W64) : IntKind.u64.wrap (n : Int) = (n : Int) := wrU (by omega) (by have : n < 18446744073709551616 := h; omega)

theorem two_cast (k : Nat) : ((2 : Int) ^ k) = ((2 ^ k : Nat) : Int) := by simp

theorem shl1 {i : Int} (h0 : 0 ≤ i) (h1 : i < 64) : IntKind.u64.wrap (1 * 2 ^ (min i.toNat 64)) = ((2 ^ i.toNat : Nat) : Int) := by
  have hm : min i.toNat 64 = i.toNat := by omega
  have hlt : (2 ^ i.toNat : Nat) < W64 := (Nat.pow_lt_pow_right (by omega) (by omega) : 2 ^ i.toNat < 2 ^ 64)
  rw [hm, Int.one_mul, two_cast]
  exact wrU' hlt

theorem shr1 (m : Nat) {i : Int} (h1 : i < 64) : Int.fdiv (m : Int) (2 ^ (min i.toNat 64)) = ((m / 2 ^ i.toNat : Nat) : Int) := by
  have hm : min i.toNat 64 = i.toNat := by omega
  rw [hm, two_cast, Int.fdiv_eq_ediv_of_nonneg _ (Int.natCast_nonneg _)]
  exact (Int.natCast_ediv _ _).symm

theorem u64_mask {t : Nat} (h : t < 64) : (2 ^ t : Nat) < W64 := (Nat.pow_lt_pow_right (by omega) h : 2 ^ t < 2 ^ 64)

theorem wrap_mod (n : Int) : IntKind.u64.wrap n = n % 18446744073709551616 := by
  unfold IntKind.wrap
  simp [IntKind.bits, IntKind.signed]

/-- The table is asked at the right place. -/
theorem tz_at {m : Nat} (hm : m < W64) (h0 : m ≠ 0) {p : Int} (hp : p = (IntKind.u64.wrap (IntKind.u64.wrap ((BitVec.ofInt 64 (m : Int) &&& BitVec.ofInt 64 (IntKind.u64.wrap (0 - (m : Int)))).toNat : Int) * 285870213051353865)).fdiv (2 ^ 58)) :
    0 ≤ p ∧ p < 64 ∧ tab64.getD p.toNat 0 = tzI m := by
  obtain ⟨t, ht, hneg, hl⟩ := list_step h0 hm
  have e1 : tzI (m : Int) = (t : Int) := by unfold tzI; rw [Int.toNat_natCast, hl]; rfl
  have hm' : m < 18446744073709551616 := hm
  have w1 : IntKind.u64.wrap (0 - (m : Int)) = ((W64 - m : Nat) : Int) := by
    rw [wrap_mod]
    show _ = ((18446744073709551616 - m : Nat) : Int)
    omega
  have w2 := andU (a := m) (b := W64 - m) hm (by show 18446744073709551616 - m < 18446744073709551616; omega)
  rw [hneg] at w2
  have w4 : IntKind.u64.wrap (((2 ^ t : Nat) : Int) * 285870213051353865) = ((2 ^ t * 285870213051353865 % 18446744073709551616 : Nat) : Int) := by
    rw [wrap_mod]
    generalize 2 ^ t = z
    omega
  have w5 : ∀ z : Nat, Int.fdiv ((z : Nat) : Int) (2 ^ 58) = ((z / 288230376151711744 : Nat) : Int) := by
    intro z
    rw [Int.fdiv_eq_ediv_of_nonneg _ (by decide)]
    omega
  rw [w1, w2, wrU' (u64_mask ht), w4, w5] at hp
  have htab := tab_at ht
  have hq : 2 ^ t * 285870213051353865 % 18446744073709551616 / 288230376151711744 < 64 := by
    generalize 2 ^ t * 285870213051353865 = z
    omega
  subst hp
  rw [Int.toNat_natCast, e1]
  exact ⟨Int.natCast_nonneg _, by omega, htab⟩

theorem bit_lt {i : Int} : bitN i < W64 := by
  unfold bitN
  split
  · decide
  · exact (Nat.pow_lt_pow_right (by omega) (by omega) : 2 ^ i.toNat < 2 ^ 64)

theorem has_and {m : Nat} {i : Int} (h0 : 0 ≤ i) (h1 : i < 64) : hasN m i = decide (m / 2 ^ i.toNat % 2 = 1) := by
  unfold hasN
  rw [decide_eq_true h0, decide_eq_true h1, Nat.testBit_eq_decide_div_mod_eq]
  rfl

end Go.Proofs.YtnakmganodkliaaDoorAm
