/- AuditEvents holds: the events that the audit records are those of the reference, for all arguments that the statement admits, with no further condition. Part 5 of 12. -/
import Derived.Test.YtfhpmpmmckkgbaaGreatDoorE4
import Derived.Test.YtfhpmpmmckkgbaaGreatDoorProg
set_option linter.unusedVariables false
set_option linter.unusedSimpArgs false
set_option linter.unusedSectionVars false
section
set_option linter.unusedVariables false
set_option linter.unusedSimpArgs false
set_option maxRecDepth 20000
set_option maxHeartbeats 2000000
namespace Go.Proofs
open Sc
theorem ar195 : arrOf Tryz.prog 195 = some (6, 1) := by kernel_rfl
theorem ar49 : arrOf Tryz.prog 49 = some (4, 1) := by kernel_rfl
theorem en116 : enters Tryz.prog 116 = true := by kernel_rfl
theorem en141 : enters Tryz.prog 141 = true := by kernel_rfl
theorem en147 : enters Tryz.prog 147 = true := by kernel_rfl
theorem en168 : enters Tryz.prog 168 = true := by kernel_rfl
theorem fi117_2 : fieldOf Tryz.prog 117 2 = some 5 := by kernel_rfl
theorem fi117_4 : fieldOf Tryz.prog 117 4 = some 10 := by kernel_rfl
theorem ze195 : zeroOf Tryz.prog 195 = some #[.int .u64 0, .int .u64 0, .int .u64 0, .int .u64 0, .int .u64 0, .int .u64 0] := by kernel_rfl
theorem mul64_close {x y : Int} (g0 : 0 ≤ x ∧ x < 18446744073709551616) (g1 : 0 ≤ y ∧ y < 18446744073709551616) {a b c d p q r t m s u v z w e f lo : Int}
    (h1 : a = bitv .and .u64 x 4294967295) (h2 : b = Int.fdiv x (2 ^ (min (Int.toNat 32) (IntKind.bits .u64)))) (h3 : c = bitv .and .u64 y 4294967295) (h4 : d = Int.fdiv y (2 ^ (min (Int.toNat 32) (IntKind.bits .u64))))
    (h5 : p = (a * c) % 18446744073709551616) (h6 : q = (b * c) % 18446744073709551616) (h7 : r = Int.fdiv p (2 ^ (min (Int.toNat 32) (IntKind.bits .u64)))) (h8 : t = (q + r) % 18446744073709551616)
    (h9 : m = bitv .and .u64 t 4294967295) (h10 : s = Int.fdiv t (2 ^ (min (Int.toNat 32) (IntKind.bits .u64)))) (h11 : u = (a * d) % 18446744073709551616) (h12 : v = (m + u) % 18446744073709551616)
    (h13 : z = (b * d) % 18446744073709551616) (h14 : w = (z + s) % 18446744073709551616) (h15 : e = Int.fdiv v (2 ^ (min (Int.toNat 32) (IntKind.bits .u64)))) (h16 : f = (w + e) % 18446744073709551616) (h17 : lo = (x * y) % 18446744073709551616) : f = muHi x y ∧ lo = muLo x y := by
 have hq := mul64_arith x y g0.1 g0.2 g1.1 g1.2
 rw [shr32] at h2 h4 h7 h10 h15
 rw [low32 g0.1 g0.2] at h1
 rw [low32 g1.1 g1.2] at h3
 have ht : 0 ≤ t ∧ t < 18446744073709551616 := by omega
 rw [low32 ht.1 ht.2] at h9
 refine ⟨?_, h17⟩
 subst h1 h2 h3 h4 h5 h6 h7 h8 h9 h10 h11 h12 h13 h14 h15 h16
 unfold muHi
 rw [← hq]
theorem c_Mul64 (x : Int) (y : Int) (w0 : World) (g0 : 0 ≤ x ∧ x < 18446744073709551616) (g1 : 0 ≤ y ∧ y < 18446744073709551616) : Calls Tryz.prog 168 #[.int .u64 x, .int .u64 y] w0 (Ret fun uu w' => uu = .tuple #[.int .u64 (muHi x y), .int .u64 (muLo x y)] ∧ St [] w0 w' [] []) := by
 refine calls_of Tryz.func168 rfl Tryz.ntmps168 (Nat.le_of_ble_eq_true rfl) ?_
 have hS0 := St.nil w0
 refine C_sr ?_
 refine sqv (ex_assign (v := .int .u64 0) rfl) ?_
 refine sqv (ex_assign (v := .int .u64 0) rfl) ?_
 show C _ _ _ _ _ _
 refine C_sr ?_
 refine sqv (ex_move (v := .int .u64 x) rfl) ?_
 refine nm (bitv .and .u64 x 4294967295) fun x1 hx1 => ?_
 refine sqv (ex_bit (x := x) (y := 4294967295) rfl rfl hx1) ?_
 refine sqv (ex_assign (v := .int .u64 x1) rfl) ?_
 show C _ _ _ _ _ _
 refine C_sr ?_
 refine sqv (ex_move (v := .int .u64 x) rfl) ?_
 refine nm (Int.fdiv x (2 ^ (min (Int.toNat 32) (IntKind.bits .u64)))) fun x2 hx2 => ?_
 refine sqv (ex_shr (x := x) (y := 32) rfl rfl (by omega) hx2) ?_
 refine sqv (ex_assign (v := .int .u64 x2) rfl) ?_
 show C _ _ _ _ _ _
 refine C_sr ?_
 refine sqv (ex_move (v := .int .u64 y) rfl) ?_
 refine nm (bitv .and .u64 y 4294967295) fun x3 hx3 => ?_
 refine sqv (ex_bit (x := y) (y := 4294967295) rfl rfl hx3) ?_
 refine sqv (ex_assign (v := .int .u64 x3) rfl) ?_
 show C _ _ _ _ _ _
 refine C_sr ?_
 refine sqv (ex_move (v := .int .u64 y) rfl) ?_
 refine nm (Int.fdiv y (2 ^ (min (Int.toNat 32) (IntKind.bits .u64)))) fun x4 hx4 => ?_
 refine sqv (ex_shr (x := y) (y := 32) rfl rfl (by omega) hx4) ?_
 refine sqv (ex_assign (v := .int .u64 x4) rfl) ?_
 show C _ _ _ _ _ _
 refine C_sr ?_
 refine sqv (ex_move (v := .int .u64 x1) rfl) ?_
 refine sqv (ex_move (v := .int .u64 x3) rfl) ?_
 refine nm ((x1 * x3) % 18446744073709551616) fun x5 hx5 => ?_
 refine sqv (ex_mul (x := x1) (y := x3) rfl rfl (wu64 hx5)) ?_
 refine sqv (ex_assign (v := .int .u64 x5) rfl) ?_
 show C _ _ _ _ _ _
 refine C_sr ?_
 refine sqv (ex_move (v := .int .u64 x2) rfl) ?_
 refine sqv (ex_move (v := .int .u64 x3) rfl) ?_
 refine nm ((x2 * x3) % 18446744073709551616) fun x6 hx6 => ?_
 refine sqv (ex_mul (x := x2) (y := x3) rfl rfl (wu64 hx6)) ?_
 refine sqv (ex_move (v := .int .u64 x5) rfl) ?_
 refine nm (Int.fdiv x5 (2 ^ (min (Int.toNat 32) (IntKind.bits .u64)))) fun x7 hx7 => ?_
 refine sqv (ex_shr (x := x5) (y := 32) rfl rfl (by omega) hx7) ?_
 refine nm ((x6 + x7) % 18446744073709551616) fun x8 hx8 => ?_
 refine sqv (ex_add (x := x6) (y := x7) rfl rfl (wu64 hx8)) ?_
 refine sqv (ex_assign (v := .int .u64 x8) rfl) ?_
 show C _ _ _ _ _ _
 refine C_sr ?_
 refine sqv (ex_move (v := .int .u64 x8) rfl) ?_
 refine nm (bitv .and .u64 x8 4294967295) fun x9 hx9 => ?_
 refine sqv (ex_bit (x := x8) (y := 4294967295) rfl rfl hx9) ?_
 refine sqv (ex_assign (v := .int .u64 x9) rfl) ?_
 show C _ _ _ _ _ _
 refine C_sr ?_
 refine sqv (ex_move (v := .int .u64 x8) rfl) ?_
 refine nm (Int.fdiv x8 (2 ^ (min (Int.toNat 32) (IntKind.bits .u64)))) fun x10 hx10 => ?_
 refine sqv (ex_shr (x := x8) (y := 32) rfl rfl (by omega) hx10) ?_
 refine sqv (ex_assign (v := .int .u64 x10) rfl) ?_
 show C _ _ _ _ _ _
 refine C_sr ?_
 refine sqv (ex_move (v := .int .u64 x9) rfl) ?_
 refine sqv (ex_move (v := .int .u64 x1) rfl) ?_
 refine sqv (ex_move (v := .int .u64 x4) rfl) ?_
 refine nm ((x1 * x4) % 18446744073709551616) fun x11 hx11 => ?_
 refine sqv (ex_mul (x := x1) (y := x4) rfl rfl (wu64 hx11)) ?_
 refine nm ((x9 + x11) % 18446744073709551616) fun x12 hx12 => ?_
 refine sqv (ex_add (x := x9) (y := x11) rfl rfl (wu64 hx12)) ?_
 refine sqv (ex_assign (v := .int .u64 x12) rfl) ?_
 show C _ _ _ _ _ _
 refine C_sr ?_
 refine sqv (ex_move (v := .int .u64 x2) rfl) ?_
 refine sqv (ex_move (v := .int .u64 x4) rfl) ?_
 refine nm ((x2 * x4) % 18446744073709551616) fun x13 hx13 => ?_
 refine sqv (ex_mul (x := x2) (y := x4) rfl rfl (wu64 hx13)) ?_
 refine sqv (ex_move (v := .int .u64 x10) rfl) ?_
 refine nm ((x13 + x10) % 18446744073709551616) fun x14 hx14 => ?_
 refine sqv (ex_add (x := x13) (y := x10) rfl rfl (wu64 hx14)) ?_
 refine sqv (ex_move (v := .int .u64 x12) rfl) ?_
 refine nm (Int.fdiv x12 (2 ^ (min (Int.toNat 32) (IntKind.bits .u64)))) fun x15 hx15 => ?_
 refine sqv (ex_shr (x := x12) (y := 32) rfl rfl (by omega) hx15) ?_
 refine nm ((x14 + x15) % 18446744073709551616) fun x16 hx16 => ?_
 refine sqv (ex_add (x := x14) (y := x15) rfl rfl (wu64 hx16)) ?_
 refine sqv (ex_assign (v := .int .u64 x16) rfl) ?_
 show C _ _ _ _ _ _
 refine C_sr ?_
 refine sqv (ex_move (v := .int .u64 x) rfl) ?_
 refine sqv (ex_move (v := .int .u64 y) rfl) ?_
 refine nm ((x * y) % 18446744073709551616) fun x17 hx17 => ?_
 refine sqv (ex_mul (x := x) (y := y) rfl rfl (wu64 hx17)) ?_
 refine sqv (ex_assign (v := .int .u64 x17) rfl) ?_
 show C _ _ _ _ _ _
 refine C_ret ?_
 refine done_2 (v1 := .int .u64 x16) (v2 := .int .u64 x17) rfl rfl rfl ?_
 have hq := mul64_close g0 g1 hx1 hx2 hx3 hx4 hx5 hx6 hx7 hx8 hx9 hx10 hx11 hx12 hx13 hx14 hx15 hx16 hx17
 exact ⟨by rw [hq.1, hq.2], hS0.none⟩
theorem c_mulAdd (a : Int) (b : Int) (c : Int) (d : Int) (w0 : World) (g0 : 0 ≤ a ∧ a < 18446744073709551616) (g1 : 0 ≤ b ∧ b < 18446744073709551616) (g2 : 0 ≤ c ∧ c < 18446744073709551616) (g3 : 0 ≤ d ∧ d < 18446744073709551616) : Calls Tryz.prog 147 #[.int .u64 a, .int .u64 b, .int .u64 c, .int .u64 d] w0 (Ret fun uu w' => uu = .tuple #[.int .u64 (maHi a b c d), .int .u64 (maLo a b c d)] ∧ St [] w0 w' [] []) := by
 refine calls_of Tryz.func147 rfl Tryz.ntmps147 (Nat.le_of_ble_eq_true rfl) ?_
 have hS0 := St.nil w0
 refine C_sr ?_
 refine sqv (ex_assign (v := .int .u64 0) rfl) ?_
 refine sqv (ex_assign (v := .int .u64 0) rfl) ?_
 show C _ _ _ _ _ _
 refine C_sr ?_
 refine sqv (ex_move (v := .int .u64 a) rfl) ?_
 refine sqv (ex_move (v := .int .u64 b) rfl) ?_
 refine nm (muHi a b) fun x5 hx5 => ?_
 refine nm (muLo a b) fun x6 hx6 => ?_
 have hk7 : 0 ≤ x5 ∧ x5 < 18446744073709551616 := by have hz := prodN (by omega : 0 ≤ a) (by omega) (by omega : 0 ≤ b) (by omega); rw [hx5]; unfold muHi; generalize a * b = z at *; omega
 have hk8 : 0 ≤ x6 ∧ x6 < 18446744073709551616 := by rw [hx6]; unfold muLo; omega
 refine sqc (exe_call (args := #[.int .u64 a, .int .u64 b]) en168 (args_of2 rfl rfl)) (c_Mul64 a b w0 (by first | exact ⟨limb_nonneg _ _, limb_lt _ _⟩ | omega) (by first | exact ⟨limb_nonneg _ _, limb_lt _ _⟩ | omega)) ?_
 rintro _ W1 ⟨hv4, hT3⟩
 rw [← hx5, ← hx6] at hv4
 subst hv4
 have hS2 := hS0.call hT3
 refine sqv (ex_move (v := .tuple #[.int .u64 x5, .int .u64 x6]) rfl) ?_
 refine sqv (ex_extract (v := .int .u64 x5) rfl rfl) ?_
 refine sqv (ex_extract (v := .int .u64 x6) rfl rfl) ?_
 refine sqv (ex_assign (v := .int .u64 x5) rfl) ?_
 refine sqv (ex_assign (v := .int .u64 x6) rfl) ?_
 show C _ _ _ _ _ _
 refine C_sr ?_
 refine sqv (ex_move (v := .int .u64 x6) rfl) ?_
 refine sqv (ex_move (v := .int .u64 c) rfl) ?_
 refine nm (addLo x6 c 0) fun x9 hx9 => ?_
 refine nm (addHi x6 c 0) fun x10 hx10 => ?_
 have hkx10 : 0 ≤ x10 ∧ x10 ≤ 1 := hx10 ▸ addHi_bd (by omega) (by omega) (by omega) (by omega) (by decide)
 have hkx9 : 0 ≤ x9 ∧ x9 < 18446744073709551616 := hx9 ▸ (by unfold addLo; omega)
 refine sqv (exq_add64 (x := x6) (y := c) (c := 0) hx9 hx10 e_Add64 rfl (args_of3 rfl rfl rfl) (by omega) (by omega) (by decide)) ?_
 refine sqv (ex_move (v := .tuple #[.int .u64 x9, .int .u64 x10]) rfl) ?_
 refine sqv (ex_extract (v := .int .u64 x9) rfl rfl) ?_
 refine sqv (ex_extract (v := .int .u64 x10) rfl rfl) ?_
 refine sqv (ex_assign (v := .int .u64 x9) rfl) ?_
 refine sqv (ex_assign (v := .int .u64 x10) rfl) ?_
 show C _ _ _ _ _ _
 refine C_sr ?_
 refine sqv (ex_move (v := .int .u64 x5) rfl) ?_
 refine sqv (ex_move (v := .int .u64 x10) rfl) ?_
 refine nm ((x5 + x10) % 18446744073709551616) fun x11 hx11 => ?_
 refine sqv (ex_add (x := x5) (y := x10) rfl rfl (wu64 hx11)) ?_
 refine sqv (ex_assign (v := .int .u64 x11) rfl) ?_
 show C _ _ _ _ _ _
 refine C_sr ?_
 refine sqv (ex_move (v := .int .u64 x9) rfl) ?_
 refine sqv (ex_move (v := .int .u64 d) rfl) ?_
 refine nm (addLo x9 d 0) fun x12 hx12 => ?_
 refine nm (addHi x9 d 0) fun x13 hx13 => ?_
 have hkx13 : 0 ≤ x13 ∧ x13 ≤ 1 := hx13 ▸ addHi_bd (by omega) (by omega) (by omega) (by omega) (by decide)
 have hkx12 : 0 ≤ x12 ∧ x12 < 18446744073709551616 := hx12 ▸ (by unfold addLo; omega)
 refine sqv (exq_add64 (x := x9) (y := d) (c := 0) hx12 hx13 e_Add64 rfl (args_of3 rfl rfl rfl) (by omega) (by omega) (by decide)) ?_
 refine sqv (ex_move (v := .tuple #[.int .u64 x12, .int .u64 x13]) rfl) ?_
 refine sqv (ex_extract (v := .int .u64 x12) rfl rfl) ?_
 refine sqv (ex_extract (v := .int .u64 x13) rfl rfl) ?_
 refine sqv (ex_assign (v := .int .u64 x12) rfl) ?_
 refine sqv (ex_assign (v := .int .u64 x13) rfl) ?_
 show C _ _ _ _ _ _
 refine C_sr ?_
 refine sqv (ex_move (v := .int .u64 x11) rfl) ?_
 refine sqv (ex_move (v := .int .u64 x13) rfl) ?_
 refine nm ((x11 + x13) % 18446744073709551616) fun x14 hx14 => ?_
 refine sqv (ex_add (x := x11) (y := x13) rfl rfl (wu64 hx14)) ?_
 refine sqv (ex_move (v := .int .u64 x12) rfl) ?_
 refine sqv (ex_assign (v := .int .u64 x14) rfl) ?_
 refine sqv (ex_assign (v := .int .u64 x12) rfl) ?_
 show C _ _ _ _ _ _
 refine C_ret ?_
 refine done_2 (v1 := .int .u64 x14) (v2 := .int .u64 x12) rfl rfl rfl ?_
 have hq := ma_of g0 g1 g2 g3 hx5 hx6 hx9 hx10 hx11 hx12 hx13 hx14
 exact ⟨by rw [hq.1, hq.2], hS2.none⟩
theorem c_mMul (F : PrF) (a : Nat) (b : Nat) (w0 : World) (g0 : FOk F) (g1 : a < F.p) (g2 : b < B256) : Calls Tryz.prog 116 #[fdV F, elV a, elV b] w0 (Ret fun uu w' => uu = elV (fMul F a b) ∧ St [] w0 w' [] []) := by
 have hF := g0
 have ha := g1
 refine calls_of Tryz.func116 rfl Tryz.ntmps116 (Nat.le_of_ble_eq_true rfl) ?_
 have hS0 := St.nil w0
 refine C_sr ?_
 refine sqE (st_box (v := fdV F) (cs := (fdA F)) hS0 rfl rfl) fun b1 W2 hS3 => ?_
 refine sqE (st_box (v := elV a) (cs := (elA a)) hS3 rfl rfl) fun b4 W5 hS6 => ?_
 refine sqE (st_box (v := elV b) (cs := (elA b)) hS6 rfl rfl) fun b7 W8 hS9 => ?_
 refine sqE (st_alloc hS9 ze49) fun b10 W11 hS12 => ?_
 show C _ _ _ _ _ _
 refine C_sr ?_
 refine sqE (st_alloc hS12 ze195) fun b13 W14 hS15 => ?_
 show C _ _ _ _ _ _
 refine C_seq ?_
 refine C_sr ?_
 refine sqv (ex_move (v := .int .i64 0) rfl) ?_
 show C _ _ _ _ _ _
 refine C_block ?_
 refine C_loop (fun nn aa ww => ∃ (m0 : Nat → Value) (k : Nat) (t0 t1 t2 t3 t4 t5 : Int), nn = 4 - k ∧ aa = act 104 (upds m0 [(3, pt b1), (4, pt b4), (5, pt b7), (6, pt b10), (7, pt b13), (15, .int .i64 (k : Int))]) [] ∧ St [] w0 ww [some (b13, .cells #[.int .u64 t0, .int .u64 t1, .int .u64 t2, .int .u64 t3, .int .u64 t4, .int .u64 t5] 195), some (b10, .cells #[.int .u64 0, .int .u64 0, .int .u64 0, .int .u64 0] 49), some (b7, .cells (([limb b 0, limb b 1, limb b 2, limb b 3]).flatMap cU).toArray 49), some (b4, .cells (elA a) 49), some (b1, .cells (fdA F) 117)] [] ∧ (k ≤ 4) ∧ (MInv F a b k t0 t1 t2 t3 t4)) 4 ?_ ?_
 ·exact ⟨_, 0, 0, 0, 0, 0, 0, 0, rfl, act_upds ⟨rfl, rfl, rfl, rfl, rfl, (congrArg (Value.int .i64) (by first | rfl | omega)), trivial⟩, (St.pick (L := [some (b13, .cells #[.int .u64 0, .int .u64 0, .int .u64 0, .int .u64 0, .int .u64 0, .int .u64 0] 195), some (b10, .cells #[.int .u64 0, .int .u64 0, .int .u64 0, .int .u64 0] 49), some (b7, .cells (elA b) 49), some (b4, .cells (elA a) 49), some (b1, .cells (fdA F) 117)]) hS15 [0, 1, 2, 3, 4] (by decide)), (by decide), (MInv.zero hF a b)⟩
 rintro n19 a20 W17 ⟨m16, k, t0, t1, t2, t3, t4, t5, rfl, rfl, hS18, hk, hM⟩
 obtain ⟨hM0, hM1, hM2, hM3, hM4, hM5, hM6⟩ := id hM
 have hI := f_invr hF
 refine C_sr ?_
 refine sqv (ex_cmp (x := (k : Int)) (y := 4) (r := decide ((k : Int) < 4)) rfl rfl rfl) ?_
 show C _ _ _ _ _ _
 refine C_seq ?_
 refine C_dec ((k : Int) < 4) rfl (fun hc21 => ?_) (fun hc21 => ?_)
 ·refine C_skip ?_
  show C _ _ _ _ _ _
  refine C_seq ?_
  refine C_block ?_
  refine C_sr ?_
  refine sqv (ex_move (v := .int .i64 (k : Int)) rfl) ?_
  refine sqv (ex_assign (v := .int .i64 (k : Int)) rfl) ?_
  show C _ _ _ _ _ _
  refine C_sr ?_
  refine sqv (ex_assign (v := .int .u64 0) rfl) ?_
  show C _ _ _ _ _ _
  refine C_seq ?_
  refine C_sr ?_
  refine sqv (ex_move (v := .int .i64 0) rfl) ?_
  show C _ _ _ _ _ _
  refine C_block ?_
  refine C_unroll 5 ?_
  show C _ _ _ _ _ _
  refine C_sr ?_
  refine sqv (ex_cmp (x := 0) (y := 4) (r := true) rfl rfl rfl) ?_
  show C _ _ _ _ _ _
  refine C_seq ?_
  refine C_true rfl ?_
  refine C_skip ?_
  show C _ _ _ _ _ _
  refine C_seq ?_
  refine C_block ?_
  refine C_sr ?_
  refine sqv (ex_move (v := .int .i64 0) rfl) ?_
  refine sqv (ex_assign (v := .int .i64 0) rfl) ?_
  show C _ _ _ _ _ _
  obtain ⟨y22, hy23⟩ := get_lt ([limb b 0, limb b 1, limb b 2, limb b 3]) k (by first | omega | (simp only [List.length_set, List.length_replicate, List.length_append, List.length_take, List.length_drop, List.length_cons, List.length_nil, List.length_map]; omega))
  have hky22 : 0 ≤ y22 ∧ y22 < 18446744073709551616 := by rw [limbs4 hy23]; exact ⟨limb_nonneg _ _, limb_lt _ _⟩
  refine nm (maHi (limb a 0) y22 t0 0) fun x28 hx28 => ?_
  refine nm (maLo (limb a 0) y22 t0 0) fun x29 hx29 => ?_
  have hk30 : 0 ≤ x28 ∧ x28 < 18446744073709551616 := hx28 ▸ (ma_range (by first | exact ⟨limb_nonneg _ _, limb_lt _ _⟩ | omega) (by first | exact ⟨limb_nonneg _ _, limb_lt _ _⟩ | omega) (by omega) (by omega)).1
  have hk31 : 0 ≤ x29 ∧ x29 < 18446744073709551616 := hx29 ▸ (ma_range (by first | exact ⟨limb_nonneg _ _, limb_lt _ _⟩ | omega) (by first | exact ⟨limb_nonneg _ _, limb_lt _ _⟩ | omega) (by omega) (by omega)).2.1
  refine C_draw (p := 16) (l := [(some 22, .int .i64 0), (some 23, .int .i64 0), (some 24, pt b4), (some 25, .int .u64 (limb a 0)), (some 26, .int .i64 (k : Int)), (some 27, .pointer (some ⟨b7, k * 1, none⟩)), (some 28, .int .u64 y22), (some 29, .int .i64 0), (some 30, pt b13), (some 31, .int .u64 t0), (some 32, .int .u64 0), (some 33, .tuple #[.int .u64 x28, .int .u64 x29]), (some 21, .tuple #[.int .u64 x28, .int .u64 x29]), (some 34, .int .u64 x28), (some 35, .int .u64 x29), (some 9, .int .u64 x28)]) (G := []) (J := fun w => St [] w0 w [some (b13, .cells #[.int .u64 t0, .int .u64 t1, .int .u64 t2, .int .u64 t3, .int .u64 t4, .int .u64 t5] 195), some (b10, .cells #[.int .u64 0, .int .u64 0, .int .u64 0, .int .u64 0] 49), some (b7, .cells (([limb b 0, limb b 1, limb b 2, limb b 3]).flatMap cU).toArray 49), some (b4, .cells (elA a) 49), some (b1, .cells (fdA F) 117)] []) mixed ?_ (hS18.draw _)
  refine node1 16 [] [] [] (by kernel_rfl) rfl rfl (nd rfl) rfl (by kernel_rfl) ?_ ?_ ?_
  ·intro S wd hSd
   refine ⟨n0 rfl rfl rfl (ex_move (v := .int .i64 0) rfl) rfl hSd, n0 rfl rfl rfl (ex_move (v := .int .i64 0) rfl) rfl hSd, n1 rfl rfl rfl rfl (fun hq1 => (ex_index (j := 0) (o' := 0) rfl (evS hq1 rfl rfl) ar49 (by decide) (by decide) rfl)) rfl hSd, n1 rfl rfl rfl rfl (fun hq2 => (ex_load (v := .int .u64 (limb a 0)) (evS hq2 rfl rfl) (hSd.at 3 rfl) on39 rfl)) rfl hSd, n0 rfl rfl rfl (ex_move (v := .int .i64 (k : Int)) rfl) rfl hSd, n1 rfl rfl rfl rfl (fun hq4 => (ex_index (j := (k : Int)) (o' := k * 1) rfl (evS hq4 rfl rfl) ar49 (by omega) (by omega) (by omega))) rfl hSd, n1 rfl rfl rfl rfl (fun hq5 => (ex_loadM (f := cU) (i := k) (fun _ => rfl) (evS hq5 rfl rfl) (hSd.at 2 rfl) on39 rfl hy23 rfl)) rfl hSd, n0 rfl rfl rfl (ex_move (v := .int .i64 0) rfl) rfl hSd, n1 rfl rfl rfl rfl (fun hq7 => (ex_index (j := 0) (o' := 0) rfl (evS hq7 rfl rfl) ar195 (by decide) (by decide) rfl)) rfl hSd, n1 rfl rfl rfl rfl (fun hq8 => (ex_load (v := .int .u64 t0) (evS hq8 rfl rfl) (hSd.at 0 rfl) on39 rfl)) rfl hSd, ?_, ?_, n1 rfl rfl rfl rfl (fun hq11 => (ex_move (v := .tuple #[.int .u64 x28, .int .u64 x29]) (evS hq11 rfl rfl))) rfl hSd, n1 rfl rfl rfl rfl (fun hq12 => (ex_extract (v := .int .u64 x28) (evS hq12 rfl rfl) rfl)) rfl hSd, n1 rfl rfl rfl rfl (fun hq12 => (ex_extract (v := .int .u64 x29) (evS hq12 rfl rfl) rfl)) rfl hSd, ?_, tt⟩
   ·refine needG rfl ?_
    rintro ⟨_⟩ hno
    exact dx (wanted_none rfl) rfl (ex_move (v := .int .u64 0) (evN (hno 15 _ rfl rfl) rfl rfl rfl)) ⟨rfl, hSd⟩
   ·refine needG rfl ?_
    rintro ⟨hq3, hq6, hq9, hq10, _⟩ hno
    refine dxC (wanted_none rfl) rfl (exe_call (args := #[.int .u64 (limb a 0), .int .u64 y22, .int .u64 t0, .int .u64 0]) en147 (args_of4 (evS hq3 rfl rfl) (evS hq6 rfl rfl) (evS hq9 rfl rfl) (evS hq10 rfl rfl))) (c_mulAdd (limb a 0) y22 t0 0 wd (by first | exact ⟨limb_nonneg _ _, limb_lt _ _⟩ | omega) (by first | exact ⟨limb_nonneg _ _, limb_lt _ _⟩ | omega) (by first | exact ⟨limb_nonneg _ _, limb_lt _ _⟩ | omega) (by first | exact ⟨limb_nonneg _ _, limb_lt _ _⟩ | omega)) ?_
    rintro _ W24 ⟨hv27, hT26⟩
    rw [← hx28, ← hx29] at hv27
    subst hv27
    have hS25 := hSd.call hT26
    exact ⟨rfl, hS25⟩
   refine needG rfl ?_
   rintro ⟨hq13, hq11, hq1, hq2, hq3, hq4, hq5, hq6, hq7, hq8, hq9, hq10, hq11, hq12, hq13, _⟩ hno
   exact dx (wanted_none rfl) rfl (ex_assign (v := .int .u64 x28) (evS hq13 rfl rfl)) ⟨rfl, hSd⟩
  ·exact fun S wd hSd => ⟨True.intro, True.intro, True.intro, True.intro, True.intro, True.intro, True.intro, True.intro, True.intro, True.intro, True.intro, True.intro, True.intro, True.intro, True.intro, True.intro, True.intro⟩
  intro _ W32 hS33
  refine sqv (ex_index (j := 0) (o' := 0) rfl rfl ar195 (by decide) (by decide) rfl) ?_
  refine sqUE (st_store (v := .int .u64 x29) (cs' := #[.int .u64 x29, .int .u64 t1, .int .u64 t2, .int .u64 t3, .int .u64 t4, .int .u64 t5]) 0 hS33 rfl rfl rfl on39 rfl (Nat.le_of_ble_eq_true rfl) rfl rfl) fun W34 hS35 => ?_
  refine blk_normal ?_
  show C _ _ _ _ _ _
  refine C_region ?_
  refine sqv (ex_add (x := 0) (y := 1) (r := 1) rfl rfl (by rfl)) ?_
  refine sqv (ex_move (v := .int .i64 1) rfl) ?_
  show C _ _ _ _ _ _
  refine C_sr ?_
  refine sqv (ex_cmp (x := 1) (y := 4) (r := true) rfl rfl rfl) ?_
  show C _ _ _ _ _ _
  refine C_seq ?_
  refine C_true rfl ?_
  refine C_skip ?_
  show C _ _ _ _ _ _
  refine C_seq ?_
  refine C_block ?_
  refine C_sr ?_
  refine sqv (ex_move (v := .int .i64 1) rfl) ?_
  refine sqv (ex_assign (v := .int .i64 1) rfl) ?_
  show C _ _ _ _ _ _
  refine nm (maHi (limb a 1) y22 t1 x28) fun x40 hx40 => ?_
  refine nm (maLo (limb a 1) y22 t1 x28) fun x41 hx41 => ?_
  have hk42 : 0 ≤ x40 ∧ x40 < 18446744073709551616 := hx40 ▸ (ma_range (by first | exact ⟨limb_nonneg _ _, limb_lt _ _⟩ | omega) (by first | exact ⟨limb_nonneg _ _, limb_lt _ _⟩ | omega) (by omega) (by omega)).1
  have hk43 : 0 ≤ x41 ∧ x41 < 18446744073709551616 := hx41 ▸ (ma_range (by first | exact ⟨limb_nonneg _ _, limb_lt _ _⟩ | omega) (by first | exact ⟨limb_nonneg _ _, limb_lt _ _⟩ | omega) (by omega) (by omega)).2.1
  refine C_draw (p := 16) (l := [(some 22, .int .i64 1), (some 23, .int .i64 1), (some 24, .pointer (some ⟨b4, 1, none⟩)), (some 25, .int .u64 (limb a 1)), (some 26, .int .i64 (k : Int)), (some 27, .pointer (some ⟨b7, k * 1, none⟩)), (some 28, .int .u64 y22), (some 29, .int .i64 1), (some 30, .pointer (some ⟨b13, 1, none⟩)), (some 31, .int .u64 t1), (some 32, .int .u64 x28), (some 33, .tuple #[.int .u64 x40, .int .u64 x41]), (some 21, .tuple #[.int .u64 x40, .int .u64 x41]), (some 34, .int .u64 x40), (some 35, .int .u64 x41), (some 9, .int .u64 x40)]) (G := []) (J := fun w => St [] w0 w [some (b13, .cells #[.int .u64 x29, .int .u64 t1, .int .u64 t2, .int .u64 t3, .int .u64 t4, .int .u64 t5] 195), some (b10, .cells #[.int .u64 0, .int .u64 0, .int .u64 0, .int .u64 0] 49), some (b7, .cells (([limb b 0, limb b 1, limb b 2, limb b 3]).flatMap cU).toArray 49), some (b4, .cells (elA a) 49), some (b1, .cells (fdA F) 117)] []) mixed ?_ (hS35.draw _)
  refine node1 16 [] [] [] (by kernel_rfl) rfl rfl (nd rfl) rfl (by kernel_rfl) ?_ ?_ ?_
  ·intro S wd hSd
   refine ⟨n0 rfl rfl rfl (ex_move (v := .int .i64 1) rfl) rfl hSd, n0 rfl rfl rfl (ex_move (v := .int .i64 1) rfl) rfl hSd, n1 rfl rfl rfl rfl (fun hq1 => (ex_index (j := 1) (o' := 1) rfl (evS hq1 rfl rfl) ar49 (by decide) (by decide) rfl)) rfl hSd, n1 rfl rfl rfl rfl (fun hq2 => (ex_load (v := .int .u64 (limb a 1)) (evS hq2 rfl rfl) (hSd.at 3 rfl) on39 rfl)) rfl hSd, n0 rfl rfl rfl (ex_move (v := .int .i64 (k : Int)) rfl) rfl hSd, n1 rfl rfl rfl rfl (fun hq4 => (ex_index (j := (k : Int)) (o' := k * 1) rfl (evS hq4 rfl rfl) ar49 (by omega) (by omega) (by omega))) rfl hSd, n1 rfl rfl rfl rfl (fun hq5 => (ex_loadM (f := cU) (i := k) (fun _ => rfl) (evS hq5 rfl rfl) (hSd.at 2 rfl) on39 rfl hy23 rfl)) rfl hSd, n0 rfl rfl rfl (ex_move (v := .int .i64 1) rfl) rfl hSd, n1 rfl rfl rfl rfl (fun hq7 => (ex_index (j := 1) (o' := 1) rfl (evS hq7 rfl rfl) ar195 (by decide) (by decide) rfl)) rfl hSd, n1 rfl rfl rfl rfl (fun hq8 => (ex_load (v := .int .u64 t1) (evS hq8 rfl rfl) (hSd.at 0 rfl) on39 rfl)) rfl hSd, ?_, ?_, n1 rfl rfl rfl rfl (fun hq11 => (ex_move (v := .tuple #[.int .u64 x40, .int .u64 x41]) (evS hq11 rfl rfl))) rfl hSd, n1 rfl rfl rfl rfl (fun hq12 => (ex_extract (v := .int .u64 x40) (evS hq12 rfl rfl) rfl)) rfl hSd, n1 rfl rfl rfl rfl (fun hq12 => (ex_extract (v := .int .u64 x41) (evS hq12 rfl rfl) rfl)) rfl hSd, ?_, tt⟩
   ·refine needG rfl ?_
    rintro ⟨_⟩ hno
    exact dx (wanted_none rfl) rfl (ex_move (v := .int .u64 x28) (evN (hno 15 _ rfl rfl) rfl rfl rfl)) ⟨rfl, hSd⟩
   ·refine needG rfl ?_
    rintro ⟨hq3, hq6, hq9, hq10, _⟩ hno
    refine dxC (wanted_none rfl) rfl (exe_call (args := #[.int .u64 (limb a 1), .int .u64 y22, .int .u64 t1, .int .u64 x28]) en147 (args_of4 (evS hq3 rfl rfl) (evS hq6 rfl rfl) (evS hq9 rfl rfl) (evS hq10 rfl rfl))) (c_mulAdd (limb a 1) y22 t1 x28 wd (by first | exact ⟨limb_nonneg _ _, limb_lt _ _⟩ | omega) (by first | exact ⟨limb_nonneg _ _, limb_lt _ _⟩ | omega) (by first | exact ⟨limb_nonneg _ _, limb_lt _ _⟩ | omega) (by first | exact ⟨limb_nonneg _ _, limb_lt _ _⟩ | omega)) ?_
    rintro _ W36 ⟨hv39, hT38⟩
    rw [← hx40, ← hx41] at hv39
    subst hv39
    have hS37 := hSd.call hT38
    exact ⟨rfl, hS37⟩
   refine needG rfl ?_
   rintro ⟨hq13, hq11, hq1, hq2, hq3, hq4, hq5, hq6, hq7, hq8, hq9, hq10, hq11, hq12, hq13, _⟩ hno
   exact dx (wanted_none rfl) rfl (ex_assign (v := .int .u64 x40) (evS hq13 rfl rfl)) ⟨rfl, hSd⟩
  ·exact fun S wd hSd => ⟨True.intro, True.intro, True.intro, True.intro, True.intro, True.intro, True.intro, True.intro, True.intro, True.intro, True.intro, True.intro, True.intro, True.intro, True.intro, True.intro, True.intro⟩
  intro _ W44 hS45
  refine sqv (ex_index (j := 1) (o' := 1) rfl rfl ar195 (by decide) (by decide) rfl) ?_
  refine sqUE (st_store (v := .int .u64 x41) (cs' := #[.int .u64 x29, .int .u64 x41, .int .u64 t2, .int .u64 t3, .int .u64 t4, .int .u64 t5]) 0 hS45 rfl rfl rfl on39 rfl (Nat.le_of_ble_eq_true rfl) rfl rfl) fun W46 hS47 => ?_
  refine blk_normal ?_
  show C _ _ _ _ _ _
  refine C_region ?_
  refine sqv (ex_add (x := 1) (y := 1) (r := 2) rfl rfl (by rfl)) ?_
  refine sqv (ex_move (v := .int .i64 2) rfl) ?_
  show C _ _ _ _ _ _
  refine C_sr ?_
  refine sqv (ex_cmp (x := 2) (y := 4) (r := true) rfl rfl rfl) ?_
  show C _ _ _ _ _ _
  refine C_seq ?_
  refine C_true rfl ?_
  refine C_skip ?_
  show C _ _ _ _ _ _
  refine C_seq ?_
  refine C_block ?_
  refine C_sr ?_
  refine sqv (ex_move (v := .int .i64 2) rfl) ?_
  refine sqv (ex_assign (v := .int .i64 2) rfl) ?_
  show C _ _ _ _ _ _
  refine nm (maHi (limb a 2) y22 t2 x40) fun x52 hx52 => ?_
  refine nm (maLo (limb a 2) y22 t2 x40) fun x53 hx53 => ?_
  have hk54 : 0 ≤ x52 ∧ x52 < 18446744073709551616 := hx52 ▸ (ma_range (by first | exact ⟨limb_nonneg _ _, limb_lt _ _⟩ | omega) (by first | exact ⟨limb_nonneg _ _, limb_lt _ _⟩ | omega) (by omega) (by omega)).1
  have hk55 : 0 ≤ x53 ∧ x53 < 18446744073709551616 := hx53 ▸ (ma_range (by first | exact ⟨limb_nonneg _ _, limb_lt _ _⟩ | omega) (by first | exact ⟨limb_nonneg _ _, limb_lt _ _⟩ | omega) (by omega) (by omega)).2.1
  refine C_draw (p := 16) (l := [(some 22, .int .i64 2), (some 23, .int .i64 2), (some 24, .pointer (some ⟨b4, 2, none⟩)), (some 25, .int .u64 (limb a 2)), (some 26, .int .i64 (k : Int)), (some 27, .pointer (some ⟨b7, k * 1, none⟩)), (some 28, .int .u64 y22), (some 29, .int .i64 2), (some 30, .pointer (some ⟨b13, 2, none⟩)), (some 31, .int .u64 t2), (some 32, .int .u64 x40), (some 33, .tuple #[.int .u64 x52, .int .u64 x53]), (some 21, .tuple #[.int .u64 x52, .int .u64 x53]), (some 34, .int .u64 x52), (some 35, .int .u64 x53), (some 9, .int .u64 x52)]) (G := []) (J := fun w => St [] w0 w [some (b13, .cells #[.int .u64 x29, .int .u64 x41, .int .u64 t2, .int .u64 t3, .int .u64 t4, .int .u64 t5] 195), some (b10, .cells #[.int .u64 0, .int .u64 0, .int .u64 0, .int .u64 0] 49), some (b7, .cells (([limb b 0, limb b 1, limb b 2, limb b 3]).flatMap cU).toArray 49), some (b4, .cells (elA a) 49), some (b1, .cells (fdA F) 117)] []) mixed ?_ (hS47.draw _)
  refine node1 16 [] [] [] (by kernel_rfl) rfl rfl (nd rfl) rfl (by kernel_rfl) ?_ ?_ ?_
  ·intro S wd hSd
   refine ⟨n0 rfl rfl rfl (ex_move (v := .int .i64 2) rfl) rfl hSd, n0 rfl rfl rfl (ex_move (v := .int .i64 2) rfl) rfl hSd, n1 rfl rfl rfl rfl (fun hq1 => (ex_index (j := 2) (o' := 2) rfl (evS hq1 rfl rfl) ar49 (by decide) (by decide) rfl)) rfl hSd, n1 rfl rfl rfl rfl (fun hq2 => (ex_load (v := .int .u64 (limb a 2)) (evS hq2 rfl rfl) (hSd.at 3 rfl) on39 rfl)) rfl hSd, n0 rfl rfl rfl (ex_move (v := .int .i64 (k : Int)) rfl) rfl hSd, n1 rfl rfl rfl rfl (fun hq4 => (ex_index (j := (k : Int)) (o' := k * 1) rfl (evS hq4 rfl rfl) ar49 (by omega) (by omega) (by omega))) rfl hSd, n1 rfl rfl rfl rfl (fun hq5 => (ex_loadM (f := cU) (i := k) (fun _ => rfl) (evS hq5 rfl rfl) (hSd.at 2 rfl) on39 rfl hy23 rfl)) rfl hSd, n0 rfl rfl rfl (ex_move (v := .int .i64 2) rfl) rfl hSd, n1 rfl rfl rfl rfl (fun hq7 => (ex_index (j := 2) (o' := 2) rfl (evS hq7 rfl rfl) ar195 (by decide) (by decide) rfl)) rfl hSd, n1 rfl rfl rfl rfl (fun hq8 => (ex_load (v := .int .u64 t2) (evS hq8 rfl rfl) (hSd.at 0 rfl) on39 rfl)) rfl hSd, ?_, ?_, n1 rfl rfl rfl rfl (fun hq11 => (ex_move (v := .tuple #[.int .u64 x52, .int .u64 x53]) (evS hq11 rfl rfl))) rfl hSd, n1 rfl rfl rfl rfl (fun hq12 => (ex_extract (v := .int .u64 x52) (evS hq12 rfl rfl) rfl)) rfl hSd, n1 rfl rfl rfl rfl (fun hq12 => (ex_extract (v := .int .u64 x53) (evS hq12 rfl rfl) rfl)) rfl hSd, ?_, tt⟩
   ·refine needG rfl ?_
    rintro ⟨_⟩ hno
    exact dx (wanted_none rfl) rfl (ex_move (v := .int .u64 x40) (evN (hno 15 _ rfl rfl) rfl rfl rfl)) ⟨rfl, hSd⟩
   ·refine needG rfl ?_
    rintro ⟨hq3, hq6, hq9, hq10, _⟩ hno
    refine dxC (wanted_none rfl) rfl (exe_call (args := #[.int .u64 (limb a 2), .int .u64 y22, .int .u64 t2, .int .u64 x40]) en147 (args_of4 (evS hq3 rfl rfl) (evS hq6 rfl rfl) (evS hq9 rfl rfl) (evS hq10 rfl rfl))) (c_mulAdd (limb a 2) y22 t2 x40 wd (by first | exact ⟨limb_nonneg _ _, limb_lt _ _⟩ | omega) (by first | exact ⟨limb_nonneg _ _, limb_lt _ _⟩ | omega) (by first | exact ⟨limb_nonneg _ _, limb_lt _ _⟩ | omega) (by first | exact ⟨limb_nonneg _ _, limb_lt _ _⟩ | omega)) ?_
    rintro _ W48 ⟨hv51, hT50⟩
    rw [← hx52, ← hx53] at hv51
    subst hv51
    have hS49 := hSd.call hT50
    exact ⟨rfl, hS49⟩
   refine needG rfl ?_
   rintro ⟨hq13, hq11, hq1, hq2, hq3, hq4, hq5, hq6, hq7, hq8, hq9, hq10, hq11, hq12, hq13, _⟩ hno
   exact dx (wanted_none rfl) rfl (ex_assign (v := .int .u64 x52) (evS hq13 rfl rfl)) ⟨rfl, hSd⟩
  ·exact fun S wd hSd => ⟨True.intro, True.intro, True.intro, True.intro, True.intro, True.intro, True.intro, True.intro, True.intro, True.intro, True.intro, True.intro, True.intro, True.intro, True.intro, True.intro, True.intro⟩
  intro _ W56 hS57
  refine sqv (ex_index (j := 2) (o' := 2) rfl rfl ar195 (by decide) (by decide) rfl) ?_
  refine sqUE (st_store (v := .int .u64 x53) (cs' := #[.int .u64 x29, .int .u64 x41, .int .u64 x53, .int .u64 t3, .int .u64 t4, .int .u64 t5]) 0 hS57 rfl rfl rfl on39 rfl (Nat.le_of_ble_eq_true rfl) rfl rfl) fun W58 hS59 => ?_
  refine blk_normal ?_
  show C _ _ _ _ _ _
  refine C_region ?_
  refine sqv (ex_add (x := 2) (y := 1) (r := 3) rfl rfl (by rfl)) ?_
  refine sqv (ex_move (v := .int .i64 3) rfl) ?_
  show C _ _ _ _ _ _
  refine C_sr ?_
  refine sqv (ex_cmp (x := 3) (y := 4) (r := true) rfl rfl rfl) ?_
  show C _ _ _ _ _ _
  refine C_seq ?_
  refine C_true rfl ?_
  refine C_skip ?_
  show C _ _ _ _ _ _
  refine C_seq ?_
  refine C_block ?_
  refine C_sr ?_
  refine sqv (ex_move (v := .int .i64 3) rfl) ?_
  refine sqv (ex_assign (v := .int .i64 3) rfl) ?_
  show C _ _ _ _ _ _
  refine nm (maHi (limb a 3) y22 t3 x52) fun x64 hx64 => ?_
  refine nm (maLo (limb a 3) y22 t3 x52) fun x65 hx65 => ?_
  have hk66 : 0 ≤ x64 ∧ x64 < 18446744073709551616 := hx64 ▸ (ma_range (by first | exact ⟨limb_nonneg _ _, limb_lt _ _⟩ | omega) (by first | exact ⟨limb_nonneg _ _, limb_lt _ _⟩ | omega) (by omega) (by omega)).1
  have hk67 : 0 ≤ x65 ∧ x65 < 18446744073709551616 := hx65 ▸ (ma_range (by first | exact ⟨limb_nonneg _ _, limb_lt _ _⟩ | omega) (by first | exact ⟨limb_nonneg _ _, limb_lt _ _⟩ | omega) (by omega) (by omega)).2.1
  refine C_draw (p := 16) (l := [(some 22, .int .i64 3), (some 23, .int .i64 3), (some 24, .pointer (some ⟨b4, 3, none⟩)), (some 25, .int .u64 (limb a 3)), (some 26, .int .i64 (k : Int)), (some 27, .pointer (some ⟨b7, k * 1, none⟩)), (some 28, .int .u64 y22), (some 29, .int .i64 3), (some 30, .pointer (some ⟨b13, 3, none⟩)), (some 31, .int .u64 t3), (some 32, .int .u64 x52), (some 33, .tuple #[.int .u64 x64, .int .u64 x65]), (some 21, .tuple #[.int .u64 x64, .int .u64 x65]), (some 34, .int .u64 x64), (some 35, .int .u64 x65), (some 9, .int .u64 x64)]) (G := []) (J := fun w => St [] w0 w [some (b13, .cells #[.int .u64 x29, .int .u64 x41, .int .u64 x53, .int .u64 t3, .int .u64 t4, .int .u64 t5] 195), some (b10, .cells #[.int .u64 0, .int .u64 0, .int .u64 0, .int .u64 0] 49), some (b7, .cells (([limb b 0, limb b 1, limb b 2, limb b 3]).flatMap cU).toArray 49), some (b4, .cells (elA a) 49), some (b1, .cells (fdA F) 117)] []) mixed ?_ (hS59.draw _)
  refine node1 16 [] [] [] (by kernel_rfl) rfl rfl (nd rfl) rfl (by kernel_rfl) ?_ ?_ ?_
  ·intro S wd hSd
   refine ⟨n0 rfl rfl rfl (ex_move (v := .int .i64 3) rfl) rfl hSd, n0 rfl rfl rfl (ex_move (v := .int .i64 3) rfl) rfl hSd, n1 rfl rfl rfl rfl (fun hq1 => (ex_index (j := 3) (o' := 3) rfl (evS hq1 rfl rfl) ar49 (by decide) (by decide) rfl)) rfl hSd, n1 rfl rfl rfl rfl (fun hq2 => (ex_load (v := .int .u64 (limb a 3)) (evS hq2 rfl rfl) (hSd.at 3 rfl) on39 rfl)) rfl hSd, n0 rfl rfl rfl (ex_move (v := .int .i64 (k : Int)) rfl) rfl hSd, n1 rfl rfl rfl rfl (fun hq4 => (ex_index (j := (k : Int)) (o' := k * 1) rfl (evS hq4 rfl rfl) ar49 (by omega) (by omega) (by omega))) rfl hSd, n1 rfl rfl rfl rfl (fun hq5 => (ex_loadM (f := cU) (i := k) (fun _ => rfl) (evS hq5 rfl rfl) (hSd.at 2 rfl) on39 rfl hy23 rfl)) rfl hSd, n0 rfl rfl rfl (ex_move (v := .int .i64 3) rfl) rfl hSd, n1 rfl rfl rfl rfl (fun hq7 => (ex_index (j := 3) (o' := 3) rfl (evS hq7 rfl rfl) ar195 (by decide) (by decide) rfl)) rfl hSd, n1 rfl rfl rfl rfl (fun hq8 => (ex_load (v := .int .u64 t3) (evS hq8 rfl rfl) (hSd.at 0 rfl) on39 rfl)) rfl hSd, ?_, ?_, n1 rfl rfl rfl rfl (fun hq11 => (ex_move (v := .tuple #[.int .u64 x64, .int .u64 x65]) (evS hq11 rfl rfl))) rfl hSd, n1 rfl rfl rfl rfl (fun hq12 => (ex_extract (v := .int .u64 x64) (evS hq12 rfl rfl) rfl)) rfl hSd, n1 rfl rfl rfl rfl (fun hq12 => (ex_extract (v := .int .u64 x65) (evS hq12 rfl rfl) rfl)) rfl hSd, ?_, tt⟩
   ·refine needG rfl ?_
    rintro ⟨_⟩ hno
    exact dx (wanted_none rfl) rfl (ex_move (v := .int .u64 x52) (evN (hno 15 _ rfl rfl) rfl rfl rfl)) ⟨rfl, hSd⟩
   ·refine needG rfl ?_
    rintro ⟨hq3, hq6, hq9, hq10, _⟩ hno
    refine dxC (wanted_none rfl) rfl (exe_call (args := #[.int .u64 (limb a 3), .int .u64 y22, .int .u64 t3, .int .u64 x52]) en147 (args_of4 (evS hq3 rfl rfl) (evS hq6 rfl rfl) (evS hq9 rfl rfl) (evS hq10 rfl rfl))) (c_mulAdd (limb a 3) y22 t3 x52 wd (by first | exact ⟨limb_nonneg _ _, limb_lt _ _⟩ | omega) (by first | exact ⟨limb_nonneg _ _, limb_lt _ _⟩ | omega) (by first | exact ⟨limb_nonneg _ _, limb_lt _ _⟩ | omega) (by first | exact ⟨limb_nonneg _ _, limb_lt _ _⟩ | omega)) ?_
    rintro _ W60 ⟨hv63, hT62⟩
    rw [← hx64, ← hx65] at hv63
    subst hv63
    have hS61 := hSd.call hT62
    exact ⟨rfl, hS61⟩
   refine needG rfl ?_
   rintro ⟨hq13, hq11, hq1, hq2, hq3, hq4, hq5, hq6, hq7, hq8, hq9, hq10, hq11, hq12, hq13, _⟩ hno
   exact dx (wanted_none rfl) rfl (ex_assign (v := .int .u64 x64) (evS hq13 rfl rfl)) ⟨rfl, hSd⟩
  ·exact fun S wd hSd => ⟨True.intro, True.intro, True.intro, True.intro, True.intro, True.intro, True.intro, True.intro, True.intro, True.intro, True.intro, True.intro, True.intro, True.intro, True.intro, True.intro, True.intro⟩
  intro _ W68 hS69
  refine sqv (ex_index (j := 3) (o' := 3) rfl rfl ar195 (by decide) (by decide) rfl) ?_
  refine sqUE (st_store (v := .int .u64 x65) (cs' := #[.int .u64 x29, .int .u64 x41, .int .u64 x53, .int .u64 x65, .int .u64 t4, .int .u64 t5]) 0 hS69 rfl rfl rfl on39 rfl (Nat.le_of_ble_eq_true rfl) rfl rfl) fun W70 hS71 => ?_
  refine blk_normal ?_
  show C _ _ _ _ _ _
  refine C_region ?_
  refine sqv (ex_add (x := 3) (y := 1) (r := 4) rfl rfl (by rfl)) ?_
  refine sqv (ex_move (v := .int .i64 4) rfl) ?_
  show C _ _ _ _ _ _
  refine C_sr ?_
  refine sqv (ex_cmp (x := 4) (y := 4) (r := false) rfl rfl rfl) ?_
  show C _ _ _ _ _ _
  refine C_seq ?_
  refine C_false rfl ?_
  refine C_exit ?_
  refine thn_exit ?_
  refine thn_exit ?_
  refine blk_exit ?_
  show C _ _ _ _ _ _
  refine C_sr ?_
  refine sqv (ex_index (j := 4) (o' := 4) rfl rfl ar195 (by decide) (by decide) rfl) ?_
  refine sqv (ex_load (v := .int .u64 t4) rfl (hS71.at 0 rfl) on39 rfl) ?_
  refine sqv (ex_move (v := .int .u64 x64) rfl) ?_
  refine nm (addLo t4 x64 0) fun x72 hx72 => ?_
  refine nm (addHi t4 x64 0) fun x73 hx73 => ?_
  have hkx73 : 0 ≤ x73 ∧ x73 ≤ 1 := hx73 ▸ addHi_bd (by omega) (by omega) (by omega) (by omega) (by decide)
  have hkx72 : 0 ≤ x72 ∧ x72 < 18446744073709551616 := hx72 ▸ (by unfold addLo; omega)
  refine sqv (exq_add64 (x := t4) (y := x64) (c := 0) hx72 hx73 e_Add64 rfl (args_of3 rfl rfl rfl) (by omega) (by omega) (by decide)) ?_
  refine sqv (ex_move (v := .tuple #[.int .u64 x72, .int .u64 x73]) rfl) ?_
  refine sqv (ex_extract (v := .int .u64 x72) rfl rfl) ?_
  refine sqv (ex_extract (v := .int .u64 x73) rfl rfl) ?_
  refine sqv (ex_index (j := 4) (o' := 4) rfl rfl ar195 (by decide) (by decide) rfl) ?_
  refine sqUE (st_store (v := .int .u64 x72) (cs' := #[.int .u64 x29, .int .u64 x41, .int .u64 x53, .int .u64 x65, .int .u64 x72, .int .u64 t5]) 0 hS71 rfl rfl rfl on39 rfl (Nat.le_of_ble_eq_true rfl) rfl rfl) fun W74 hS75 => ?_
  refine sqv (ex_index (j := 5) (o' := 5) rfl rfl ar195 (by decide) (by decide) rfl) ?_
  refine sqUE (st_store (v := .int .u64 x73) (cs' := #[.int .u64 x29, .int .u64 x41, .int .u64 x53, .int .u64 x65, .int .u64 x72, .int .u64 x73]) 0 hS75 rfl rfl rfl on39 rfl (Nat.le_of_ble_eq_true rfl) rfl rfl) fun W76 hS77 => ?_
  show C _ _ _ _ _ _
  refine C_sr ?_
  refine sqv (ex_index (j := 0) (o' := 0) rfl rfl ar195 (by decide) (by decide) rfl) ?_
  refine sqv (ex_load (v := .int .u64 x29) rfl (hS77.at 0 rfl) on39 rfl) ?_
  refine sqv (ex_field (o' := 5) rfl fi117_2 rfl) ?_
  refine sqv (ex_load (v := .int .u64 F.inv) rfl (hS77.at 4 rfl) on39 rfl) ?_
  refine nm ((x29 * F.inv) % 18446744073709551616) fun x78 hx78 => ?_
  refine sqv (ex_mul (x := x29) (y := F.inv) rfl rfl (wu64 hx78)) ?_
  refine sqv (ex_assign (v := .int .u64 x78) rfl) ?_
  show C _ _ _ _ _ _
  refine C_sr ?_
  refine sqv (ex_move (v := .int .u64 x78) rfl) ?_
  refine sqv (ex_field (o' := 1) rfl fi117_1 rfl) ?_
  refine sqv (ex_index (j := 0) (o' := 1) rfl rfl ar40 (by decide) (by decide) rfl) ?_
  refine sqv (ex_load (v := .int .u64 (limb F.p 0)) rfl (hS77.at 4 rfl) on39 rfl) ?_
  refine sqv (ex_index (j := 0) (o' := 0) rfl rfl ar195 (by decide) (by decide) rfl) ?_
  refine sqv (ex_load (v := .int .u64 x29) rfl (hS77.at 0 rfl) on39 rfl) ?_
  refine nm (maHi x78 (limb F.p 0) x29 0) fun x83 hx83 => ?_
  refine nm (maLo x78 (limb F.p 0) x29 0) fun x84 hx84 => ?_
  have hk85 : 0 ≤ x83 ∧ x83 < 18446744073709551616 := hx83 ▸ (ma_range (by first | exact ⟨limb_nonneg _ _, limb_lt _ _⟩ | omega) (by first | exact ⟨limb_nonneg _ _, limb_lt _ _⟩ | omega) (by omega) (by omega)).1
  have hk86 : 0 ≤ x84 ∧ x84 < 18446744073709551616 := hx84 ▸ (ma_range (by first | exact ⟨limb_nonneg _ _, limb_lt _ _⟩ | omega) (by first | exact ⟨limb_nonneg _ _, limb_lt _ _⟩ | omega) (by omega) (by omega)).2.1
  refine sqc (exe_call (args := #[.int .u64 x78, .int .u64 (limb F.p 0), .int .u64 x29, .int .u64 0]) en147 (args_of4 rfl rfl rfl rfl)) (c_mulAdd x78 (limb F.p 0) x29 0 W76 (by first | exact ⟨limb_nonneg _ _, limb_lt _ _⟩ | omega) (by first | exact ⟨limb_nonneg _ _, limb_lt _ _⟩ | omega) (by first | exact ⟨limb_nonneg _ _, limb_lt _ _⟩ | omega) (by first | exact ⟨limb_nonneg _ _, limb_lt _ _⟩ | omega)) ?_
  rintro _ W79 ⟨hv82, hT81⟩
  rw [← hx83, ← hx84] at hv82
  subst hv82
  have hS80 := hS77.call hT81
  refine sqv (ex_move (v := .tuple #[.int .u64 x83, .int .u64 x84]) rfl) ?_
  refine sqv (ex_extract (v := .int .u64 x83) rfl rfl) ?_
  refine sqv (ex_extract (v := .int .u64 x84) rfl rfl) ?_
  refine sqv (ex_assign (v := .int .u64 x83) rfl) ?_
  show C _ _ _ _ _ _
  refine C_seq ?_
  refine C_sr ?_
  refine sqv (ex_assign (v := .int .i64 1) rfl) ?_
  show C _ _ _ _ _ _
  refine C_block ?_
  refine C_unroll 4 ?_
  show C _ _ _ _ _ _
  refine C_seq ?_
  refine C_sr ?_
  refine sqv (ex_move (v := .int .i64 1) rfl) ?_
  refine sqv (ex_cmp (x := 1) (y := 4) (r := true) rfl rfl rfl) ?_
  show C _ _ _ _ _ _
  refine C_true rfl ?_
  refine C_skip ?_
  show C _ _ _ _ _ _
  refine C_seq ?_
  refine C_block ?_
  refine nm (maHi x78 (limb F.p 1) x41 x83) fun x91 hx91 => ?_
  refine nm (maLo x78 (limb F.p 1) x41 x83) fun x92 hx92 => ?_
  have hk93 : 0 ≤ x91 ∧ x91 < 18446744073709551616 := hx91 ▸ (ma_range (by first | exact ⟨limb_nonneg _ _, limb_lt _ _⟩ | omega) (by first | exact ⟨limb_nonneg _ _, limb_lt _ _⟩ | omega) (by omega) (by omega)).1
  have hk94 : 0 ≤ x92 ∧ x92 < 18446744073709551616 := hx92 ▸ (ma_range (by first | exact ⟨limb_nonneg _ _, limb_lt _ _⟩ | omega) (by first | exact ⟨limb_nonneg _ _, limb_lt _ _⟩ | omega) (by omega) (by omega)).2.1
  refine C_draw (p := 16) (l := [(some 67, .int .i64 1), (some 68, .int .i64 0), (some 69, .int .u64 x78), (some 70, .int .i64 1), (some 71, .pointer (some ⟨b1, 1, none⟩)), (some 72, .pointer (some ⟨b1, 2, none⟩)), (some 73, .int .u64 (limb F.p 1)), (some 74, .int .i64 1), (some 75, .pointer (some ⟨b13, 1, none⟩)), (some 76, .int .u64 x41), (some 77, .int .u64 x83), (some 78, .tuple #[.int .u64 x91, .int .u64 x92]), (some 66, .tuple #[.int .u64 x91, .int .u64 x92]), (some 79, .int .u64 x91), (some 80, .int .u64 x92), (some 9, .int .u64 x91)]) (G := []) (J := fun w => St [] w0 w [some (b13, .cells #[.int .u64 x29, .int .u64 x41, .int .u64 x53, .int .u64 x65, .int .u64 x72, .int .u64 x73] 195), some (b10, .cells #[.int .u64 0, .int .u64 0, .int .u64 0, .int .u64 0] 49), some (b7, .cells (([limb b 0, limb b 1, limb b 2, limb b 3]).flatMap cU).toArray 49), some (b4, .cells (elA a) 49), some (b1, .cells (fdA F) 117)] []) mixed ?_ (hS80.draw _)
  refine node1 16 [] [] [] (by kernel_rfl) rfl rfl (nd rfl) rfl (by kernel_rfl) ?_ ?_ ?_
  ·intro S wd hSd
   refine ⟨n0 rfl rfl rfl (ex_move (v := .int .i64 1) rfl) rfl hSd, n1 rfl rfl rfl rfl (fun hq0 => (ex_sub (x := 1) (y := 1) (r := 0) (evS hq0 rfl rfl) rfl (by rfl))) rfl hSd, n0 rfl rfl rfl (ex_move (v := .int .u64 x78) rfl) rfl hSd, n0 rfl rfl rfl (ex_move (v := .int .i64 1) rfl) rfl hSd, n0 rfl rfl rfl (ex_field (o' := 1) rfl fi117_1 rfl) rfl hSd, n2 rfl rfl rfl rfl (fun hq4 hq3 => (ex_index (j := 1) (o' := 2) (evS hq4 rfl rfl) (evS hq3 rfl rfl) ar40 (by decide) (by decide) rfl)) rfl hSd, n1 rfl rfl rfl rfl (fun hq5 => (ex_load (v := .int .u64 (limb F.p 1)) (evS hq5 rfl rfl) (hSd.at 4 rfl) on39 rfl)) rfl hSd, n0 rfl rfl rfl (ex_move (v := .int .i64 1) rfl) rfl hSd, n1 rfl rfl rfl rfl (fun hq7 => (ex_index (j := 1) (o' := 1) rfl (evS hq7 rfl rfl) ar195 (by decide) (by decide) rfl)) rfl hSd, n1 rfl rfl rfl rfl (fun hq8 => (ex_load (v := .int .u64 x41) (evS hq8 rfl rfl) (hSd.at 0 rfl) on39 rfl)) rfl hSd, ?_, ?_, n1 rfl rfl rfl rfl (fun hq11 => (ex_move (v := .tuple #[.int .u64 x91, .int .u64 x92]) (evS hq11 rfl rfl))) rfl hSd, n1 rfl rfl rfl rfl (fun hq12 => (ex_extract (v := .int .u64 x91) (evS hq12 rfl rfl) rfl)) rfl hSd, n1 rfl rfl rfl rfl (fun hq12 => (ex_extract (v := .int .u64 x92) (evS hq12 rfl rfl) rfl)) rfl hSd, ?_, tt⟩
   ·refine needG rfl ?_
    rintro ⟨_⟩ hno
    exact dx (wanted_none rfl) rfl (ex_move (v := .int .u64 x83) (evN (hno 15 _ rfl rfl) rfl rfl rfl)) ⟨rfl, hSd⟩
   ·refine needG rfl ?_
    rintro ⟨hq2, hq6, hq9, hq10, _⟩ hno
    refine dxC (wanted_none rfl) rfl (exe_call (args := #[.int .u64 x78, .int .u64 (limb F.p 1), .int .u64 x41, .int .u64 x83]) en147 (args_of4 (evS hq2 rfl rfl) (evS hq6 rfl rfl) (evS hq9 rfl rfl) (evS hq10 rfl rfl))) (c_mulAdd x78 (limb F.p 1) x41 x83 wd (by first | exact ⟨limb_nonneg _ _, limb_lt _ _⟩ | omega) (by first | exact ⟨limb_nonneg _ _, limb_lt _ _⟩ | omega) (by first | exact ⟨limb_nonneg _ _, limb_lt _ _⟩ | omega) (by first | exact ⟨limb_nonneg _ _, limb_lt _ _⟩ | omega)) ?_
    rintro _ W87 ⟨hv90, hT89⟩
    rw [← hx91, ← hx92] at hv90
    subst hv90
    have hS88 := hSd.call hT89
    exact ⟨rfl, hS88⟩
   refine needG rfl ?_
   rintro ⟨hq13, hq11, hq2, hq3, hq4, hq5, hq6, hq7, hq8, hq9, hq10, hq11, hq12, hq13, _⟩ hno
   exact dx (wanted_none rfl) rfl (ex_assign (v := .int .u64 x91) (evS hq13 rfl rfl)) ⟨rfl, hSd⟩
  ·exact fun S wd hSd => ⟨True.intro, True.intro, True.intro, True.intro, True.intro, True.intro, True.intro, True.intro, True.intro, True.intro, True.intro, True.intro, True.intro, True.intro, True.intro, True.intro, True.intro⟩
  intro _ W95 hS96
  refine sqv (ex_index (j := 0) (o' := 0) rfl rfl ar195 (by decide) (by decide) rfl) ?_
  refine sqUE (st_store (v := .int .u64 x92) (cs' := #[.int .u64 x92, .int .u64 x41, .int .u64 x53, .int .u64 x65, .int .u64 x72, .int .u64 x73]) 0 hS96 rfl rfl rfl on39 rfl (Nat.le_of_ble_eq_true rfl) rfl rfl) fun W97 hS98 => ?_
  refine blk_normal ?_
  show C _ _ _ _ _ _
  refine C_region ?_
  refine sqv (ex_move (v := .int .i64 1) rfl) ?_
  refine sqv (ex_add (x := 1) (y := 1) (r := 2) rfl rfl (by rfl)) ?_
  refine sqv (ex_assign (v := .int .i64 2) rfl) ?_
  show C _ _ _ _ _ _
  refine C_seq ?_
  refine C_sr ?_
  refine sqv (ex_move (v := .int .i64 2) rfl) ?_
  refine sqv (ex_cmp (x := 2) (y := 4) (r := true) rfl rfl rfl) ?_
  show C _ _ _ _ _ _
  refine C_true rfl ?_
  refine C_skip ?_
  show C _ _ _ _ _ _
  refine C_seq ?_
  refine C_block ?_
  refine nm (maHi x78 (limb F.p 2) x53 x91) fun x103 hx103 => ?_
  refine nm (maLo x78 (limb F.p 2) x53 x91) fun x104 hx104 => ?_
  have hk105 : 0 ≤ x103 ∧ x103 < 18446744073709551616 := hx103 ▸ (ma_range (by first | exact ⟨limb_nonneg _ _, limb_lt _ _⟩ | omega) (by first | exact ⟨limb_nonneg _ _, limb_lt _ _⟩ | omega) (by omega) (by omega)).1
  have hk106 : 0 ≤ x104 ∧ x104 < 18446744073709551616 := hx104 ▸ (ma_range (by first | exact ⟨limb_nonneg _ _, limb_lt _ _⟩ | omega) (by first | exact ⟨limb_nonneg _ _, limb_lt _ _⟩ | omega) (by omega) (by omega)).2.1
  refine C_draw (p := 16) (l := [(some 67, .int .i64 2), (some 68, .int .i64 1), (some 69, .int .u64 x78), (some 70, .int .i64 2), (some 71, .pointer (some ⟨b1, 1, none⟩)), (some 72, .pointer (some ⟨b1, 3, none⟩)), (some 73, .int .u64 (limb F.p 2)), (some 74, .int .i64 2), (some 75, .pointer (some ⟨b13, 2, none⟩)), (some 76, .int .u64 x53), (some 77, .int .u64 x91), (some 78, .tuple #[.int .u64 x103, .int .u64 x104]), (some 66, .tuple #[.int .u64 x103, .int .u64 x104]), (some 79, .int .u64 x103), (some 80, .int .u64 x104), (some 9, .int .u64 x103)]) (G := []) (J := fun w => St [] w0 w [some (b13, .cells #[.int .u64 x92, .int .u64 x41, .int .u64 x53, .int .u64 x65, .int .u64 x72, .int .u64 x73] 195), some (b10, .cells #[.int .u64 0, .int .u64 0, .int .u64 0, .int .u64 0] 49), some (b7, .cells (([limb b 0, limb b 1, limb b 2, limb b 3]).flatMap cU).toArray 49), some (b4, .cells (elA a) 49), some (b1, .cells (fdA F) 117)] []) mixed ?_ (hS98.draw _)
  refine node1 16 [] [] [] (by kernel_rfl) rfl rfl (nd rfl) rfl (by kernel_rfl) ?_ ?_ ?_
  ·intro S wd hSd
   refine ⟨n0 rfl rfl rfl (ex_move (v := .int .i64 2) rfl) rfl hSd, n1 rfl rfl rfl rfl (fun hq0 => (ex_sub (x := 2) (y := 1) (r := 1) (evS hq0 rfl rfl) rfl (by rfl))) rfl hSd, n0 rfl rfl rfl (ex_move (v := .int .u64 x78) rfl) rfl hSd, n0 rfl rfl rfl (ex_move (v := .int .i64 2) rfl) rfl hSd, n0 rfl rfl rfl (ex_field (o' := 1) rfl fi117_1 rfl) rfl hSd, n2 rfl rfl rfl rfl (fun hq4 hq3 => (ex_index (j := 2) (o' := 3) (evS hq4 rfl rfl) (evS hq3 rfl rfl) ar40 (by decide) (by decide) rfl)) rfl hSd, n1 rfl rfl rfl rfl (fun hq5 => (ex_load (v := .int .u64 (limb F.p 2)) (evS hq5 rfl rfl) (hSd.at 4 rfl) on39 rfl)) rfl hSd, n0 rfl rfl rfl (ex_move (v := .int .i64 2) rfl) rfl hSd, n1 rfl rfl rfl rfl (fun hq7 => (ex_index (j := 2) (o' := 2) rfl (evS hq7 rfl rfl) ar195 (by decide) (by decide) rfl)) rfl hSd, n1 rfl rfl rfl rfl (fun hq8 => (ex_load (v := .int .u64 x53) (evS hq8 rfl rfl) (hSd.at 0 rfl) on39 rfl)) rfl hSd, ?_, ?_, n1 rfl rfl rfl rfl (fun hq11 => (ex_move (v := .tuple #[.int .u64 x103, .int .u64 x104]) (evS hq11 rfl rfl))) rfl hSd, n1 rfl rfl rfl rfl (fun hq12 => (ex_extract (v := .int .u64 x103) (evS hq12 rfl rfl) rfl)) rfl hSd, n1 rfl rfl rfl rfl (fun hq12 => (ex_extract (v := .int .u64 x104) (evS hq12 rfl rfl) rfl)) rfl hSd, ?_, tt⟩
   ·refine needG rfl ?_
    rintro ⟨_⟩ hno
    exact dx (wanted_none rfl) rfl (ex_move (v := .int .u64 x91) (evN (hno 15 _ rfl rfl) rfl rfl rfl)) ⟨rfl, hSd⟩
   ·refine needG rfl ?_
    rintro ⟨hq2, hq6, hq9, hq10, _⟩ hno
    refine dxC (wanted_none rfl) rfl (exe_call (args := #[.int .u64 x78, .int .u64 (limb F.p 2), .int .u64 x53, .int .u64 x91]) en147 (args_of4 (evS hq2 rfl rfl) (evS hq6 rfl rfl) (evS hq9 rfl rfl) (evS hq10 rfl rfl))) (c_mulAdd x78 (limb F.p 2) x53 x91 wd (by first | exact ⟨limb_nonneg _ _, limb_lt _ _⟩ | omega) (by first | exact ⟨limb_nonneg _ _, limb_lt _ _⟩ | omega) (by first | exact ⟨limb_nonneg _ _, limb_lt _ _⟩ | omega) (by first | exact ⟨limb_nonneg _ _, limb_lt _ _⟩ | omega)) ?_
    rintro _ W99 ⟨hv102, hT101⟩
    rw [← hx103, ← hx104] at hv102
    subst hv102
    have hS100 := hSd.call hT101
    exact ⟨rfl, hS100⟩
   refine needG rfl ?_
   rintro ⟨hq13, hq11, hq2, hq3, hq4, hq5, hq6, hq7, hq8, hq9, hq10, hq11, hq12, hq13, _⟩ hno
   exact dx (wanted_none rfl) rfl (ex_assign (v := .int .u64 x103) (evS hq13 rfl rfl)) ⟨rfl, hSd⟩
  ·exact fun S wd hSd => ⟨True.intro, True.intro, True.intro, True.intro, True.intro, True.intro, True.intro, True.intro, True.intro, True.intro, True.intro, True.intro, True.intro, True.intro, True.intro, True.intro, True.intro⟩
  intro _ W107 hS108
  refine sqv (ex_index (j := 1) (o' := 1) rfl rfl ar195 (by decide) (by decide) rfl) ?_
  refine sqUE (st_store (v := .int .u64 x104) (cs' := #[.int .u64 x92, .int .u64 x104, .int .u64 x53, .int .u64 x65, .int .u64 x72, .int .u64 x73]) 0 hS108 rfl rfl rfl on39 rfl (Nat.le_of_ble_eq_true rfl) rfl rfl) fun W109 hS110 => ?_
  refine blk_normal ?_
  show C _ _ _ _ _ _
  refine C_region ?_
  refine sqv (ex_move (v := .int .i64 2) rfl) ?_
  refine sqv (ex_add (x := 2) (y := 1) (r := 3) rfl rfl (by rfl)) ?_
  refine sqv (ex_assign (v := .int .i64 3) rfl) ?_
  show C _ _ _ _ _ _
  refine C_seq ?_
  refine C_sr ?_
  refine sqv (ex_move (v := .int .i64 3) rfl) ?_
  refine sqv (ex_cmp (x := 3) (y := 4) (r := true) rfl rfl rfl) ?_
  show C _ _ _ _ _ _
  refine C_true rfl ?_
  refine C_skip ?_
  show C _ _ _ _ _ _
  refine C_seq ?_
  refine C_block ?_
  refine nm (maHi x78 (limb F.p 3) x65 x103) fun x115 hx115 => ?_
  refine nm (maLo x78 (limb F.p 3) x65 x103) fun x116 hx116 => ?_
  have hk117 : 0 ≤ x115 ∧ x115 < 18446744073709551616 := hx115 ▸ (ma_range (by first | exact ⟨limb_nonneg _ _, limb_lt _ _⟩ | omega) (by first | exact ⟨limb_nonneg _ _, limb_lt _ _⟩ | omega) (by omega) (by omega)).1
  have hk118 : 0 ≤ x116 ∧ x116 < 18446744073709551616 := hx116 ▸ (ma_range (by first | exact ⟨limb_nonneg _ _, limb_lt _ _⟩ | omega) (by first | exact ⟨limb_nonneg _ _, limb_lt _ _⟩ | omega) (by omega) (by omega)).2.1
  refine C_draw (p := 16) (l := [(some 67, .int .i64 3), (some 68, .int .i64 2), (some 69, .int .u64 x78), (some 70, .int .i64 3), (some 71, .pointer (some ⟨b1, 1, none⟩)), (some 72, .pointer (some ⟨b1, 4, none⟩)), (some 73, .int .u64 (limb F.p 3)), (some 74, .int .i64 3), (some 75, .pointer (some ⟨b13, 3, none⟩)), (some 76, .int .u64 x65), (some 77, .int .u64 x103), (some 78, .tuple #[.int .u64 x115, .int .u64 x116]), (some 66, .tuple #[.int .u64 x115, .int .u64 x116]), (some 79, .int .u64 x115), (some 80, .int .u64 x116), (some 9, .int .u64 x115)]) (G := []) (J := fun w => St [] w0 w [some (b13, .cells #[.int .u64 x92, .int .u64 x104, .int .u64 x53, .int .u64 x65, .int .u64 x72, .int .u64 x73] 195), some (b10, .cells #[.int .u64 0, .int .u64 0, .int .u64 0, .int .u64 0] 49), some (b7, .cells (([limb b 0, limb b 1, limb b 2, limb b 3]).flatMap cU).toArray 49), some (b4, .cells (elA a) 49), some (b1, .cells (fdA F) 117)] []) mixed ?_ (hS110.draw _)
  refine node1 16 [] [] [] (by kernel_rfl) rfl rfl (nd rfl) rfl (by kernel_rfl) ?_ ?_ ?_
  ·intro S wd hSd
   refine ⟨n0 rfl rfl rfl (ex_move (v := .int .i64 3) rfl) rfl hSd, n1 rfl rfl rfl rfl (fun hq0 => (ex_sub (x := 3) (y := 1) (r := 2) (evS hq0 rfl rfl) rfl (by rfl))) rfl hSd, n0 rfl rfl rfl (ex_move (v := .int .u64 x78) rfl) rfl hSd, n0 rfl rfl rfl (ex_move (v := .int .i64 3) rfl) rfl hSd, n0 rfl rfl rfl (ex_field (o' := 1) rfl fi117_1 rfl) rfl hSd, n2 rfl rfl rfl rfl (fun hq4 hq3 => (ex_index (j := 3) (o' := 4) (evS hq4 rfl rfl) (evS hq3 rfl rfl) ar40 (by decide) (by decide) rfl)) rfl hSd, n1 rfl rfl rfl rfl (fun hq5 => (ex_load (v := .int .u64 (limb F.p 3)) (evS hq5 rfl rfl) (hSd.at 4 rfl) on39 rfl)) rfl hSd, n0 rfl rfl rfl (ex_move (v := .int .i64 3) rfl) rfl hSd, n1 rfl rfl rfl rfl (fun hq7 => (ex_index (j := 3) (o' := 3) rfl (evS hq7 rfl rfl) ar195 (by decide) (by decide) rfl)) rfl hSd, n1 rfl rfl rfl rfl (fun hq8 => (ex_load (v := .int .u64 x65) (evS hq8 rfl rfl) (hSd.at 0 rfl) on39 rfl)) rfl hSd, ?_, ?_, n1 rfl rfl rfl rfl (fun hq11 => (ex_move (v := .tuple #[.int .u64 x115, .int .u64 x116]) (evS hq11 rfl rfl))) rfl hSd, n1 rfl rfl rfl rfl (fun hq12 => (ex_extract (v := .int .u64 x115) (evS hq12 rfl rfl) rfl)) rfl hSd, n1 rfl rfl rfl rfl (fun hq12 => (ex_extract (v := .int .u64 x116) (evS hq12 rfl rfl) rfl)) rfl hSd, ?_, tt⟩
   ·refine needG rfl ?_
    rintro ⟨_⟩ hno
    exact dx (wanted_none rfl) rfl (ex_move (v := .int .u64 x103) (evN (hno 15 _ rfl rfl) rfl rfl rfl)) ⟨rfl, hSd⟩
   ·refine needG rfl ?_
    rintro ⟨hq2, hq6, hq9, hq10, _⟩ hno
    refine dxC (wanted_none rfl) rfl (exe_call (args := #[.int .u64 x78, .int .u64 (limb F.p 3), .int .u64 x65, .int .u64 x103]) en147 (args_of4 (evS hq2 rfl rfl) (evS hq6 rfl rfl) (evS hq9 rfl rfl) (evS hq10 rfl rfl))) (c_mulAdd x78 (limb F.p 3) x65 x103 wd (by first | exact ⟨limb_nonneg _ _, limb_lt _ _⟩ | omega) (by first | exact ⟨limb_nonneg _ _, limb_lt _ _⟩ | omega) (by first | exact ⟨limb_nonneg _ _, limb_lt _ _⟩ | omega) (by first | exact ⟨limb_nonneg _ _, limb_lt _ _⟩ | omega)) ?_
    rintro _ W111 ⟨hv114, hT113⟩
    rw [← hx115, ← hx116] at hv114
    subst hv114
    have hS112 := hSd.call hT113
    exact ⟨rfl, hS112⟩
   refine needG rfl ?_
   rintro ⟨hq13, hq11, hq2, hq3, hq4, hq5, hq6, hq7, hq8, hq9, hq10, hq11, hq12, hq13, _⟩ hno
   exact dx (wanted_none rfl) rfl (ex_assign (v := .int .u64 x115) (evS hq13 rfl rfl)) ⟨rfl, hSd⟩
  ·exact fun S wd hSd => ⟨True.intro, True.intro, True.intro, True.intro, True.intro, True.intro, True.intro, True.intro, True.intro, True.intro, True.intro, True.intro, True.intro, True.intro, True.intro, True.intro, True.intro⟩
  intro _ W119 hS120
  refine sqv (ex_index (j := 2) (o' := 2) rfl rfl ar195 (by decide) (by decide) rfl) ?_
  refine sqUE (st_store (v := .int .u64 x116) (cs' := #[.int .u64 x92, .int .u64 x104, .int .u64 x116, .int .u64 x65, .int .u64 x72, .int .u64 x73]) 0 hS120 rfl rfl rfl on39 rfl (Nat.le_of_ble_eq_true rfl) rfl rfl) fun W121 hS122 => ?_
  refine blk_normal ?_
  show C _ _ _ _ _ _
  refine C_region ?_
  refine sqv (ex_move (v := .int .i64 3) rfl) ?_
  refine sqv (ex_add (x := 3) (y := 1) (r := 4) rfl rfl (by rfl)) ?_
  refine sqv (ex_assign (v := .int .i64 4) rfl) ?_
  show C _ _ _ _ _ _
  refine C_seq ?_
  refine C_sr ?_
  refine sqv (ex_move (v := .int .i64 4) rfl) ?_
  refine sqv (ex_cmp (x := 4) (y := 4) (r := false) rfl rfl rfl) ?_
  show C _ _ _ _ _ _
  refine C_false rfl ?_
  refine C_exit ?_
  refine thn_exit ?_
  refine thn_exit ?_
  refine blk_exit ?_
  show C _ _ _ _ _ _
  refine C_sr ?_
  refine sqv (ex_index (j := 4) (o' := 4) rfl rfl ar195 (by decide) (by decide) rfl) ?_
  refine sqv (ex_load (v := .int .u64 x72) rfl (hS122.at 0 rfl) on39 rfl) ?_
  refine sqv (ex_move (v := .int .u64 x115) rfl) ?_
  refine nm (addLo x72 x115 0) fun x123 hx123 => ?_
  refine nm (addHi x72 x115 0) fun x124 hx124 => ?_
  have hkx124 : 0 ≤ x124 ∧ x124 ≤ 1 := hx124 ▸ addHi_bd (by omega) (by omega) (by omega) (by omega) (by decide)
  have hkx123 : 0 ≤ x123 ∧ x123 < 18446744073709551616 := hx123 ▸ (by unfold addLo; omega)
  refine sqv (exq_add64 (x := x72) (y := x115) (c := 0) hx123 hx124 e_Add64 rfl (args_of3 rfl rfl rfl) (by omega) (by omega) (by decide)) ?_
  refine sqv (ex_move (v := .tuple #[.int .u64 x123, .int .u64 x124]) rfl) ?_
  refine sqv (ex_extract (v := .int .u64 x123) rfl rfl) ?_
  refine sqv (ex_extract (v := .int .u64 x124) rfl rfl) ?_
  refine sqv (ex_assign (v := .int .u64 x123) rfl) ?_
  refine sqv (ex_assign (v := .int .u64 x124) rfl) ?_
  show C _ _ _ _ _ _
  refine C_region ?_
  refine sqv (ex_move (v := .int .u64 x123) rfl) ?_
  refine sqv (ex_index (j := 5) (o' := 5) rfl rfl ar195 (by decide) (by decide) rfl) ?_
  refine sqv (ex_load (v := .int .u64 x73) rfl (hS122.at 0 rfl) on39 rfl) ?_
  refine sqv (ex_move (v := .int .u64 x124) rfl) ?_
  refine nm ((x73 + x124) % 18446744073709551616) fun x125 hx125 => ?_
  refine sqv (ex_add (x := x73) (y := x124) rfl rfl (wu64 hx125)) ?_
  refine sqv (ex_index (j := 3) (o' := 3) rfl rfl ar195 (by decide) (by decide) rfl) ?_
  refine sqUE (st_store (v := .int .u64 x123) (cs' := #[.int .u64 x92, .int .u64 x104, .int .u64 x116, .int .u64 x123, .int .u64 x72, .int .u64 x73]) 0 hS122 rfl rfl rfl on39 rfl (Nat.le_of_ble_eq_true rfl) rfl rfl) fun W126 hS127 => ?_
  refine sqv (ex_index (j := 4) (o' := 4) rfl rfl ar195 (by decide) (by decide) rfl) ?_
  refine sqUE (st_store (v := .int .u64 x125) (cs' := #[.int .u64 x92, .int .u64 x104, .int .u64 x116, .int .u64 x123, .int .u64 x125, .int .u64 x73]) 0 hS127 rfl rfl rfl on39 rfl (Nat.le_of_ble_eq_true rfl) rfl rfl) fun W128 hS129 => ?_
  refine blk_normal ?_
  show C _ _ _ _ _ _
  refine C_region ?_
  refine nm ((k : Int) + 1) fun x130 hx130 => ?_
  refine sqv (ex_add (x := (k : Int)) (y := 1) rfl rfl (w64 hx130 (by omega))) ?_
  refine sqv (ex_move (v := .int .i64 x130) rfl) ?_
  have hM' := MInv.step hF ha hM (limbs4 hy23) hx28 hx29 hx40 hx41 hx52 hx53 hx64 hx65 hx72 hx73 hx78 hx83 hx91 hx92 hx103 hx104 hx115 hx116 hx123 hx124 hx125
  exact ⟨_, (by omega), ⟨_, (k + 1), x92, x104, x116, x123, x125, x73, rfl, act_upds ⟨rfl, rfl, rfl, rfl, rfl, (congrArg (Value.int .i64) (by first | rfl | omega)), trivial⟩, (St.pick (L := [some (b13, .cells #[.int .u64 x92, .int .u64 x104, .int .u64 x116, .int .u64 x123, .int .u64 x125, .int .u64 x73] 195), some (b10, .cells #[.int .u64 0, .int .u64 0, .int .u64 0, .int .u64 0] 49), some (b7, .cells (([limb b 0, limb b 1, limb b 2, limb b 3]).flatMap cU).toArray 49), some (b4, .cells (elA a) 49), some (b1, .cells (fdA F) 117)]) hS129 [0, 1, 2, 3, 4] (by decide)), (by omega), hM'⟩⟩
 refine C_exit ?_
 refine thn_exit ?_
 refine thn_exit ?_
 refine blk_exit ?_
 show C _ _ _ _ _ _
 refine C_seq ?_
 obtain rfl : k = 4 := by omega
 obtain ⟨N, rfl, rfl, rfl, rfl, hN, _⟩ := asm_ex hM.h0 hM.h1 hM.h2 hM.h3
 obtain ⟨s, rfl⟩ := bI_ex hM.h4
 refine C_draw (p := 7) (l := [(some 97, fdV F), (some 98, .slice (so b13) 4 6), (some 99, pt b13), (some 100, elV N), (some 101, .pointer (some ⟨b13, 4, none⟩)), (some 102, .int .u64 (bI s)), (some 103, elV (fRed F N s))]) (G := []) (J := fun w => St [] w0 w [some (b13, .cells #[.int .u64 (limb N 0), .int .u64 (limb N 1), .int .u64 (limb N 2), .int .u64 (limb N 3), .int .u64 (bI s), .int .u64 t5] 195), some (b10, .cells #[.int .u64 0, .int .u64 0, .int .u64 0, .int .u64 0] 49), some (b7, .cells (([limb b 0, limb b 1, limb b 2, limb b 3]).flatMap cU).toArray 49), some (b4, .cells (elA a) 49), some (b1, .cells (fdA F) 117)] []) mixed ?_ (hS18.draw _)
 refine node1 7 [] [] [] (by kernel_rfl) rfl rfl (nd rfl) rfl (by kernel_rfl) ?_ ?_ ?_
 ·intro S wd hSd
  refine ⟨n0 rfl rfl rfl (ex_loads (vs := (fdC F)) rfl (hSd.at 4 rfl) ag117 rfl rfl) rfl hSd, n0 rfl rfl rfl (ex_arrcut (b := b13) rfl rfl ar195) rfl hSd, n1 rfl rfl rfl rfl (fun hq1 => (ex_toarr (b := b13) (evS hq1 rfl rfl) ar40)) rfl hSd, n1 rfl rfl rfl rfl (fun hq2 => (ex_loads (vs := (el N)) (evS hq2 rfl rfl) (hSd.at 0 rfl) ag40 rfl rfl)) rfl hSd, n0 rfl rfl rfl (ex_index (j := 4) (o' := 4) rfl rfl ar195 (by decide) (by decide) rfl) rfl hSd, n1 rfl rfl rfl rfl (fun hq4 => (ex_load (v := .int .u64 (bI s)) (evS hq4 rfl rfl) (hSd.at 0 rfl) on39 rfl)) rfl hSd, ?_, tt⟩
  refine needG rfl ?_
  rintro ⟨hq0, hq3, hq5, _⟩ hno
  refine dxC (wanted_none rfl) rfl (exe_call (args := #[fdV F, elV N, .int .u64 (bI s)]) en149 (args_of3 (evS hq0 rfl rfl) (evS hq3 rfl rfl) (evS hq5 rfl rfl))) (c_Subtract F N s wd hF hN) ?_
  rintro _ W131 ⟨rfl, hT133⟩
  have hS132 := hSd.call hT133
  exact ⟨rfl, hS132⟩
 ·exact fun S wd hSd => ⟨True.intro, True.intro, True.intro, True.intro, True.intro, True.intro, True.intro, True.intro⟩
 intro _ W135 hS136
 refine sqUE (st_stores (v := elV (fRed F N s)) (cs' := (elA (fRed F N s))) 1 hS136 rfl rfl rfl ag49 rfl (Nat.le_of_ble_eq_true rfl) (ones_of rfl) rfl) fun W137 hS138 => ?_
 show C _ _ _ _ _ _
 refine C_ret ?_
 refine done_1 (v := elV (fRed F N s)) rfl (res_row rfl (hS138.at 1 rfl) ag49 rfl) ?_
 exact ⟨by rw [MInv.done hF ha g2 hM hN], hS138.none⟩
theorem c_mSquare (F : PrF) (a : Nat) (w0 : World) (g0 : FOk F) (g1 : a < F.p) : Calls Tryz.prog 180 #[fdV F, elV a] w0 (Ret fun uu w' => uu = elV (fMul F a a) ∧ St [] w0 w' [] []) := by
 have hF := g0
 refine calls_of Tryz.func180 rfl Tryz.ntmps180 (Nat.le_of_ble_eq_true rfl) ?_
 have hS0 := St.nil w0
 refine C_sr ?_
 refine sqE (st_box (v := fdV F) (cs := (fdA F)) hS0 rfl rfl) fun b1 W2 hS3 => ?_
 refine sqE (st_box (v := elV a) (cs := (elA a)) hS3 rfl rfl) fun b4 W5 hS6 => ?_
 refine sqE (st_alloc hS6 ze49) fun b7 W8 hS9 => ?_
 show C _ _ _ _ _ _
 refine C_sr ?_
 refine sqv (ex_loads (vs := (fdC F)) rfl (hS9.at 2 rfl) ag117 rfl rfl) ?_
 refine sqv (ex_loads (vs := (el a)) rfl (hS9.at 1 rfl) ag49 rfl rfl) ?_
 refine sqv (ex_loads (vs := (el a)) rfl (hS9.at 1 rfl) ag49 rfl rfl) ?_
 refine sqc (exe_call (args := #[fdV F, elV a, elV a]) en116 (args_of3 rfl rfl rfl)) (c_mMul F a a W8 hF (by assumption) (by first | assumption | exact lt_of_p hF (by assumption))) ?_
 rintro _ W10 ⟨rfl, hT12⟩
 have hS11 := hS9.call hT12
 refine sqUE (st_stores (v := elV (fMul F a a)) (cs' := (elA (fMul F a a))) 0 hS11 rfl rfl rfl ag49 rfl (Nat.le_of_ble_eq_true rfl) (ones_of rfl) rfl) fun W14 hS15 => ?_
 show C _ _ _ _ _ _
 refine C_ret ?_
 refine done_1 (v := elV (fMul F a a)) rfl (res_row rfl (hS15.at 0 rfl) ag49 rfl) ?_
 exact ⟨by subst_vars; rfl, hS15.none⟩
theorem c_mTo (F : PrF) (a : Nat) (w0 : World) (g0 : FOk F) (g1 : a < F.p) : Calls Tryz.prog 82 #[fdV F, elV a] w0 (Ret fun uu w' => uu = elV (fMul F a F.sq) ∧ St [] w0 w' [] []) := by
 have hF := g0
 refine calls_of Tryz.func82 rfl Tryz.ntmps82 (Nat.le_of_ble_eq_true rfl) ?_
 have hS0 := St.nil w0
 refine C_sr ?_
 refine sqE (st_box (v := fdV F) (cs := (fdA F)) hS0 rfl rfl) fun b1 W2 hS3 => ?_
 refine sqE (st_box (v := elV a) (cs := (elA a)) hS3 rfl rfl) fun b4 W5 hS6 => ?_
 refine sqE (st_alloc hS6 ze49) fun b7 W8 hS9 => ?_
 show C _ _ _ _ _ _
 refine C_sr ?_
 refine sqv (ex_loads (vs := (fdC F)) rfl (hS9.at 2 rfl) ag117 rfl rfl) ?_
 refine sqv (ex_loads (vs := (el a)) rfl (hS9.at 1 rfl) ag40 rfl rfl) ?_
 refine sqv (ex_field (o' := 10) rfl fi117_4 rfl) ?_
 refine sqv (ex_loads (vs := (el (F.sq))) rfl (hS9.at 2 rfl) ag40 rfl rfl) ?_
 refine sqc (exe_call (args := #[fdV F, elV a, elV F.sq]) en116 (args_of3 rfl rfl rfl)) (c_mMul F a F.sq W8 hF (by assumption) (lt_of_p hF (f_sq_lt hF))) ?_
 rintro _ W10 ⟨rfl, hT12⟩
 have hS11 := hS9.call hT12
 refine sqUE (st_stores (v := elV (fMul F a F.sq)) (cs' := (elA (fMul F a F.sq))) 0 hS11 rfl rfl rfl ag49 rfl (Nat.le_of_ble_eq_true rfl) (ones_of rfl) rfl) fun W14 hS15 => ?_
 show C _ _ _ _ _ _
 refine C_ret ?_
 refine done_1 (v := elV (fMul F a F.sq)) rfl (res_row rfl (hS15.at 0 rfl) ag49 rfl) ?_
 exact ⟨by subst_vars; rfl, hS15.none⟩
theorem c_mNeg (F : PrF) (a : Nat) (w0 : World) (g0 : FOk F) (g1 : a < F.p) : Calls Tryz.prog 144 #[fdV F, elV a] w0 (Ret fun uu w' => uu = elV (fSub F 0 a) ∧ St [] w0 w' [] []) := by
 have hF := g0
 refine calls_of Tryz.func144 rfl Tryz.ntmps144 (Nat.le_of_ble_eq_true rfl) ?_
 have hS0 := St.nil w0
 refine C_sr ?_
 refine sqE (st_box (v := fdV F) (cs := (fdA F)) hS0 rfl rfl) fun b1 W2 hS3 => ?_
 refine sqE (st_box (v := elV a) (cs := (elA a)) hS3 rfl rfl) fun b4 W5 hS6 => ?_
 refine sqE (st_alloc hS6 ze49) fun b7 W8 hS9 => ?_
 show C _ _ _ _ _ _
 refine C_sr ?_
 refine sqv (ex_loads (vs := (fdC F)) rfl (hS9.at 2 rfl) ag117 rfl rfl) ?_
 refine sqv (ex_build (vs := []) (cells := #[.int .u64 0, .int .u64 0, .int .u64 0, .int .u64 0]) rfl (by kernel_rfl)) ?_
 refine sqv (ex_loads (vs := (el a)) rfl (hS9.at 1 rfl) ag49 rfl rfl) ?_
 refine sqc (exe_call (args := #[fdV F, .agg #[.int .u64 0, .int .u64 0, .int .u64 0, .int .u64 0], elV a]) en141 (args_of3 rfl rfl rfl)) (c_mSub F 0 a W8 hF (Nat.lt_of_le_of_lt (Nat.zero_le _) g1) (by assumption)) ?_
 rintro _ W10 ⟨rfl, hT12⟩
 have hS11 := hS9.call hT12
 refine sqUE (st_stores (v := elV (fSub F 0 a)) (cs' := (elA (fSub F 0 a))) 0 hS11 rfl rfl rfl ag49 rfl (Nat.le_of_ble_eq_true rfl) (ones_of rfl) rfl) fun W14 hS15 => ?_
 show C _ _ _ _ _ _
 refine C_ret ?_
 refine done_1 (v := elV (fSub F 0 a)) rfl (res_row rfl (hS15.at 0 rfl) ag49 rfl) ?_
 exact ⟨by subst_vars; rfl, hS15.none⟩
theorem c_mtChoose (t : Bool) (a : Nat) (b : Nat) (w0 : World)  : Calls Tryz.prog 163 #[.int .u64 (mk t), elV a, elV b] w0 (Ret fun uu w' => uu = elV (chN t a b) ∧ St [] w0 w' [] []) := by
 refine calls_of Tryz.func163 rfl Tryz.ntmps163 (Nat.le_of_ble_eq_true rfl) ?_
 have hS0 := St.nil w0
 refine C_sr ?_
 refine sqE (st_box (v := elV a) (cs := (elA a)) hS0 rfl rfl) fun b1 W2 hS3 => ?_
 refine sqE (st_box (v := elV b) (cs := (elA b)) hS3 rfl rfl) fun b4 W5 hS6 => ?_
 refine sqE (st_alloc hS6 ze49) fun b7 W8 hS9 => ?_
 show C _ _ _ _ _ _
 refine C_sr ?_
 refine sqv (ex_move (v := .int .u64 (mk t)) rfl) ?_
 refine sqv (ex_loads (vs := (el a)) rfl (hS9.at 2 rfl) ag49 rfl rfl) ?_
 refine sqv (ex_loads (vs := (el b)) rfl (hS9.at 1 rfl) ag49 rfl rfl) ?_
 refine sqc (exe_call (args := #[.int .u64 (mk t), elV a, elV b]) en159 (args_of3 rfl rfl rfl)) (c_lChoose t a b W8) ?_
 rintro _ W10 ⟨rfl, hT12⟩
 have hS11 := hS9.call hT12
 refine sqUE (st_stores (v := elV (chN t a b)) (cs' := (elA (chN t a b))) 0 hS11 rfl rfl rfl ag49 rfl (Nat.le_of_ble_eq_true rfl) (ones_of rfl) rfl) fun W14 hS15 => ?_
 show C _ _ _ _ _ _
 refine C_ret ?_
 refine done_1 (v := elV (chN t a b)) rfl (res_row rfl (hS15.at 0 rfl) ag49 rfl) ?_
 exact ⟨by subst_vars; rfl, hS15.none⟩
end Go.Proofs
end
section
set_option linter.unusedVariables false
set_option linter.unusedSimpArgs false
set_option maxRecDepth 20000
set_option maxHeartbeats 2000000
namespace Go.Proofs
open Sc
theorem ag108 : aggOf Tryz.prog 108 = some 3 := by kernel_rfl
theorem ar155 : arrOf Tryz.prog 155 = some (64, 3) := by kernel_rfl
theorem en64 : enters Tryz.prog 64 = true := by kernel_rfl
theorem fi106_0 : fieldOf Tryz.prog 106 0 = some 0 := by kernel_rfl
theorem fi106_1 : fieldOf Tryz.prog 106 1 = some 1 := by kernel_rfl
theorem on104 : oneOf Tryz.prog 104 = true := by kernel_rfl
theorem on154 : oneOf Tryz.prog 154 = true := by kernel_rfl
theorem on3 : oneOf Tryz.prog 3 = true := by kernel_rfl
theorem pt58 : ptrOf Tryz.prog 58 = true := by kernel_rfl
theorem sl104 : sliceOf Tryz.prog 104 = some (154, 1, 8) := by kernel_rfl
theorem ze154 : zeroOf Tryz.prog 154 = some #[.pointer none] := by kernel_rfl
theorem zl155 : zeroOf Tryz.prog 155 = some ((List.replicate 64 (⟨0, 0, 0⟩ : Ev)).flatMap cE).toArray := by kernel_rfl
abbrev Tp := Sc.Tape 106 154 155
theorem c_add (t : Value) (e : Ev) (ev : List Ev) (Lt : List Ent) (w0 : World) (hT : Tp t ev Lt) (ht : t ≠ .pointer none) (hb : ev.length < 1099511627776) (hL0 : St (bks Lt) w0 w0 Lt []) : Calls Tryz.prog 64 #[t, .agg #[.int .i64 e.kind, .int .i64 e.a, .int .i64 e.b]] w0 (Ret fun v w' => v = .tuple #[] ∧ ∃ (Lt' : List Ent), Tp t (ev ++ [e]) Lt' ∧ St (bks Lt) w0 w' Lt' []) := by
 rcases hT with ⟨rfl, _⟩ | ⟨bt, sl, x, rows, rfl, rfl, hO, h64, hev, h1, h2⟩
 ·exact absurd rfl ht
 generalize hX : bks _ = X at *
 replace hL0 : St X w0 w0 ([some (bt, .cells #[sl, .int .i64 (ev.length : Int)] 106), x] ++ rows.map (rE 155)) [] := hL0
 refine calls_of Tryz.func64 rfl Tryz.ntmps64 (Nat.le_of_ble_eq_true rfl) ?_
 have hS0 := hL0
 refine C_sr ?_
 refine sqE (st_box (v := .agg #[.int .i64 e.kind, .int .i64 e.a, .int .i64 e.b]) (cs := #[.int .i64 e.kind, .int .i64 e.a, .int .i64 e.b]) hS0 rfl rfl) fun b1 W2 hS3 => ?_
 show C _ _ _ _ _ _
 refine C_seq ?_
 refine C_sr ?_
 refine sqv (ex_move (v := pt bt) rfl) ?_
 refine sqv (ex_nilCheck (a := ⟨bt, 0, none⟩) rfl) ?_
 refine sqv (ex_field (o' := 1) rfl fi106_1 rfl) ?_
 refine sqv (ex_load (v := .int .i64 (ev.length : Int)) rfl (hS3.at 1 rfl) on3 rfl) ?_
 refine nm ((ev.length : Int) % 64) fun x4 hx4 => ?_
 refine sqv (ex_rem (x := (ev.length : Int)) (y := 64) rfl rfl (by omega) (hx4.trans (Int.tmod_eq_emod_of_nonneg (by omega)).symm)) ?_
 refine sqv (ex_cmp (x := x4) (y := 0) (r := decide (x4 = 0)) rfl rfl rfl) ?_
 show C _ _ _ _ _ _
 refine C_mid (fun aa ww => ∃ (m0 : Nat → Value) (sl : Value) (x : Ent) (rows : List (Nat × List Ev)), aa = act 46 (upds m0 [(0, pt bt), (3, pt b1)]) [] ∧ St X w0 ww ([some (b1, .cells #[.int .i64 e.kind, .int .i64 e.a, .int .i64 e.b] 108), some (bt, .cells #[sl, .int .i64 (ev.length : Int)] 106), x] ++ (rows.map (rE 155))) [] ∧ (Own 154 1 cP sl (rows.map (·.1)) x) ∧ (∀ r ∈ rows, r.2.length = 64) ∧ (ev = (rows.flatMap (·.2)).take ev.length) ∧ (ev.length < 64 * rows.length) ∧ (64 * rows.length ≤ ev.length + 64)) ?_ ?_
 ·refine C_dec (x4 = 0) rfl (fun hc10 => ?_) (fun hc10 => ?_)
  ·refine C_region ?_
   refine sqv (ex_move (v := pt bt) rfl) ?_
   refine sqv (ex_move (v := pt bt) rfl) ?_
   refine sqv (ex_nilCheck (a := ⟨bt, 0, none⟩) rfl) ?_
   refine sqv (ex_field (o' := 0) rfl fi106_0 rfl) ?_
   refine sqv (ex_load (v := sl) rfl (hS3.at 1 rfl) on104 rfl) ?_
   refine sqE (st_alloc hS3 zl155) fun b11 W12 hS13 => ?_
   refine sqE (st_bslice (vs := [pt b11]) hS13 sl104 ze154 rfl (by simp [Value.cells]) rfl (by decide)) fun b14 W15 hS16 => ?_
   refine sqA (st_appendM (f := cP) (k := 1) (xs := rows.map (·.1)) (ys := [b11]) (fun _ => rfl) (fun _ => ones_of rfl) (by decide) 4 hS16 (hO) ((sl_row (f := cP) (k := 1) (t := 154) (b := b14) (n := 1) (cs := #[pt b11]) (ys := [b11]) (fun _ => rfl) rfl (Nat.le_of_ble_eq_true rfl) rfl)) (hS16.entH 0 rfl) rfl rfl rfl sl104 ze154 rfl (by simp only [List.length_map, List.length_cons, List.length_nil, maxLen]; omega) (by simp only [List.length_map, List.length_cons, List.length_nil, maxLen]; omega)) fun u17 en18 W19 ⟨hS20, ho21⟩ => ?_
   refine sqv (ex_nilCheck (a := ⟨bt, 0, none⟩) rfl) ?_
   refine sqv (ex_field (o' := 0) rfl fi106_0 rfl) ?_
   refine sqUE (st_store (v := u17) (cs' := #[u17, .int .i64 (ev.length : Int)]) 3 hS20 rfl rfl rfl on104 (own_1 ho21).1 (Nat.le_of_ble_eq_true rfl) (own_1 ho21).2 rfl) fun W22 hS23 => ?_
   have hS24 : St X w0 W22 ([some (b1, .cells #[.int .i64 e.kind, .int .i64 e.a, .int .i64 e.b] 108), some (bt, .cells #[u17, .int .i64 (ev.length : Int)] 106), en18] ++ (rows ++ [(b11, List.replicate 64 (⟨0, 0, 0⟩ : Ev))]).map (rE 155)) [] := (St.last (Lf := [some (b1, .cells #[.int .i64 e.kind, .int .i64 e.a, .int .i64 e.b] 108), some (bt, .cells #[u17, .int .i64 (ev.length : Int)] 106), en18]) (St.pickB (Lf := [some (b14, .cells #[pt b11] 154), some (b11, .cells ((List.replicate 64 (⟨0, 0, 0⟩ : Ev)).flatMap cE).toArray 155), some (b1, .cells #[.int .i64 e.kind, .int .i64 e.a, .int .i64 e.b] 108), some (bt, .cells #[u17, .int .i64 (ev.length : Int)] 106), en18]) hS23 [1, 2, 3, 4] (by decide) rfl)).to (by rw [List.map_append]; rfl)
   exact ⟨_, u17, en18, (rows ++ [(b11, List.replicate 64 (⟨0, 0, 0⟩ : Ev))]), act_upds ⟨rfl, rfl, trivial⟩, (St.pickB (Lf := [some (b1, .cells #[.int .i64 e.kind, .int .i64 e.a, .int .i64 e.b] 108), some (bt, .cells #[u17, .int .i64 (ev.length : Int)] 106), en18]) hS24 [0, 1, 2] (by decide) rfl), (by rw [List.map_append]; exact ho21), (fun r hr => (List.mem_append.1 hr).elim (h64 r) (fun hr => by simp at hr; subst hr; simp)), (app_take _ hev h64 (by omega)), (by simp; omega), (by simp; omega)⟩
  refine C_skip ?_
  exact ⟨_, sl, x, rows, act_upds ⟨rfl, rfl, trivial⟩, (St.pickB (Lf := [some (b1, .cells #[.int .i64 e.kind, .int .i64 e.a, .int .i64 e.b] 108), some (bt, .cells #[sl, .int .i64 (ev.length : Int)] 106), x]) hS3 [0, 1, 2] (by decide) rfl), hO, h64, hev, (by omega), (by omega)⟩
 rintro a9 W6 ⟨m5, sl, x, rows, rfl, hS7, hO, h64, hev, h1, h2⟩
 show C _ _ _ _ _ _
 refine C_seq ?_
 refine nm ((ev.length : Int) / 64) fun x25 hx25 => ?_
 obtain ⟨j26, hj27⟩ := ex_nat x25 (by omega)
 obtain ⟨y28, hy29⟩ := get_lt (rows.map (·.1)) j26 (by first | omega | (simp only [List.length_set, List.length_replicate, List.length_append, List.length_take, List.length_drop, List.length_cons, List.length_nil, List.length_map]; omega))
 obtain ⟨b30, o31, hI32, hC33⟩ := sl_at (f := cP) (k := 1) (fun _ => rfl) (by decide) ((hO).slF) hy29
 refine nm ((ev.length : Int) % 64) fun x34 hx34 => ?_
 obtain ⟨j35, hj36⟩ := ex_nat x34 (by omega)
 refine C_draw (p := 20) (l := [(some 20, pt bt), (some 21, pt bt), (some 22, pt bt), (some 23, sl), (some 24, pt bt), (some 25, pt bt), (some 26, .pointer (some ⟨bt, 1, none⟩)), (some 27, .int .i64 (ev.length : Int)), (some 28, .int .i64 x25), (some 29, .pointer (some ⟨b30, o31, none⟩)), (some 30, pt y28), (some 31, pt bt), (some 32, pt bt), (some 33, .pointer (some ⟨bt, 1, none⟩)), (some 34, .int .i64 (ev.length : Int)), (some 35, .int .i64 x34), (some 36, .agg #[.int .i64 e.kind, .int .i64 e.a, .int .i64 e.b]), (some 37, pt y28), (some 38, .pointer (some ⟨y28, j35 * 3, none⟩)), (none, undef)]) (G := [19]) (J := fun w => St X w0 w ([some (b1, .cells #[.int .i64 e.kind, .int .i64 e.a, .int .i64 e.b] 108), some (bt, .cells #[sl, .int .i64 (ev.length : Int)] 106), x] ++ (rows.map (rE 155))) []) mixed ?_ (hS7.draw _)
 refine node1 20 [19] [] [] (by kernel_rfl) rfl rfl (nd rfl) rfl (by kernel_rfl) ?_ ?_ ?_
 ·intro S wd hSd
  refine ⟨n0 rfl rfl rfl (ex_move (v := pt bt) rfl) rfl hSd, n1 rfl rfl rfl rfl (fun hq0 => (ex_nilCheck (a := ⟨bt, 0, none⟩) (evS hq0 rfl rfl))) rfl hSd, n1 rfl rfl rfl rfl (fun hq1 => (ex_field (o' := 0) (evS hq1 rfl rfl) fi106_0 rfl)) rfl hSd, n1 rfl rfl rfl rfl (fun hq2 => (ex_load (v := sl) (evS hq2 rfl rfl) (hSd.at 1 rfl) on104 rfl)) rfl hSd, n0 rfl rfl rfl (ex_move (v := pt bt) rfl) rfl hSd, n1 rfl rfl rfl rfl (fun hq4 => (ex_nilCheck (a := ⟨bt, 0, none⟩) (evS hq4 rfl rfl))) rfl hSd, n1 rfl rfl rfl rfl (fun hq5 => (ex_field (o' := 1) (evS hq5 rfl rfl) fi106_1 rfl)) rfl hSd, n1 rfl rfl rfl rfl (fun hq6 => (ex_load (v := .int .i64 (ev.length : Int)) (evS hq6 rfl rfl) (hSd.at 1 rfl) on3 rfl)) rfl hSd, n1 rfl rfl rfl rfl (fun hq7 => (ex_quo (x := (ev.length : Int)) (y := 64) (evS hq7 rfl rfl) rfl (by omega) (w64q (hx25.trans (Int.tdiv_eq_ediv_of_nonneg (by omega)).symm) (by rw [Int.tdiv_eq_ediv_of_nonneg (by omega)]; omega)))) rfl hSd, n2 rfl rfl rfl rfl (fun hq3 hq8 => (ex_sindexO hI32 (evS hq3 rfl rfl) (evS hq8 rfl rfl) sl104 (by omega))) rfl hSd, n1 rfl rfl rfl rfl (fun hq9 => (ex_loadC (r := 0) (u := pt y28) hC33 (hSd.entH 2 rfl) (evS hq9 rfl rfl) on154 rfl rfl)) rfl hSd, n0 rfl rfl rfl (ex_move (v := pt bt) rfl) rfl hSd, n1 rfl rfl rfl rfl (fun hq11 => (ex_nilCheck (a := ⟨bt, 0, none⟩) (evS hq11 rfl rfl))) rfl hSd, n1 rfl rfl rfl rfl (fun hq12 => (ex_field (o' := 1) (evS hq12 rfl rfl) fi106_1 rfl)) rfl hSd, n1 rfl rfl rfl rfl (fun hq13 => (ex_load (v := .int .i64 (ev.length : Int)) (evS hq13 rfl rfl) (hSd.at 1 rfl) on3 rfl)) rfl hSd, n1 rfl rfl rfl rfl (fun hq14 => (ex_rem (x := (ev.length : Int)) (y := 64) (evS hq14 rfl rfl) rfl (by omega) (hx34.trans (Int.tmod_eq_emod_of_nonneg (by omega)).symm))) rfl hSd, n0 rfl rfl rfl (ex_loads (vs := [.int .i64 e.kind, .int .i64 e.a, .int .i64 e.b]) rfl (hSd.at 0 rfl) ag108 rfl rfl) rfl hSd, n1 rfl rfl rfl rfl (fun hq10 => (ex_nilCheck (a := ⟨y28, 0, none⟩) (evS hq10 rfl rfl))) rfl hSd, ?_, sG rfl, tt⟩
  refine needG rfl ?_
  rintro ⟨hq17, hq15, hq0, hq1, hq2, hq3, hq4, hq5, hq6, hq7, hq8, hq9, hq10, hq11, hq12, hq13, hq14, hq15, hq16, _⟩ hno
  exact dx (wanted_none rfl) rfl (ex_index (j := x34) (o' := j35 * 3) (evS hq17 rfl rfl) (evS hq15 rfl rfl) ar155 (by omega) (by omega) (by omega)) ⟨rfl, hSd⟩
 ·intro S wd hSd
  refine ⟨tt, tt, tt, tt, tt, tt, tt, tt, tt, tt, tt, tt, tt, tt, tt, tt, tt, tt, tt, ?_, tt⟩
  refine needH rfl ?_
  rintro ⟨hq18, hq16, hq0, hq1, hq2, hq3, hq4, hq5, hq6, hq7, hq8, hq9, hq10, hq11, hq12, hq13, hq14, hq15, hq16, _⟩ hno
  obtain ⟨es39, hr40⟩ := map_get hy29
  have hes39 := h64 _ (List.mem_of_getElem? hr40)
  simp only at hes39
  refine dxU (wanted_none rfl) rfl (st_storesRow (e := e) hr40 (by omega) hSd (evS hq18 rfl rfl) (evS hq16 rfl rfl) ag108 rfl) fun W37 hS38 => ?_
  refine ⟨fun w => St X w0 w ([some (b1, .cells #[.int .i64 e.kind, .int .i64 e.a, .int .i64 e.b] 108), some (bt, .cells #[sl, .int .i64 (ev.length : Int)] 106), x] ++ ((rows.set j26 (y28, es39.set j35 e)).map (rE 155))) [], [(some 20, pt bt), (some 21, pt bt), (some 22, pt bt), (some 23, sl), (some 24, pt bt), (some 25, pt bt), (some 26, .pointer (some ⟨bt, 1, none⟩)), (some 27, .int .i64 (ev.length : Int)), (some 28, .int .i64 x25), (some 29, .pointer (some ⟨b30, o31, none⟩)), (some 30, pt y28), (some 31, pt bt), (some 32, pt bt), (some 33, .pointer (some ⟨bt, 1, none⟩)), (some 34, .int .i64 (ev.length : Int)), (some 35, .int .i64 x34), (some 36, .agg #[.int .i64 e.kind, .int .i64 e.a, .int .i64 e.b]), (some 37, pt y28), (some 38, .pointer (some ⟨y28, j35 * 3, none⟩)), (none, undef)], [], hS38, by kernel_rfl, ⟨rfl, rfl, rfl, rfl, rfl, rfl, rfl, rfl, rfl, rfl, rfl, rfl, rfl, rfl, rfl, rfl, rfl, rfl, rfl, rfl, rfl, rfl, rfl, rfl, rfl, rfl, rfl, rfl, rfl, rfl, rfl, rfl, rfl, rfl, rfl, rfl, rfl, rfl, rfl, True.intro, True.intro⟩, rfl, ?_⟩
  show Sc.Node _ _ _ _ _ _ _ 20 [(some 20, pt bt), (some 21, pt bt), (some 22, pt bt), (some 23, sl), (some 24, pt bt), (some 25, pt bt), (some 26, .pointer (some ⟨bt, 1, none⟩)), (some 27, .int .i64 (ev.length : Int)), (some 28, .int .i64 x25), (some 29, .pointer (some ⟨b30, o31, none⟩)), (some 30, pt y28), (some 31, pt bt), (some 32, pt bt), (some 33, .pointer (some ⟨bt, 1, none⟩)), (some 34, .int .i64 (ev.length : Int)), (some 35, .int .i64 x34), (some 36, .agg #[.int .i64 e.kind, .int .i64 e.a, .int .i64 e.b]), (some 37, pt y28), (some 38, .pointer (some ⟨y28, j35 * 3, none⟩)), (none, undef)] [] [19] _
  refine node1 20 [] [19] [] (by kernel_rfl) rfl rfl (nd rfl) rfl (by kernel_rfl) ?_ ?_ ?_
  ·intro S wd hSd
   refine ⟨n0 rfl rfl rfl (ex_move (v := pt bt) rfl) rfl hSd, n1 rfl rfl rfl rfl (fun hq0 => (ex_nilCheck (a := ⟨bt, 0, none⟩) (evS hq0 rfl rfl))) rfl hSd, n1 rfl rfl rfl rfl (fun hq1 => (ex_field (o' := 0) (evS hq1 rfl rfl) fi106_0 rfl)) rfl hSd, n1 rfl rfl rfl rfl (fun hq2 => (ex_load (v := sl) (evS hq2 rfl rfl) (hSd.at 1 rfl) on104 rfl)) rfl hSd, n0 rfl rfl rfl (ex_move (v := pt bt) rfl) rfl hSd, n1 rfl rfl rfl rfl (fun hq4 => (ex_nilCheck (a := ⟨bt, 0, none⟩) (evS hq4 rfl rfl))) rfl hSd, n1 rfl rfl rfl rfl (fun hq5 => (ex_field (o' := 1) (evS hq5 rfl rfl) fi106_1 rfl)) rfl hSd, n1 rfl rfl rfl rfl (fun hq6 => (ex_load (v := .int .i64 (ev.length : Int)) (evS hq6 rfl rfl) (hSd.at 1 rfl) on3 rfl)) rfl hSd, n1 rfl rfl rfl rfl (fun hq7 => (ex_quo (x := (ev.length : Int)) (y := 64) (evS hq7 rfl rfl) rfl (by omega) (w64q (hx25.trans (Int.tdiv_eq_ediv_of_nonneg (by omega)).symm) (by rw [Int.tdiv_eq_ediv_of_nonneg (by omega)]; omega)))) rfl hSd, n2 rfl rfl rfl rfl (fun hq3 hq8 => (ex_sindexO hI32 (evS hq3 rfl rfl) (evS hq8 rfl rfl) sl104 (by omega))) rfl hSd, n1 rfl rfl rfl rfl (fun hq9 => (ex_loadC (r := 0) (u := pt y28) hC33 (hSd.entH 2 rfl) (evS hq9 rfl rfl) on154 rfl rfl)) rfl hSd, n0 rfl rfl rfl (ex_move (v := pt bt) rfl) rfl hSd, n1 rfl rfl rfl rfl (fun hq11 => (ex_nilCheck (a := ⟨bt, 0, none⟩) (evS hq11 rfl rfl))) rfl hSd, n1 rfl rfl rfl rfl (fun hq12 => (ex_field (o' := 1) (evS hq12 rfl rfl) fi106_1 rfl)) rfl hSd, n1 rfl rfl rfl rfl (fun hq13 => (ex_load (v := .int .i64 (ev.length : Int)) (evS hq13 rfl rfl) (hSd.at 1 rfl) on3 rfl)) rfl hSd, n1 rfl rfl rfl rfl (fun hq14 => (ex_rem (x := (ev.length : Int)) (y := 64) (evS hq14 rfl rfl) rfl (by omega) (hx34.trans (Int.tmod_eq_emod_of_nonneg (by omega)).symm))) rfl hSd, n0 rfl rfl rfl (ex_loads (vs := [.int .i64 e.kind, .int .i64 e.a, .int .i64 e.b]) rfl (hSd.at 0 rfl) ag108 rfl rfl) rfl hSd, n1 rfl rfl rfl rfl (fun hq10 => (ex_nilCheck (a := ⟨y28, 0, none⟩) (evS hq10 rfl rfl))) rfl hSd, ?_, sG rfl, tt⟩
   refine needG rfl ?_
   rintro ⟨hq17, hq15, hq0, hq1, hq2, hq3, hq4, hq5, hq6, hq7, hq8, hq9, hq10, hq11, hq12, hq13, hq14, hq15, hq16, _⟩ hno
   exact dx (wanted_none rfl) rfl (ex_index (j := x34) (o' := j35 * 3) (evS hq17 rfl rfl) (evS hq15 rfl rfl) ar155 (by omega) (by omega) (by omega)) ⟨rfl, hSd⟩
  ·exact fun S wd hSd => ⟨True.intro, True.intro, True.intro, True.intro, True.intro, True.intro, True.intro, True.intro, True.intro, True.intro, True.intro, True.intro, True.intro, True.intro, True.intro, True.intro, True.intro, True.intro, True.intro, True.intro, True.intro⟩
  intro _ W41 hS42
  show C _ _ _ _ _ _
  refine C_region ?_
  refine sqv (ex_move (v := pt bt) rfl) ?_
  refine sqv (ex_nilCheck (a := ⟨bt, 0, none⟩) rfl) ?_
  refine sqv (ex_field (o' := 1) rfl fi106_1 rfl) ?_
  refine sqv (ex_load (v := .int .i64 (ev.length : Int)) rfl (hS42.at 1 rfl) on3 rfl) ?_
  refine nm ((ev.length : Int) + 1) fun x43 hx43 => ?_
  refine sqv (ex_add (x := (ev.length : Int)) (y := 1) rfl rfl (w64 hx43 (by omega))) ?_
  refine sqv (ex_nilCheck (a := ⟨bt, 0, none⟩) rfl) ?_
  refine sqv (ex_field (o' := 1) rfl fi106_1 rfl) ?_
  refine sqUE (st_store (v := .int .i64 x43) (cs' := #[sl, .int .i64 x43]) 1 hS42 rfl rfl rfl on3 rfl (Nat.le_of_ble_eq_true rfl) rfl rfl) fun W44 hS45 => ?_
  refine done_0n  rfl  ?_
  have hj' : j26 = ev.length / 64 := by omega
  have hi' : j35 = ev.length % 64 := by omega
  subst hi'
  have hn' : x43 = (((ev ++ [e]).length : Nat) : Int) := by rw [List.length_append, List.length_singleton]; omega
  have hS' := (St.pickB (Lf := [some (b1, .cells #[.int .i64 e.kind, .int .i64 e.a, .int .i64 e.b] 108), some (bt, .cells #[sl, .int .i64 x43] 106), x]) hS45 [1, 2] (by decide) rfl)
  rw [hn'] at hS'
  exact ⟨rfl, _, .inr ⟨bt, sl, x, _, rfl, rfl, (by rw [setRow_fst hr40]; exact hO), setRow_64 h64 hr40, tape_push e h64 hev hj' hr40 h1, (by simp; omega), (by simp; omega)⟩, hS'⟩
 exact fun h => absurd h (by decide)
theorem c_NoteN (kind a b : Int) (w0 : World) : Calls Tryz.prog 52 #[.pointer none, .int .i64 kind, .int .i64 a, .int .i64 b] w0 (Ret fun v w' => v = .tuple #[] ∧ St [] w0 w' [] []) := by
 refine calls_of Tryz.func52 rfl Tryz.ntmps52 (Nat.le_of_ble_eq_true rfl) ?_
 have hS0 := St.nil w0
 refine C_sr ?_
 refine sqv (ex_move (v := .pointer none) rfl) ?_
 refine sqv (ex_nilcmp (t := false) pt58 rfl rfl rfl) ?_
 show C _ _ _ _ _ _
 refine C_false rfl ?_
 refine C_skip ?_
 refine done_0n  rfl  ?_
 exact ⟨rfl, hS0⟩
theorem c_NoteP (kind a b : Int) (bt : Nat) (ev : List Ev) (Lt : List Ent) (w0 : World) (hb : ev.length < 1099511627776) (hT : Tp (pt bt) ev Lt) (hL0 : St (bks Lt) w0 w0 Lt []) : Calls Tryz.prog 52 #[pt bt, .int .i64 kind, .int .i64 a, .int .i64 b] w0 (Ret fun v w' => v = .tuple #[] ∧ ∃ (Lt' : List Ent), Tp (pt bt) (ev ++ [⟨kind, a, b⟩]) Lt' ∧ St (bks Lt) w0 w' Lt' []) := by
 refine calls_of Tryz.func52 rfl Tryz.ntmps52 (Nat.le_of_ble_eq_true rfl) ?_
 have hS0 := hL0
 refine C_sr ?_
 refine sqv (ex_move (v := pt bt) rfl) ?_
 refine sqv (ex_nilcmp (t := true) pt58 rfl rfl rfl) ?_
 show C _ _ _ _ _ _
 refine C_true rfl ?_
 refine C_region ?_
 refine sqv (ex_move (v := pt bt) rfl) ?_
 refine sqv (ex_move (v := .int .i64 kind) rfl) ?_
 refine sqv (ex_move (v := .int .i64 a) rfl) ?_
 refine sqv (ex_move (v := .int .i64 b) rfl) ?_
 refine sqv (ex_build (vs := [(0, .int .i64 kind), (1, .int .i64 a), (2, .int .i64 b)]) (cells := #[.int .i64 kind, .int .i64 a, .int .i64 b]) rfl (by kernel_rfl)) ?_
 refine sqc (exe_call (args := #[pt bt, .agg #[.int .i64 kind, .int .i64 a, .int .i64 b]]) en64 (args_of2 rfl rfl)) (c_add (pt bt) ⟨kind, a, b⟩ ev Lt w0 hT (by simp) hb (St.lend (Lf := []) hS0)) ?_
 rintro _ W1 ⟨rfl, Lt4, hU5, hT3⟩
 have hS2 := St.callS (Lf := []) (Ln := []) hS0 hT3
 refine done_0n  rfl  ?_
 exact ⟨rfl, _, hU5, hS2⟩
theorem c_Note (kind : Int) (a : Int) (b : Int) (t : Value) (ev : List Ev) (Lt : List Ent) (w0 : World) (g0 : ev.length < 1099511627776) (hT : Tp t ev Lt) (hL0 : St (bks Lt) w0 w0 Lt []) : Calls Tryz.prog 52 #[t, .int .i64 kind, .int .i64 a, .int .i64 b] w0 (Ret fun uu w' => ∃ (Lt' : List Ent), uu = .tuple #[] ∧ Tp t (ev ++ ([⟨kind, a, b⟩])) Lt' ∧ St (bks Lt) w0 w' ([] ++ Lt') []) := by
 rcases hT with ⟨rfl, rfl⟩ | hT
 ·refine (c_NoteN kind a b w0).mono fun e w' he => ?_
  cases e with
  | returned v => obtain ⟨h1, h2⟩ := he; exact ⟨[], h1, .inl ⟨rfl, rfl⟩, h2⟩
  | panicked => exact he
  | outgrown => exact he
 have hT' := hT
 obtain ⟨bt, sl, x, rows, rfl, _⟩ := hT
 refine (c_NoteP kind a b bt ev Lt w0 g0 (.inr hT') hL0).mono fun e w' he => ?_
 cases e with
 | returned v => obtain ⟨h1, Lt', h2, h3⟩ := he; exact ⟨Lt', h1, h2, h3⟩
 | panicked => exact he
 | outgrown => exact he
end Go.Proofs
end
section
set_option linter.unusedVariables false
set_option linter.unusedSimpArgs false
set_option maxRecDepth 20000
set_option maxHeartbeats 2000000
namespace Go.Proofs
open Sc
theorem en167 : enters Tryz.prog 167 = true := by kernel_rfl
theorem en176 : enters Tryz.prog 176 = true := by kernel_rfl
theorem on44 : oneOf Tryz.prog 44 = true := by kernel_rfl
theorem sl44 : sliceOf Tryz.prog 44 = some (49, 4, 32) := by kernel_rfl
theorem it_Backward (Z0 : List Fact) (b : Nat) (v : Value) (xs : List Nat) (hb : (b, .cells #[v] 44) ∈ Z0) (hs : Sl Z0 49 4 v (xs.flatMap el)) : Iter Tryz.prog Z0 (.func (.func 167) #[] #[pt b]) (bseq xs) := by
 refine ⟨167, #[], #[pt b], rfl, en167, fun y hY1 Q Lt w0 hH hO hL hQ hY => ?_⟩
 have hC : Cells Z0 b 0 [v] := ⟨#[v], 44, (0, 0), hb, rfl⟩
 have hlen := sl_lt (f := el) (k := 4) (fun _ => rfl) (by decide) hs
 show Calls _ _ #[y, pt b] _ _
 refine calls_of Tryz.func167 rfl Tryz.ntmps167 (Nat.le_of_ble_eq_true rfl) ?_
 have hS0 := hL
 refine C_sr ?_
 refine sqv (ex_loadC (r := 0) (u := v) hC (hS0.holdsA hH hO) rfl on44 rfl rfl) ?_
 refine sqv (ex_lenO (f := el) (k := 4) (r := (xs.length : Int)) (fun _ => rfl) (by decide) (hs) rfl sl44 rfl) ?_
 refine nm ((xs.length : Int) - 1) fun x1 hx1 => ?_
 refine sqv (ex_sub (x := (xs.length : Int)) (y := 1) rfl rfl (w64 hx1 (by omega))) ?_
 refine sqv (ex_assign (v := .int .i64 x1) rfl) ?_
 show C _ _ _ _ _ _
 refine C_block ?_
 refine C_loop (fun nn aa ww => ∃ (m0 : Nat → Value) (k : Nat) (Lu : List Ent), nn = k + 1 ∧ aa = act 19 (upds m0 [(0, y), (1, pt b), (3, .int .i64 ((k : Int) - 1))]) [] ∧ St (bks Lt) w0 ww ([] ++ Lu) [] ∧ (k ≤ xs.length) ∧ (Q (xs.length - k) Lu)) (xs.length + 1) ?_ ?_
 ·exact ⟨_, xs.length, Lt, rfl, act_upds ⟨rfl, rfl, (congrArg (Value.int .i64) (by first | rfl | omega)), trivial⟩, (St.pickB (Lf := []) hS0 [] (by decide) rfl), (Nat.le_refl _), (by rw [Nat.sub_self]; exact hQ)⟩
 rintro n5 a6 W3 ⟨m2, k, Lu, rfl, rfl, hS4, hk, hQu⟩
 refine C_seq ?_
 refine C_sr ?_
 refine sqv (ex_move (v := .int .i64 ((k : Int) - 1)) rfl) ?_
 refine sqv (ex_cmp (x := ((k : Int) - 1)) (y := 0) (r := decide (0 ≤ ((k : Int) - 1))) rfl rfl rfl) ?_
 show C _ _ _ _ _ _
 refine C_dec (0 ≤ ((k : Int) - 1)) rfl (fun hc7 => ?_) (fun hc7 => ?_)
 ·refine C_skip ?_
  show C _ _ _ _ _ _
  refine C_seq ?_
  refine C_block ?_
  refine C_sr ?_
  refine sqv (ex_move (v := y) rfl) ?_
  refine sqv (ex_move (v := .int .i64 ((k : Int) - 1)) rfl) ?_
  refine sqv (ex_loadC (r := 0) (u := v) hC (hS4.holdsA hH hO) rfl on44 rfl rfl) ?_
  refine sqv (ex_move (v := .int .i64 ((k : Int) - 1)) rfl) ?_
  obtain ⟨j8, hj9⟩ := ex_nat ((k : Int) - 1) (by omega)
  obtain ⟨y10, hy11⟩ := get_lt xs j8 (by first | omega | (simp only [List.length_set, List.length_replicate, List.length_append, List.length_take, List.length_drop, List.length_cons, List.length_nil, List.length_map]; omega))
  obtain ⟨b12, o13, hI14, hC15⟩ := sl_at (f := el) (k := 4) (fun _ => rfl) (by decide) (hs) hy11
  refine sqv (ex_sindexO hI14 rfl rfl sl44 (by omega)) ?_
  refine sqv (ex_loadsC (r := 0) (vs := (el y10)) hC15 (hS4.holdsA hH hO) rfl ag49 rfl rfl rfl) ?_
  have hs21 := (by have hz := bseq_get hy11; rw [← hj9] at hz; exact hz)
  refine sqy (hY _ _ W3 Lu hs21 (by rw [show xs.length - 1 - j8 = xs.length - k from by omega]; exact hQu) (hS4.holdsA hH hO) (St.off0 (Lf := []) hS4 hH hO) (St.lend (Lf := []) hS4)) rfl (args_of2 rfl rfl) ?_
  rintro _ W16 ⟨rfl, Lt19, hQ20, hT18⟩
  have hS17 := St.callS (Lf := []) (Ln := []) hS4 hT18
  refine sqv (ex_not (t := true) rfl) ?_
  show C _ _ _ _ _ _
  refine C_false rfl ?_
  refine C_skip ?_
  refine blk_normal ?_
  show C _ _ _ _ _ _
  refine C_region ?_
  refine sqv (ex_move (v := .int .i64 ((k : Int) - 1)) rfl) ?_
  refine nm (((k : Int) - 1) - 1) fun x22 hx22 => ?_
  refine sqv (ex_sub (x := ((k : Int) - 1)) (y := 1) rfl rfl (w64 hx22 (by omega))) ?_
  refine sqv (ex_assign (v := .int .i64 x22) rfl) ?_
  exact ⟨_, (by omega), ⟨_, (k - 1), Lt19, rfl, act_upds ⟨rfl, rfl, (congrArg (Value.int .i64) (by first | rfl | omega)), trivial⟩, (St.pickB (Lf := []) hS17 [] (by decide) rfl), (by omega), (by have hz := hQ20; rw [show xs.length - (k - 1) = xs.length - 1 - j8 + 1 from by omega]; exact hz)⟩⟩
 refine C_exit ?_
 refine thn_exit ?_
 refine thn_exit ?_
 refine blk_exit ?_
 refine done_0n  rfl  ?_
 exact ⟨rfl, Lu, (by rw [bseq_len, show xs.length = xs.length - k from by omega]; exact hQu), hS4⟩
theorem it_All (Z0 : List Fact) (b : Nat) (v : Value) (xs : List Nat) (hb : (b, .cells #[v] 44) ∈ Z0) (hs : Sl Z0 49 4 v (xs.flatMap el)) : Iter Tryz.prog Z0 (.func (.func 176) #[] #[pt b]) (fseq xs) := by
 refine ⟨176, #[], #[pt b], rfl, en176, fun y hY1 Q Lt w0 hH hO hL hQ hY => ?_⟩
 have hC : Cells Z0 b 0 [v] := ⟨#[v], 44, (0, 0), hb, rfl⟩
 have hlen := sl_lt (f := el) (k := 4) (fun _ => rfl) (by decide) hs
 show Calls _ _ #[y, pt b] _ _
 refine calls_of Tryz.func176 rfl Tryz.ntmps176 (Nat.le_of_ble_eq_true rfl) ?_
 have hS0 := hL
 refine C_sr ?_
 refine sqv (ex_loadC (r := 0) (u := v) hC (hS0.holdsA hH hO) rfl on44 rfl rfl) ?_
 refine sqv (ex_lenO (f := el) (k := 4) (r := (xs.length : Int)) (fun _ => rfl) (by decide) (hs) rfl sl44 rfl) ?_
 refine sqv (ex_move (v := .int .i64 0) rfl) ?_
 show C _ _ _ _ _ _
 refine C_block ?_
 refine C_loop (fun nn aa ww => ∃ (m0 : Nat → Value) (k : Nat) (Lu : List Ent), nn = xs.length - k ∧ aa = act 18 (upds m0 [(0, y), (5, v), (6, .int .i64 (xs.length : Int)), (7, .int .i64 (k : Int))]) [] ∧ St (bks Lt) w0 ww ([] ++ Lu) [] ∧ (k ≤ xs.length) ∧ (Q k Lu)) xs.length ?_ ?_
 ·exact ⟨_, 0, Lt, rfl, act_upds ⟨rfl, rfl, (congrArg (Value.int .i64) (by first | rfl | omega)), (congrArg (Value.int .i64) (by first | rfl | omega)), trivial⟩, (St.pickB (Lf := []) hS0 [] (by decide) rfl), (Nat.zero_le _), hQ⟩
 rintro n4 a5 W2 ⟨m1, k, Lu, rfl, rfl, hS3, hk, hQu⟩
 refine C_sr ?_
 refine sqv (ex_cmp (x := (k : Int)) (y := (xs.length : Int)) (r := decide ((k : Int) < (xs.length : Int))) rfl rfl rfl) ?_
 show C _ _ _ _ _ _
 refine C_seq ?_
 refine C_dec ((k : Int) < (xs.length : Int)) rfl (fun hc6 => ?_) (fun hc6 => ?_)
 ·refine C_skip ?_
  show C _ _ _ _ _ _
  refine C_seq ?_
  refine C_block ?_
  refine C_sr ?_
  refine sqv (ex_move (v := .int .i64 (k : Int)) rfl) ?_
  obtain ⟨y7, hy8⟩ := get_lt xs k (by first | omega | (simp only [List.length_set, List.length_replicate, List.length_append, List.length_take, List.length_drop, List.length_cons, List.length_nil, List.length_map]; omega))
  obtain ⟨b9, o10, hI11, hC12⟩ := sl_at (f := el) (k := 4) (fun _ => rfl) (by decide) (hs) hy8
  refine sqv (ex_sindexO hI11 rfl rfl sl44 rfl) ?_
  refine sqv (ex_loadsC (r := 0) (vs := (el y7)) hC12 (hS3.holdsA hH hO) rfl ag49 rfl rfl rfl) ?_
  refine sqE (st_alloc hS3 ze49) fun b13 W14 hS15 => ?_
  refine sqv (ex_assign (v := .int .i64 (k : Int)) rfl) ?_
  refine sqUE (st_stores (v := elV y7) (cs' := (elA y7)) 0 hS15 rfl rfl rfl ag49 rfl (Nat.le_of_ble_eq_true rfl) (ones_of rfl) rfl) fun W16 hS17 => ?_
  show C _ _ _ _ _ _
  refine C_sr ?_
  refine sqv (ex_move (v := y) rfl) ?_
  refine sqv (ex_move (v := .int .i64 (k : Int)) rfl) ?_
  refine sqv (ex_loads (vs := (el y7)) rfl (hS17.at 0 rfl) ag49 rfl rfl) ?_
  have hs23 := fseq_get hy8
  refine sqy (hY _ _ W16 Lu hs23 hQu (hS17.holdsA hH hO) (St.off0 (Lf := [some (b13, .cells (elA y7) 49)]) hS17 hH hO) (St.lend (Lf := [some (b13, .cells (elA y7) 49)]) hS17)) rfl (args_of2 rfl rfl) ?_
  rintro _ W18 ⟨rfl, Lt21, hQ22, hT20⟩
  have hS19 := St.callS (Lf := [some (b13, .cells (elA y7) 49)]) (Ln := []) hS17 hT20
  refine sqv (ex_not (t := true) rfl) ?_
  show C _ _ _ _ _ _
  refine C_false rfl ?_
  refine C_skip ?_
  refine blk_normal ?_
  show C _ _ _ _ _ _
  refine C_region ?_
  refine nm ((k : Int) + 1) fun x24 hx24 => ?_
  refine sqv (ex_add (x := (k : Int)) (y := 1) rfl rfl (w64 hx24 (by omega))) ?_
  refine sqv (ex_move (v := .int .i64 x24) rfl) ?_
  exact ⟨_, (by omega), ⟨_, (k + 1), Lt21, rfl, act_upds ⟨rfl, rfl, (congrArg (Value.int .i64) (by first | rfl | omega)), (congrArg (Value.int .i64) (by first | rfl | omega)), trivial⟩, (St.pickB (Lf := [some (b13, .cells (elA y7) 49)]) hS19 [] (by decide) rfl), (by omega), hQ22⟩⟩
 refine C_exit ?_
 refine thn_exit ?_
 refine thn_exit ?_
 refine blk_exit ?_
 refine done_0n  rfl  ?_
 exact ⟨rfl, Lu, (by rw [fseq_len, show xs.length = k from by omega]; exact hQu), hS3⟩
end Go.Proofs
end
section
set_option linter.unusedVariables false
set_option linter.unusedSimpArgs false
set_option maxRecDepth 20000
set_option maxHeartbeats 2000000
namespace Go.Proofs
open Sc
theorem en166 : enters Tryz.prog 166 = true := by kernel_rfl
theorem en175 : enters Tryz.prog 175 = true := by kernel_rfl
theorem en52 : enters Tryz.prog 52 = true := by kernel_rfl
theorem on192 : oneOf Tryz.prog 192 = true := by kernel_rfl
theorem on211 : oneOf Tryz.prog 211 = true := by kernel_rfl
theorem on58 : oneOf Tryz.prog 58 = true := by kernel_rfl
theorem it_pvisit (Z0 : List Fact) (t g : Value) (seq : List (Array Value)) (idx : Nat → Nat) (bl bq : Nat) (hbl : (bl, .cells #[g] 192) ∈ Z0) (hbq : (bq, .cells #[t] 58) ∈ Z0) (hform : ∀ j args, seq[j]? = some args → ∃ x, args = #[.int .i64 ((idx j : Nat) : Int), elV x]) (hIt : Iter Tryz.prog Z0 g seq) : IterT Tryz.prog Tp Z0 t (.func (.func 175) #[] #[pt bl, pt bq]) seq (ievs idx) := by
 refine ⟨175, #[], #[pt bl, pt bq], rfl, en175, fun y hY1 Q Lt Lu ev w0 hH hO hL hT hB hQ hY => ?_⟩
 obtain ⟨f, first, cap, rfl, hf, hI⟩ := hIt
 have hCl : Cells Z0 bl 0 [.func (.func f) first cap] := ⟨_, 192, (0, 0), hbl, rfl⟩
 have hCt : Cells Z0 bq 0 [t] := ⟨_, 58, (0, 0), hbq, rfl⟩
 show Calls _ _ #[y, pt bl, pt bq] _ _
 refine callsM_of Tryz.func175 rfl Tryz.ntmps175 (Nat.le_of_ble_eq_true rfl) ?_
 have hS0 : St (bks (Lt ++ Lu)) w0 w0 (([] ++ Lt) ++ Lu) [] := hL
 refine C_sr ?_
 refine sqE (st_box (v := y) (cs := #[y]) hS0 rfl hY1.1) fun b1 W2 hS3 => ?_
 show C _ _ _ _ _ _
 refine C_sr ?_
 refine sqv (ex_loadC (r := 0) (u := .func (.func f) first cap) hCl (hS3.holdsA hH hO) rfl on192 rfl rfl) ?_
 show C _ _ _ _ _ _
 refine C_block ?_
 refine C_range hS3 rfl hf (fun fn4 r5 l6 W7 hS8 => ?_)
 generalize hrc10 : rcd _ _ _ _ _ _ _ _ = rc10 at hS8
 refine Calls.mono (hI (yv l6) ⟨rfl, rfl⟩ (fun jj LL => ∃ (Lt2 Lu2 : List Ent), LL = (([some (l6, .loop rc10), some (r5, .deferred (some [])), some (b1, .cells #[y] 211)] ++ Lt2) ++ Lu2) ∧ (Q jj Lt2) ∧ (Tp t (ev ++ ievs idx jj) Lu2)) (([some (l6, .loop rc10), some (r5, .deferred (some [])), some (b1, .cells #[y] 211)] ++ Lt) ++ Lu) W7 (hS8.holdsA hH hO) (St.off0 (Lf := []) hS8 hH hO) (St.lend (Lf := []) hS8) ⟨Lt, Lu, rfl, hQ, (by rw [ievs_0, List.append_nil]; exact hT)⟩ ?_) ?_
 ·rintro jj _ W11 _ hs15 ⟨Lt2, Lu2, rfl, hQ2, hT2⟩ hH12 hO13 hS14
  have hjj := lt_of_get hs15
  obtain ⟨x, rfl⟩ := hform jj _ hs15
  refine yok2 (i := 0) (ds := []) hS14 rfl (by rw [← hrc10]; rfl) (by rw [← hrc10]; rfl) ?_
  rw [show rc10.assign = _ from by rw [← hrc10], show rc10.body = _ from by rw [← hrc10]]
  refine C_sr ?_
  refine sqv (ex_assign (v := .int .i64 ((idx jj : Nat) : Int)) rfl) ?_
  show C _ _ _ _ _ _
  refine C_region ?_
  refine sqE (st_alloc hS14 ze49) fun b16 W17 hS18 => ?_
  refine sqUE (st_stores (v := elV x) (cs' := (elA x)) 0 hS18 rfl rfl rfl ag49 rfl (Nat.le_of_ble_eq_true rfl) (ones_of rfl) rfl) fun W19 hS20 => ?_
  show Exists _
  obtain ⟨W21, hb23, hS22⟩ := begin_ok (P := Tryz.prog) 1 hS20 rfl (by rw [← hrc10]; rfl)
  refine ⟨W21, hb23, ?_⟩
  show C _ _ _ _ _ _
  refine C_block ?_
  refine C_sr ?_
  refine sqv (ex_loadC (r := 0) (u := t) hCt (hS22.holdsA hH12 hO13) rfl on58 rfl rfl) ?_
  refine sqv (ex_move (v := .int .i64 ((idx jj : Nat) : Int)) rfl) ?_
  refine sqc (exe_call (args := #[t, .int .i64 2, .int .i64 ((idx jj : Nat) : Int), .int .i64 0]) en52 (args_of4 rfl rfl rfl rfl)) (c_Note 2 ((idx jj : Nat) : Int) 0 t (ev ++ ievs idx jj) Lu2 W21 (by rw [List.length_append, ievs_len]; omega) hT2 (St.lend (Lf := ([some (b16, .cells (elA x) 49), some (l6, .loop (busy rc10)), some (r5, .deferred (some [])), some (b1, .cells #[y] 211)] ++ Lt2)) hS22)) ?_
  rintro _ W24 ⟨Lt28, rfl, hU29, hT26⟩
  have hS25 := St.callS (Lf := ([some (b16, .cells (elA x) 49), some (l6, .loop (busy rc10)), some (r5, .deferred (some [])), some (b1, .cells #[y] 211)] ++ Lt2)) (Ln := []) hS22 hT26
  show C _ _ _ _ _ _
  refine C_sr ?_
  refine sqv (ex_load (v := y) rfl (hS25.at 3 rfl) on211 rfl) ?_
  refine sqv (ex_move (v := .int .i64 ((idx jj : Nat) : Int)) rfl) ?_
  refine sqv (ex_loads (vs := (el x)) rfl (hS25.at 0 rfl) ag49 rfl rfl) ?_
  have hS35 := St.assoc (St.swap (St.unassoc (A := [some (b16, .cells (elA x) 49), some (l6, .loop (busy rc10)), some (r5, .deferred (some [])), some (b1, .cells #[y] 211)]) (B := Lt2) (C := Lt28) hS25))
  refine sqy (hY jj _ W24 Lt2 hs15 hQ2 (hS25.holdsA hH12 hO13) (St.off0 (Lf := ([some (b16, .cells (elA x) 49), some (l6, .loop (busy rc10)), some (r5, .deferred (some [])), some (b1, .cells #[y] 211)] ++ Lt28)) hS35 hH12 hO13) (St.lend (Lf := ([some (b16, .cells (elA x) 49), some (l6, .loop (busy rc10)), some (r5, .deferred (some [])), some (b1, .cells #[y] 211)] ++ Lt28)) hS35)) rfl (args_of2 rfl rfl) ?_
  rintro _ W30 ⟨rfl, Lt33, hQ34, hT32⟩
  have hS31 := St.assoc (St.swap (St.unassoc (A := [some (b16, .cells (elA x) 49), some (l6, .loop (busy rc10)), some (r5, .deferred (some [])), some (b1, .cells #[y] 211)]) (B := Lt28) (C := Lt33) (St.callS (Lf := ([some (b16, .cells (elA x) 49), some (l6, .loop (busy rc10)), some (r5, .deferred (some [])), some (b1, .cells #[y] 211)] ++ Lt28)) (Ln := []) hS35 hT32)))
  refine sqv (ex_not (t := true) rfl) ?_
  show C _ _ _ _ _ _
  refine C_false rfl ?_
  refine C_skip ?_
  refine blk_normal ?_
  refine round_end 1 hS31 rfl fun W36 hS37 => ?_
  have hrest : rest rc10 = rc10 := by rw [← hrc10]; rfl
  have hrb : rest (busy rc10) = rc10 := by rw [← hrc10]; rfl
  rw [hrb] at hS37
  exact ⟨rfl, _, ⟨Lt33, Lt28, rfl, hQ34, (by rw [ievs_succ, ← List.append_assoc]; exact hU29)⟩, (St.assoc (St.pickB (Lf := [some (b16, .cells (elA x) 49), some (l6, .loop rc10), some (r5, .deferred (some [])), some (b1, .cells #[y] 211)]) (Lt := Lt33 ++ Lt28) (St.unassoc hS37) [1, 2, 3] (by decide) rfl))⟩
 intro e42 W40 he
 cases e42 with
 | panicked => exact he.elim
 | outgrown => exact he.elim
 | returned v =>
   obtain ⟨rfl, _, ⟨Lt2, Lu2, rfl, hQ2, hT2⟩, hT39⟩ := he
   have hS41 : St (bks (Lt ++ Lu)) w0 W40 (([some (l6, .loop rc10), some (r5, .deferred (some [])), some (b1, .cells #[y] 211)] ++ Lt2) ++ Lu2) [] := St.callS (Lf := []) (Lt := (([some (l6, .loop rc10), some (r5, .deferred (some [])), some (b1, .cells #[y] 211)] ++ Lt) ++ Lu)) (Lt' := (([some (l6, .loop rc10), some (r5, .deferred (some [])), some (b1, .cells #[y] 211)] ++ Lt2) ++ Lu2)) (Ln := []) hS8 hT39
   refine ⟨rc10, hS41.at 0 rfl, by rw [← hrc10]; rfl, by rw [← hrc10]; rfl, ?_⟩
   have hS45 := hS41.obj 0 (.loop { rc10 with state := .exhausted }) rfl
   change St _ _ (World.putObj W40 l6 (.loop { rc10 with state := .exhausted })) _ _ at hS45
   generalize World.putObj W40 l6 (.loop { rc10 with state := .exhausted }) = W44 at *
   refine blk_normal ?_
   refine doneM_0 (rs := [r5]) (.inl rfl) rfl rfl ?_
   refine take1 1 hS45 rfl fun W46 hS47 => ?_
   exact ⟨rfl, Lt2, Lu2, hQ2, hT2, St.pickB (Lf := [some (l6, .loop { rc10 with state := .exhausted }), some (r5, .deferred none), some (b1, .cells #[y] 211)]) (Lt := Lt2 ++ Lu2) (St.unassoc hS47) [] (by decide) rfl⟩
theorem it_qvisit (Z0 : List Fact) (t g : Value) (seq : List (Array Value)) (idx : Nat → Nat) (bl bq : Nat) (hbl : (bl, .cells #[g] 192) ∈ Z0) (hbq : (bq, .cells #[t] 58) ∈ Z0) (hform : ∀ j args, seq[j]? = some args → ∃ x, args = #[.int .i64 ((idx j : Nat) : Int), elV x]) (hIt : Iter Tryz.prog Z0 g seq) : IterT Tryz.prog Tp Z0 t (.func (.func 166) #[] #[pt bl, pt bq]) seq (ievs idx) := by
 refine ⟨166, #[], #[pt bl, pt bq], rfl, en166, fun y hY1 Q Lt Lu ev w0 hH hO hL hT hB hQ hY => ?_⟩
 obtain ⟨f, first, cap, rfl, hf, hI⟩ := hIt
 have hCl : Cells Z0 bl 0 [.func (.func f) first cap] := ⟨_, 192, (0, 0), hbl, rfl⟩
 have hCt : Cells Z0 bq 0 [t] := ⟨_, 58, (0, 0), hbq, rfl⟩
 show Calls _ _ #[y, pt bl, pt bq] _ _
 refine callsM_of Tryz.func166 rfl Tryz.ntmps166 (Nat.le_of_ble_eq_true rfl) ?_
 have hS0 : St (bks (Lt ++ Lu)) w0 w0 (([] ++ Lt) ++ Lu) [] := hL
 refine C_sr ?_
 refine sqE (st_box (v := y) (cs := #[y]) hS0 rfl hY1.1) fun b1 W2 hS3 => ?_
 show C _ _ _ _ _ _
 refine C_sr ?_
 refine sqv (ex_loadC (r := 0) (u := .func (.func f) first cap) hCl (hS3.holdsA hH hO) rfl on192 rfl rfl) ?_
 show C _ _ _ _ _ _
 refine C_block ?_
 refine C_range hS3 rfl hf (fun fn4 r5 l6 W7 hS8 => ?_)
 generalize hrc10 : rcd _ _ _ _ _ _ _ _ = rc10 at hS8
 refine Calls.mono (hI (yv l6) ⟨rfl, rfl⟩ (fun jj LL => ∃ (Lt2 Lu2 : List Ent), LL = (([some (l6, .loop rc10), some (r5, .deferred (some [])), some (b1, .cells #[y] 211)] ++ Lt2) ++ Lu2) ∧ (Q jj Lt2) ∧ (Tp t (ev ++ ievs idx jj) Lu2)) (([some (l6, .loop rc10), some (r5, .deferred (some [])), some (b1, .cells #[y] 211)] ++ Lt) ++ Lu) W7 (hS8.holdsA hH hO) (St.off0 (Lf := []) hS8 hH hO) (St.lend (Lf := []) hS8) ⟨Lt, Lu, rfl, hQ, (by rw [ievs_0, List.append_nil]; exact hT)⟩ ?_) ?_
 ·rintro jj _ W11 _ hs15 ⟨Lt2, Lu2, rfl, hQ2, hT2⟩ hH12 hO13 hS14
  have hjj := lt_of_get hs15
  obtain ⟨x, rfl⟩ := hform jj _ hs15
  refine yok2 (i := 0) (ds := []) hS14 rfl (by rw [← hrc10]; rfl) (by rw [← hrc10]; rfl) ?_
  rw [show rc10.assign = _ from by rw [← hrc10], show rc10.body = _ from by rw [← hrc10]]
  refine C_sr ?_
  refine sqv (ex_assign (v := .int .i64 ((idx jj : Nat) : Int)) rfl) ?_
  show C _ _ _ _ _ _
  refine C_region ?_
  refine sqE (st_alloc hS14 ze49) fun b16 W17 hS18 => ?_
  refine sqUE (st_stores (v := elV x) (cs' := (elA x)) 0 hS18 rfl rfl rfl ag49 rfl (Nat.le_of_ble_eq_true rfl) (ones_of rfl) rfl) fun W19 hS20 => ?_
  show Exists _
  obtain ⟨W21, hb23, hS22⟩ := begin_ok (P := Tryz.prog) 1 hS20 rfl (by rw [← hrc10]; rfl)
  refine ⟨W21, hb23, ?_⟩
  show C _ _ _ _ _ _
  refine C_block ?_
  refine C_sr ?_
  refine sqv (ex_loadC (r := 0) (u := t) hCt (hS22.holdsA hH12 hO13) rfl on58 rfl rfl) ?_
  refine sqv (ex_move (v := .int .i64 ((idx jj : Nat) : Int)) rfl) ?_
  refine sqc (exe_call (args := #[t, .int .i64 2, .int .i64 ((idx jj : Nat) : Int), .int .i64 0]) en52 (args_of4 rfl rfl rfl rfl)) (c_Note 2 ((idx jj : Nat) : Int) 0 t (ev ++ ievs idx jj) Lu2 W21 (by rw [List.length_append, ievs_len]; omega) hT2 (St.lend (Lf := ([some (b16, .cells (elA x) 49), some (l6, .loop (busy rc10)), some (r5, .deferred (some [])), some (b1, .cells #[y] 211)] ++ Lt2)) hS22)) ?_
  rintro _ W24 ⟨Lt28, rfl, hU29, hT26⟩
  have hS25 := St.callS (Lf := ([some (b16, .cells (elA x) 49), some (l6, .loop (busy rc10)), some (r5, .deferred (some [])), some (b1, .cells #[y] 211)] ++ Lt2)) (Ln := []) hS22 hT26
  show C _ _ _ _ _ _
  refine C_sr ?_
  refine sqv (ex_load (v := y) rfl (hS25.at 3 rfl) on211 rfl) ?_
  refine sqv (ex_move (v := .int .i64 ((idx jj : Nat) : Int)) rfl) ?_
  refine sqv (ex_loads (vs := (el x)) rfl (hS25.at 0 rfl) ag49 rfl rfl) ?_
  have hS35 := St.assoc (St.swap (St.unassoc (A := [some (b16, .cells (elA x) 49), some (l6, .loop (busy rc10)), some (r5, .deferred (some [])), some (b1, .cells #[y] 211)]) (B := Lt2) (C := Lt28) hS25))
  refine sqy (hY jj _ W24 Lt2 hs15 hQ2 (hS25.holdsA hH12 hO13) (St.off0 (Lf := ([some (b16, .cells (elA x) 49), some (l6, .loop (busy rc10)), some (r5, .deferred (some [])), some (b1, .cells #[y] 211)] ++ Lt28)) hS35 hH12 hO13) (St.lend (Lf := ([some (b16, .cells (elA x) 49), some (l6, .loop (busy rc10)), some (r5, .deferred (some [])), some (b1, .cells #[y] 211)] ++ Lt28)) hS35)) rfl (args_of2 rfl rfl) ?_
  rintro _ W30 ⟨rfl, Lt33, hQ34, hT32⟩
  have hS31 := St.assoc (St.swap (St.unassoc (A := [some (b16, .cells (elA x) 49), some (l6, .loop (busy rc10)), some (r5, .deferred (some [])), some (b1, .cells #[y] 211)]) (B := Lt28) (C := Lt33) (St.callS (Lf := ([some (b16, .cells (elA x) 49), some (l6, .loop (busy rc10)), some (r5, .deferred (some [])), some (b1, .cells #[y] 211)] ++ Lt28)) (Ln := []) hS35 hT32)))
  refine sqv (ex_not (t := true) rfl) ?_
  show C _ _ _ _ _ _
  refine C_false rfl ?_
  refine C_skip ?_
  refine blk_normal ?_
  refine round_end 1 hS31 rfl fun W36 hS37 => ?_
  have hrest : rest rc10 = rc10 := by rw [← hrc10]; rfl
  have hrb : rest (busy rc10) = rc10 := by rw [← hrc10]; rfl
  rw [hrb] at hS37
  exact ⟨rfl, _, ⟨Lt33, Lt28, rfl, hQ34, (by rw [ievs_succ, ← List.append_assoc]; exact hU29)⟩, (St.assoc (St.pickB (Lf := [some (b16, .cells (elA x) 49), some (l6, .loop rc10), some (r5, .deferred (some [])), some (b1, .cells #[y] 211)]) (Lt := Lt33 ++ Lt28) (St.unassoc hS37) [1, 2, 3] (by decide) rfl))⟩
 intro e42 W40 he
 cases e42 with
 | panicked => exact he.elim
 | outgrown => exact he.elim
 | returned v =>
   obtain ⟨rfl, _, ⟨Lt2, Lu2, rfl, hQ2, hT2⟩, hT39⟩ := he
   have hS41 : St (bks (Lt ++ Lu)) w0 W40 (([some (l6, .loop rc10), some (r5, .deferred (some [])), some (b1, .cells #[y] 211)] ++ Lt2) ++ Lu2) [] := St.callS (Lf := []) (Lt := (([some (l6, .loop rc10), some (r5, .deferred (some [])), some (b1, .cells #[y] 211)] ++ Lt) ++ Lu)) (Lt' := (([some (l6, .loop rc10), some (r5, .deferred (some [])), some (b1, .cells #[y] 211)] ++ Lt2) ++ Lu2)) (Ln := []) hS8 hT39
   refine ⟨rc10, hS41.at 0 rfl, by rw [← hrc10]; rfl, by rw [← hrc10]; rfl, ?_⟩
   have hS45 := hS41.obj 0 (.loop { rc10 with state := .exhausted }) rfl
   change St _ _ (World.putObj W40 l6 (.loop { rc10 with state := .exhausted })) _ _ at hS45
   generalize World.putObj W40 l6 (.loop { rc10 with state := .exhausted }) = W44 at *
   refine blk_normal ?_
   refine doneM_0 (rs := [r5]) (.inl rfl) rfl rfl ?_
   refine take1 1 hS45 rfl fun W46 hS47 => ?_
   exact ⟨rfl, Lt2, Lu2, hQ2, hT2, St.pickB (Lf := [some (l6, .loop { rc10 with state := .exhausted }), some (r5, .deferred none), some (b1, .cells #[y] 211)]) (Lt := Lt2 ++ Lu2) (St.unassoc hS47) [] (by decide) rfl⟩
end Go.Proofs
end
section
set_option linter.unusedVariables false
set_option linter.unusedSimpArgs false
set_option maxRecDepth 20000
set_option maxHeartbeats 2000000
namespace Go.Proofs
open Sc
theorem en117 : enters Tryz.prog 117 = true := by kernel_rfl
theorem en145 : enters Tryz.prog 145 = true := by kernel_rfl
theorem en146 : enters Tryz.prog 146 = true := by kernel_rfl
theorem ze44 : zeroOf Tryz.prog 44 = some #[.slice none 0 0] := by kernel_rfl
theorem c_Backward (v : Value) (w0 : World) (g0 : Y1 v) : Calls Tryz.prog 146 #[v] w0 (Ret fun uu w' => ∃ (b : Nat), uu = .func (.func 167) #[] #[pt b] ∧ St [] w0 w' [] [(b, .cells #[v] 44)]) := by
 refine calls_of Tryz.func146 rfl Tryz.ntmps146 (Nat.le_of_ble_eq_true rfl) ?_
 have hS0 := St.nil w0
 refine C_sr ?_
 refine sqE (st_box (v := v) (cs := #[v]) hS0 rfl g0.1) fun b1 W2 hS3 => ?_
 refine sqv (ex_assign (v := .nilFunc) rfl) ?_
 show C _ _ _ _ _ _
 refine C_sr ?_
 refine sqv (ex_func (a := #[]) (b := #[pt b1]) args_of0 (args_of1 rfl)) ?_
 refine sqv (ex_assign (v := .func (.func 167) #[] #[pt b1]) rfl) ?_
 show C _ _ _ _ _ _
 refine C_ret ?_
 refine done_1 (v := .func (.func 167) #[] #[pt b1]) rfl rfl ?_
 have hZ0 := St.shut 0 hS3 rfl
 exact ⟨b1, rfl, hZ0.none⟩
theorem c_All (v : Value) (w0 : World) (g0 : Y1 v) : Calls Tryz.prog 162 #[v] w0 (Ret fun uu w' => ∃ (b : Nat), uu = .func (.func 176) #[] #[pt b] ∧ St [] w0 w' [] [(b, .cells #[v] 44)]) := by
 refine calls_of Tryz.func162 rfl Tryz.ntmps162 (Nat.le_of_ble_eq_true rfl) ?_
 have hS0 := St.nil w0
 refine C_sr ?_
 refine sqE (st_box (v := v) (cs := #[v]) hS0 rfl g0.1) fun b1 W2 hS3 => ?_
 refine sqv (ex_assign (v := .nilFunc) rfl) ?_
 show C _ _ _ _ _ _
 refine C_sr ?_
 refine sqv (ex_func (a := #[]) (b := #[pt b1]) args_of0 (args_of1 rfl)) ?_
 refine sqv (ex_assign (v := .func (.func 176) #[] #[pt b1]) rfl) ?_
 show C _ _ _ _ _ _
 refine C_ret ?_
 refine done_1 (v := .func (.func 176) #[] #[pt b1]) rfl rfl ?_
 have hZ0 := St.shut 0 hS3 rfl
 exact ⟨b1, rfl, hZ0.none⟩
theorem c_pvisit (t : Value) (l : Value) (w0 : World) (g0 : Y1 t) (g1 : Y1 l) : Calls Tryz.prog 161 #[t, l] w0 (Ret fun uu w' => ∃ (bq : Nat), ∃ (bl : Nat), uu = .func (.func 175) #[] #[pt bl, pt bq] ∧ St [] w0 w' [] [(bq, .cells #[t] 58), (bl, .cells #[l] 192)]) := by
 refine calls_of Tryz.func161 rfl Tryz.ntmps161 (Nat.le_of_ble_eq_true rfl) ?_
 have hS0 := St.nil w0
 refine C_sr ?_
 refine sqE (st_box (v := t) (cs := #[t]) hS0 rfl g0.1) fun b1 W2 hS3 => ?_
 refine sqE (st_box (v := l) (cs := #[l]) hS3 rfl g1.1) fun b4 W5 hS6 => ?_
 refine sqv (ex_assign (v := .nilFunc) rfl) ?_
 show C _ _ _ _ _ _
 refine C_sr ?_
 refine sqv (ex_func (a := #[]) (b := #[pt b4, pt b1]) args_of0 (args_of2 rfl rfl)) ?_
 refine sqv (ex_assign (v := .func (.func 175) #[] #[pt b4, pt b1]) rfl) ?_
 show C _ _ _ _ _ _
 refine C_ret ?_
 refine done_1 (v := .func (.func 175) #[] #[pt b4, pt b1]) rfl rfl ?_
 have hZ0 := St.shut 0 hS6 rfl
 have hZ1 := St.shut 1 hZ0 rfl
 exact ⟨b1, b4, rfl, hZ1.none⟩
theorem c_qvisit (t : Value) (l : Value) (w0 : World) (g0 : Y1 t) (g1 : Y1 l) : Calls Tryz.prog 145 #[t, l] w0 (Ret fun uu w' => ∃ (bq : Nat), ∃ (bl : Nat), uu = .func (.func 166) #[] #[pt bl, pt bq] ∧ St [] w0 w' [] [(bq, .cells #[t] 58), (bl, .cells #[l] 192)]) := by
 refine calls_of Tryz.func145 rfl Tryz.ntmps145 (Nat.le_of_ble_eq_true rfl) ?_
 have hS0 := St.nil w0
 refine C_sr ?_
 refine sqE (st_box (v := t) (cs := #[t]) hS0 rfl g0.1) fun b1 W2 hS3 => ?_
 refine sqE (st_box (v := l) (cs := #[l]) hS3 rfl g1.1) fun b4 W5 hS6 => ?_
 refine sqv (ex_assign (v := .nilFunc) rfl) ?_
 show C _ _ _ _ _ _
 refine C_sr ?_
 refine sqv (ex_func (a := #[]) (b := #[pt b4, pt b1]) args_of0 (args_of2 rfl rfl)) ?_
 refine sqv (ex_assign (v := .func (.func 166) #[] #[pt b4, pt b1]) rfl) ?_
 show C _ _ _ _ _ _
 refine C_ret ?_
 refine done_1 (v := .func (.func 166) #[] #[pt b4, pt b1]) rfl rfl ?_
 have hZ0 := St.shut 0 hS6 rfl
 have hZ1 := St.shut 1 hZ0 rfl
 exact ⟨b1, b4, rfl, hZ1.none⟩
theorem quo_r {F : PrF} {x r : Nat} {cs : List Nat} {jj i y : Nat} (hij : i + jj + 1 = cs.length) (hy : cs[i]? = some y) (hr : r = horn F x (cs.drop (cs.length - jj))) : fAdd F (fMul F r x) y = horn F x (cs.drop (cs.length - (jj + 1))) := by
 rw [show cs.length - (jj + 1) = i from by omega, drop_get hy, hr, show cs.length - jj = i + 1 from by omega]; rfl
theorem quo_keep {F : PrF} {x : Nat} {cs q : List Nat} {jj i y : Nat} (hq : ∀ i, cs.length - jj ≤ i + 1 → i + 1 < cs.length → q[i]? = some (horn F x (cs.drop (i + 1)))) (hij : i + jj + 1 = cs.length) (hy : cs[i]? = some y) (h0 : i = 0) : ∀ i, cs.length - (jj + 1) ≤ i + 1 → i + 1 < cs.length → q[i]? = some (horn F x (cs.drop (i + 1))) :=
  fun k h1 h2 => hq k (by omega) h2
theorem quo_set {F : PrF} {x r : Nat} {cs q : List Nat} {jj i y j : Nat} (hq : ∀ i, cs.length - jj ≤ i + 1 → i + 1 < cs.length → q[i]? = some (horn F x (cs.drop (i + 1)))) (hql : q.length = cs.length - 1) (hij : i + jj + 1 = cs.length) (hy : cs[i]? = some y) (hr : r = horn F x (cs.drop (cs.length - jj))) (hj : j + 1 = i) :
    ∀ k, cs.length - (jj + 1) ≤ k + 1 → k + 1 < cs.length → (q.set j (fAdd F (fMul F r x) y))[k]? = some (horn F x (cs.drop (k + 1))) := by
 intro k h1 h2
 rw [List.getElem?_set]
 by_cases hk : j = k
 ·subst hk
  rw [if_pos rfl, if_pos (by omega), quo_r hij hy hr, show cs.length - (jj + 1) = j + 1 from by omega]
 rw [if_neg hk]; exact hq k (by omega) h2
theorem c_Quotient (F : PrF) (x : Nat) (c : Value) (cs : List Nat) (Z0 : List Fact) (t : Value) (ev : List Ev) (Lt : List Ent) (w0 : World) (g0 : FOk F) (g1 : ∀ y ∈ cs, y < F.p) (g2 : x < F.p) (g3 : ev.length + cs.length < 1099511627776) (hZ0 : Holds w0 Z0) (hO0 : Off (bks Lt) Z0) (hs_c : Sl Z0 49 4 c (cs.flatMap el)) (hT : Tp t ev Lt) (hL0 : St (bks Lt) w0 w0 Lt []) : Calls Tryz.prog 115 #[t, fdV F, c, elV x] w0 (Ret fun uu w' => ∃ (v : Value), ∃ (en : Ent), ∃ (Lt' : List Ent), uu = .tuple #[v, elV (horn F x cs)] ∧ (Own 49 4 el v (quoT F x (cs).tail) en) ∧ Tp t (ev ++ (ievs (fun i => (cs).length - 1 - i) (cs).length)) Lt' ∧ St (bks Lt) w0 w' ([en] ++ Lt') []) := by
 have hF := g0
 have hlen := sl_lt (f := el) (k := 4) (fun _ => rfl) (by decide) hs_c
 refine callsM_of Tryz.func115 rfl Tryz.ntmps115 (Nat.le_of_ble_eq_true rfl) ?_
 have hS0 := hL0
 refine C_sr ?_
 refine sqE (st_box (v := fdV F) (cs := (fdA F)) hS0 rfl rfl) fun b1 W2 hS3 => ?_
 refine sqE (st_box (v := elV x) (cs := (elA x)) hS3 rfl rfl) fun b4 W5 hS6 => ?_
 refine sqv (ex_assign (v := .slice none 0 0) rfl) ?_
 refine sqE (st_alloc hS6 ze49) fun b7 W8 hS9 => ?_
 show C _ _ _ _ _ _
 refine C_sr ?_
 refine sqv (ex_move (v := c) rfl) ?_
 refine sqv (ex_lenO (f := el) (k := 4) (r := (cs.length : Int)) (fun _ => rfl) (by decide) (hs_c) rfl sl44 rfl) ?_
 refine nm ((cs.length : Int) - 1) fun x10 hx10 => ?_
 refine sqv (ex_sub (x := (cs.length : Int)) (y := 1) rfl rfl (w64 hx10 (by omega))) ?_
 refine nm (if x10 < 0 then 0 else x10) fun x11 hx11 => ?_
 refine sqv (ex_max (a := x10) (b := 0) rfl rfl hx11) ?_
 obtain ⟨j15, hj16⟩ := ex_nat x11 (by omega)
 refine sqE (st_makeM (f := el) (k := 4) 0 j15 hS9 sl44 ze49 (by rfl) rfl (by decide) rfl rfl (by omega) (by omega) (by omega)) fun b12 W13 hS14 => ?_
 refine sqE (st_alloc hS14 ze44) fun b17 W18 hS19 => ?_
 refine sqUE (st_store (v := .slice (so b12) j15 j15) (cs' := #[.slice (so b12) j15 j15]) 0 hS19 rfl rfl rfl on44 rfl (Nat.le_of_ble_eq_true rfl) rfl rfl) fun W20 hS21 => ?_
 show C _ _ _ _ _ _
 refine C_sr ?_
 refine sqE (st_alloc hS21 ze49) fun b22 W23 hS24 => ?_
 show C _ _ _ _ _ _
 refine C_seq ?_
 refine C_sr ?_
 refine sqv (ex_move (v := t) rfl) ?_
 refine sqv (ex_move (v := c) rfl) ?_
 refine sqc (exe_call (args := #[c]) en146 (args_of1 rfl)) (c_Backward c W23 (sl_1 hs_c)) ?_
 rintro _ W25 ⟨b29, rfl, hT27⟩
 have hS26 := hS24.call hT27
 refine sqc (exe_call (args := #[t, .func (.func 167) #[] #[pt b29]]) en145 (args_of2 rfl rfl)) (c_qvisit t (.func (.func 167) #[] #[pt b29]) W25 (tape_1 hT) ⟨rfl, rfl⟩) ?_
 rintro _ W30 ⟨bq34, bl35, rfl, hT32⟩
 have hS31 := hS26.call hT32
 have hIt := it_qvisit (([(bq34, .cells #[t] 58), (bl35, .cells #[(.func (.func 167) #[] #[pt b29])] 192)] ++ [(b29, .cells #[c] 44)]) ++ Z0) t _ (bseq cs) (fun i => cs.length - 1 - i) bl35 bq34 (by simp) (by simp) (fun j args h => by obtain ⟨i, y, h1, h2, rfl⟩ := bseq_inv h; exact ⟨y, by rw [show i = cs.length - 1 - j from by omega]⟩) (it_Backward (([(bq34, .cells #[t] 58), (bl35, .cells #[(.func (.func 167) #[] #[pt b29])] 192)] ++ [(b29, .cells #[c] 44)]) ++ Z0) b29 c cs (by simp) ((hs_c).mono fun _ hp => List.mem_append_right _ hp))
 obtain ⟨f36, fi37, ca38, hg39, hf40, hI41⟩ := hIt
 cases hg39
 simp only [bseq_len] at hI41
 show C _ _ _ _ _ _
 refine C_block ?_
 refine C_range hS31 rfl hf40 (fun fn42 r43 l44 W45 hS46 => ?_)
 generalize hrc48 : rcd _ _ _ _ _ _ _ _ = rc48 at hS46
 refine Calls.mono (hI41 (yv l44) ⟨rfl, rfl⟩ (fun jj LL => ∃ (r : Nat) (q : List Nat), LL = [some (l44, .loop rc48), some (r43, .deferred (some [])), some (b22, .cells (elA r) 49), some (b17, .cells #[.slice (so b12) j15 j15] 44), some (b12, .cells (q.flatMap el).toArray 49), some (b7, .cells #[.int .u64 0, .int .u64 0, .int .u64 0, .int .u64 0] 49), some (b4, .cells (elA x) 49), some (b1, .cells (fdA F) 117)] ∧ (r = horn F x (cs.drop (cs.length - jj))) ∧ (r < F.p) ∧ (q.length = cs.length - 1) ∧ (∀ i, cs.length - jj ≤ i + 1 → i + 1 < cs.length → q[i]? = some (horn F x (cs.drop (i + 1))))) [some (l44, .loop rc48), some (r43, .deferred (some [])), some (b22, .cells #[.int .u64 0, .int .u64 0, .int .u64 0, .int .u64 0] 49), some (b17, .cells #[.slice (so b12) j15 j15] 44), some (b12, .cells ((List.replicate j15 0).flatMap el).toArray 49), some (b7, .cells #[.int .u64 0, .int .u64 0, .int .u64 0, .int .u64 0] 49), some (b4, .cells (elA x) 49), some (b1, .cells (fdA F) 117)] Lt ev W45 (Holds.app hS46.holdsZ (hS46.holdsA hZ0 hO0)) (Off.app (St.offZ (Lf := []) hS46) (St.off0 (Lf := []) hS46 hZ0 hO0)) (St.lend (Lf := []) hS46) hT (by omega) ⟨0, (List.replicate j15 0), rfl, (by rw [Nat.sub_zero, List.drop_length]; rfl), (p_pos g0), (by rw [List.length_replicate]; omega), (fun i h1 h2 => absurd h2 (by omega))⟩ ?_) ?_
 ·rintro jj _ W49 _ hs53 ⟨r, q, rfl, hr, hrp, hql, hq⟩ hH50 hO51 hS52
  obtain ⟨i, y, hij, hy, rfl⟩ := bseq_inv hs53
  have hyp := g1 y (List.mem_of_getElem? hy)
  refine yok2 (i := 0) (ds := []) hS52 rfl (by rw [← hrc48]; rfl) (by rw [← hrc48]; rfl) ?_
  rw [show rc48.assign = _ from by rw [← hrc48], show rc48.body = _ from by rw [← hrc48]]
  refine C_sr ?_
  refine sqv (ex_assign (v := .int .i64 (i : Int)) rfl) ?_
  show C _ _ _ _ _ _
  refine C_region ?_
  refine sqE (st_alloc hS52 ze49) fun b54 W55 hS56 => ?_
  refine sqUE (st_stores (v := elV y) (cs' := (elA y)) 0 hS56 rfl rfl rfl ag49 rfl (Nat.le_of_ble_eq_true rfl) (ones_of rfl) rfl) fun W57 hS58 => ?_
  show Exists _
  obtain ⟨W59, hb61, hS60⟩ := begin_ok (P := Tryz.prog) 1 hS58 rfl (by rw [← hrc48]; rfl)
  refine ⟨W59, hb61, ?_⟩
  show C _ _ _ _ _ _
  refine C_block ?_
  refine C_seq ?_
  refine C_draw (p := 7) (l := [(some 25, fdV F), (some 26, fdV F), (some 27, elV r), (some 28, elV x), (some 29, elV (fMul F r x)), (some 30, elV y), (some 31, elV (fAdd F (fMul F r x) y))]) (G := []) (J := fun w => St (bks [some (l44, .loop rc48), some (r43, .deferred (some [])), some (b22, .cells (elA r) 49), some (b17, .cells #[.slice (so b12) j15 j15] 44), some (b12, .cells (q.flatMap el).toArray 49), some (b7, .cells #[.int .u64 0, .int .u64 0, .int .u64 0, .int .u64 0] 49), some (b4, .cells (elA x) 49), some (b1, .cells (fdA F) 117)]) W49 w [some (b54, .cells (elA y) 49), some (l44, .loop (busy rc48)), some (r43, .deferred (some [])), some (b22, .cells (elA r) 49), some (b17, .cells #[.slice (so b12) j15 j15] 44), some (b12, .cells (q.flatMap el).toArray 49), some (b7, .cells #[.int .u64 0, .int .u64 0, .int .u64 0, .int .u64 0] 49), some (b4, .cells (elA x) 49), some (b1, .cells (fdA F) 117)] []) mixed ?_ (hS60.draw _)
  refine node1 7 [] [] [] (by kernel_rfl) rfl rfl (nd rfl) rfl (by kernel_rfl) ?_ ?_ ?_
  ·intro S wd hSd
   refine ⟨n0 rfl rfl rfl (ex_loads (vs := (fdC F)) rfl (hSd.at 8 rfl) ag117 rfl rfl) rfl hSd, n0 rfl rfl rfl (ex_loads (vs := (fdC F)) rfl (hSd.at 8 rfl) ag117 rfl rfl) rfl hSd, n0 rfl rfl rfl (ex_loads (vs := (el r)) rfl (hSd.at 3 rfl) ag49 rfl rfl) rfl hSd, n0 rfl rfl rfl (ex_loads (vs := (el x)) rfl (hSd.at 7 rfl) ag49 rfl rfl) rfl hSd, ?_, n0 rfl rfl rfl (ex_loads (vs := (el y)) rfl (hSd.at 0 rfl) ag49 rfl rfl) rfl hSd, ?_, tt⟩
   ·refine needG rfl ?_
    rintro ⟨hq1, hq2, hq3, _⟩ hno
    refine dxC (wanted_none rfl) rfl (exe_call (args := #[fdV F, elV r, elV x]) en116 (args_of3 (evS hq1 rfl rfl) (evS hq2 rfl rfl) (evS hq3 rfl rfl))) (c_mMul F r x wd hF (by assumption) (by first | assumption | exact lt_of_p hF (by assumption))) ?_
    rintro _ W62 ⟨rfl, hT64⟩
    have hS63 := hSd.call hT64
    exact ⟨rfl, hS63⟩
   refine needG rfl ?_
   rintro ⟨hq0, hq4, hq5, hq4, _⟩ hno
   refine dxC (wanted_none rfl) rfl (exe_call (args := #[fdV F, elV (fMul F r x), elV y]) en117 (args_of3 (evS hq0 rfl rfl) (evS hq4 rfl rfl) (evS hq5 rfl rfl))) (c_mAdd F (fMul F r x) y wd hF (fMul_lt hF _ _) (by assumption)) ?_
   rintro _ W66 ⟨rfl, hT68⟩
   have hS67 := hSd.call hT68
   exact ⟨rfl, hS67⟩
  ·exact fun S wd hSd => ⟨True.intro, True.intro, True.intro, True.intro, True.intro, True.intro, True.intro, True.intro⟩
  intro _ W70 hS71
  refine sqUE (st_stores (v := elV (fAdd F (fMul F r x) y)) (cs' := (elA (fAdd F (fMul F r x) y))) 3 hS71 rfl rfl rfl ag49 rfl (Nat.le_of_ble_eq_true rfl) (ones_of rfl) rfl) fun W72 hS73 => ?_
  show C _ _ _ _ _ _
  refine C_sr ?_
  refine sqv (ex_move (v := .int .i64 (i : Int)) rfl) ?_
  refine sqv (ex_cmp (x := (i : Int)) (y := 0) (r := decide (0 < (i : Int))) rfl rfl rfl) ?_
  show C _ _ _ _ _ _
  refine C_dec (0 < (i : Int)) rfl (fun hc74 => ?_) (fun hc74 => ?_)
  ·refine C_region ?_
   refine sqv (ex_load (v := .slice (so b12) j15 j15) rfl (hS73.at 4 rfl) on44 rfl) ?_
   refine sqv (ex_move (v := .int .i64 (i : Int)) rfl) ?_
   refine nm ((i : Int) - 1) fun x75 hx75 => ?_
   refine sqv (ex_sub (x := (i : Int)) (y := 1) rfl rfl (w64 hx75 (by omega))) ?_
   refine sqv (ex_loads (vs := (el (fAdd F (fMul F r x) y))) rfl (hS73.at 3 rfl) ag49 rfl rfl) ?_
   obtain ⟨j76, hj77⟩ := ex_nat x75 (by omega)
   refine sqv (ex_sindex (j := x75) (o' := j76 * 4) rfl rfl sl44 (by omega) (by omega) (by omega)) ?_
   refine sqUE (st_storesM (f := el) (k := 4) (z := fAdd F (fMul F r x) y) (i' := j76) (fun _ => rfl) 5 hS73 rfl rfl rfl ag49 rfl (by first | omega | (simp only [List.length_set, List.length_replicate, List.length_append, List.length_take, List.length_drop]; omega)) rfl (ones_of rfl)) fun W78 hS79 => ?_
   refine blk_normal ?_
   refine round_end 1 hS79 rfl fun W80 hS81 => ?_
   have hrest : rest rc48 = rc48 := by rw [← hrc48]; rfl
   have hrb : rest (busy rc48) = rc48 := by rw [← hrc48]; rfl
   rw [hrb] at hS81
   exact ⟨rfl, _, ⟨(fAdd F (fMul F r x) y), (q.set j76 (fAdd F (fMul F r x) y)), rfl, (quo_r hij hy hr), (fAdd_lt g0 _ _), (by rw [List.length_set]; exact hql), (quo_set hq hql hij hy hr (by omega))⟩, (St.pick (L := [some (b54, .cells (elA y) 49), some (l44, .loop rc48), some (r43, .deferred (some [])), some (b22, .cells (elA (fAdd F (fMul F r x) y)) 49), some (b17, .cells #[.slice (so b12) j15 j15] 44), some (b12, .cells ((q.set j76 (fAdd F (fMul F r x) y)).flatMap el).toArray 49), some (b7, .cells #[.int .u64 0, .int .u64 0, .int .u64 0, .int .u64 0] 49), some (b4, .cells (elA x) 49), some (b1, .cells (fdA F) 117)]) hS81 [1, 2, 3, 4, 5, 6, 7, 8] (by decide))⟩
  refine C_skip ?_
  refine blk_normal ?_
  refine round_end 1 hS73 rfl fun W82 hS83 => ?_
  have hrest : rest rc48 = rc48 := by rw [← hrc48]; rfl
  have hrb : rest (busy rc48) = rc48 := by rw [← hrc48]; rfl
  rw [hrb] at hS83
  exact ⟨rfl, _, ⟨(fAdd F (fMul F r x) y), q, rfl, (quo_r hij hy hr), (fAdd_lt g0 _ _), hql, (quo_keep hq hij hy (by omega))⟩, (St.pick (L := [some (b54, .cells (elA y) 49), some (l44, .loop rc48), some (r43, .deferred (some [])), some (b22, .cells (elA (fAdd F (fMul F r x) y)) 49), some (b17, .cells #[.slice (so b12) j15 j15] 44), some (b12, .cells (q.flatMap el).toArray 49), some (b7, .cells #[.int .u64 0, .int .u64 0, .int .u64 0, .int .u64 0] 49), some (b4, .cells (elA x) 49), some (b1, .cells (fdA F) 117)]) hS83 [1, 2, 3, 4, 5, 6, 7, 8] (by decide))⟩
 intro e88 W86 he
 cases e88 with
 | panicked => exact he.elim
 | outgrown => exact he.elim
 | returned v =>
   obtain ⟨rfl, _, Lu90, ⟨r, q, rfl, hr, hrp, hql, hq⟩, hU91, hT85⟩ := he
   have hS87 : St (bks Lt) w0 W86 ([some (l44, .loop rc48), some (r43, .deferred (some [])), some (b22, .cells (elA r) 49), some (b17, .cells #[.slice (so b12) j15 j15] 44), some (b12, .cells (q.flatMap el).toArray 49), some (b7, .cells #[.int .u64 0, .int .u64 0, .int .u64 0, .int .u64 0] 49), some (b4, .cells (elA x) 49), some (b1, .cells (fdA F) 117)] ++ Lu90) ([(bq34, .cells #[t] 58), (bl35, .cells #[(.func (.func 167) #[] #[pt b29])] 192)] ++ [(b29, .cells #[c] 44)]) := St.callS (Lf := []) (Lt := ([some (l44, .loop rc48), some (r43, .deferred (some [])), some (b22, .cells #[.int .u64 0, .int .u64 0, .int .u64 0, .int .u64 0] 49), some (b17, .cells #[.slice (so b12) j15 j15] 44), some (b12, .cells ((List.replicate j15 0).flatMap el).toArray 49), some (b7, .cells #[.int .u64 0, .int .u64 0, .int .u64 0, .int .u64 0] 49), some (b4, .cells (elA x) 49), some (b1, .cells (fdA F) 117)] ++ Lt)) (Lt' := ([some (l44, .loop rc48), some (r43, .deferred (some [])), some (b22, .cells (elA r) 49), some (b17, .cells #[.slice (so b12) j15 j15] 44), some (b12, .cells (q.flatMap el).toArray 49), some (b7, .cells #[.int .u64 0, .int .u64 0, .int .u64 0, .int .u64 0] 49), some (b4, .cells (elA x) 49), some (b1, .cells (fdA F) 117)] ++ Lu90)) (Ln := []) hS46 hT85
   refine ⟨rc48, hS87.at 0 rfl, by rw [← hrc48]; rfl, by rw [← hrc48]; rfl, ?_⟩
   have hS93 := hS87.obj 0 (.loop { rc48 with state := .exhausted }) rfl
   change St _ _ (World.putObj W86 l44 (.loop { rc48 with state := .exhausted })) _ _ at hS93
   generalize World.putObj W86 l44 (.loop { rc48 with state := .exhausted }) = W92 at *
   refine blk_normal ?_
   show C _ _ _ _ _ _
   refine C_seq ?_
   refine C_draw (p := 3) (l := [(some 39, .slice (so b12) j15 j15), (some 40, elV r), (some 8, .slice (so b12) j15 j15)]) (G := []) (J := fun w => St (bks Lt) w0 w ([some (l44, .loop { rc48 with state := .exhausted }), some (r43, .deferred (some [])), some (b22, .cells (elA r) 49), some (b17, .cells #[.slice (so b12) j15 j15] 44), some (b12, .cells (q.flatMap el).toArray 49), some (b7, .cells #[.int .u64 0, .int .u64 0, .int .u64 0, .int .u64 0] 49), some (b4, .cells (elA x) 49), some (b1, .cells (fdA F) 117)] ++ Lu90) ([(bq34, .cells #[t] 58), (bl35, .cells #[(.func (.func 167) #[] #[pt b29])] 192)] ++ [(b29, .cells #[c] 44)])) mixed ?_ (hS93.draw _)
   refine node1 3 [] [] [] (by kernel_rfl) rfl rfl (nd rfl) rfl (by kernel_rfl) ?_ ?_ ?_
   · intro S wd hSd
     refine ⟨?_, ?_, ?_, True.intro⟩
     · refine needG rfl ?_
       rintro ⟨_⟩ hno
       exact dx (wanted_none rfl) rfl (ex_load (v := .slice (so b12) j15 j15) rfl (hSd.at 3 rfl) on44 rfl) ⟨rfl, hSd⟩
     · refine needG rfl ?_
       rintro ⟨_⟩ hno
       exact dx (wanted_none rfl) rfl (ex_loads (vs := (el r)) rfl (hSd.at 2 rfl) ag49 rfl rfl) ⟨rfl, hSd⟩
     · refine needG rfl ?_
       rintro ⟨hq0, hq0, _⟩ hno
       exact dx (wanted_none rfl) rfl (ex_assign (v := .slice (so b12) j15 j15) (evS hq0 rfl rfl)) ⟨rfl, hSd⟩
   · exact fun S wd hSd => ⟨True.intro, True.intro, True.intro, True.intro⟩
   · intro _ W94 hS95
     refine sqUE (st_stores (v := elV r) (cs' := (elA r)) 5 hS95 rfl rfl rfl ag49 rfl (Nat.le_of_ble_eq_true rfl) (ones_of rfl) rfl) fun W96 hS97 => ?_
     show C _ _ _ _ _ _
     refine C_ret ?_
     refine doneM_2 (rs := [r43]) (v := .slice (so b12) j15 j15) (u := elV r) (.inr rfl) rfl rfl ?_
     refine take1 1 hS97 rfl fun W98 hS99 => ?_
     refine ⟨rfl, (res_row rfl (hS99.at 5 rfl) ag49 rfl), ?_⟩
     have hqq : q = quoT F x cs.tail := quo_all hql (fun i h => hq i (by omega) h)
     have hrr : r = horn F x cs := by rw [hr, Nat.sub_self, List.drop_zero]
     exact ⟨_, _, _, by rw [hrr], by rw [← hqq]; exact Own.of (fun _ => rfl) (by rw [hql]; omega) rfl (by simp only [maxLen]; omega), hU91, (St.pickB (Lf := [some (l44, .loop { rc48 with state := .exhausted }), some (r43, .deferred none), some (b22, .cells (elA r) 49), some (b17, .cells #[.slice (so b12) j15 j15] 44), some (b12, .cells (q.flatMap el).toArray 49), some (b7, .cells (elA r) 49), some (b4, .cells (elA x) 49), some (b1, .cells (fdA F) 117)]) hS99 [4] (by decide) rfl).less (fun _ h => absurd h (by simp))⟩
end Go.Proofs
end
