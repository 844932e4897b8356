/- AuditSuspects holds: Suspects of the audit gives the same positions, or the same error, as the reference, for all arguments that the statement admits, with no further condition. Part 10 of 12. -/
import Derived.Test.YtfhpmpmmckkgbaaGreatDoorS9
set_option linter.unusedVariables false
set_option linter.unusedSimpArgs false
set_option linter.unusedSectionVars false
section
set_option linter.unusedVariables false
set_option linter.unusedSimpArgs false
set_option maxRecDepth 20000
set_option maxHeartbeats 2000000
namespace Go.Proofs
open Sc
theorem en125 : enters Tryz.prog 125 = true := by kernel_rfl
theorem c_halve (p : Nat) (a : Nat) (w0 : World) (g0 : p < B256) (g1 : a < B256) (g2 : p % 2 = 1) : Calls Tryz.prog 125 #[elV p, elV a] w0 (Ret fun uu w' => uu = elV (hvN p a) ∧ St [] w0 w' [] []) := by
 have hl0 := limb_nonneg a 0
 have hl1 := limb_nonneg a 1
 have hl2 := limb_nonneg a 2
 have hl3 := limb_nonneg a 3
 have hu := limb_lt a
 have hm := fun i => And.intro (limb_nonneg (addN a p) i) (limb_lt (addN a p) i)
 have hm0 := hm 0
 have hm1 := hm 1
 have hm2 := hm 2
 have hm3 := hm 3
 have hu0 := hu 0
 have hu1 := hu 1
 have hu2 := hu 2
 have hu3 := hu 3
 refine calls_of Tryz.func125 rfl Tryz.ntmps125 (Nat.le_of_ble_eq_true rfl) ?_
 have hS0 := St.nil w0
 refine C_sr ?_
 refine sqE (st_box (v := elV p) (cs := (elA p)) hS0 rfl rfl) fun b1 W2 hS3 => ?_
 refine sqE (st_box (v := elV a) (cs := (elA a)) hS3 rfl rfl) fun b4 W5 hS6 => ?_
 refine sqE (st_alloc hS6 ze40) fun b7 W8 hS9 => ?_
 show C _ _ _ _ _ _
 refine C_sr ?_
 refine sqv (ex_assign (v := .int .u64 0) rfl) ?_
 show C _ _ _ _ _ _
 refine C_seq ?_
 refine C_sr ?_
 refine sqv (ex_index (j := 0) (o' := 0) rfl rfl ar40 (by decide) (by decide) rfl) ?_
 refine sqv (ex_load (v := .int .u64 (limb a 0)) rfl (hS9.at 1 rfl) on39 rfl) ?_
 refine nm ((limb a 0) % 2) fun x10 hx10 => ?_
 refine sqv (ex_rem (x := (limb a 0)) (y := 2) rfl rfl (by omega) (hx10.trans (Int.tmod_eq_emod_of_nonneg (by omega)).symm)) ?_
 refine sqv (ex_cmp (x := x10) (y := 1) (r := decide (x10 = 1)) rfl rfl rfl) ?_
 show C _ _ _ _ _ _
 refine C_dec (x10 = 1) rfl (fun hc11 => ?_) (fun hc11 => ?_)
 ·refine C_region ?_
  refine sqv (ex_loads (vs := (el a)) rfl (hS9.at 1 rfl) ag40 rfl rfl) ?_
  refine sqv (ex_loads (vs := (el p)) rfl (hS9.at 2 rfl) ag40 rfl rfl) ?_
  refine sqc (exe_call (args := #[elV a, elV p]) en60 (args_of2 rfl rfl)) (c_Sum a p W8 (by assumption) (by assumption)) ?_
  rintro _ W12 ⟨rfl, hT14⟩
  have hS13 := hS9.call hT14
  refine sqv (ex_move (v := .tuple #[elV (addN a p), .int .u64 (bI (decide (B256 ≤ a + p)))]) rfl) ?_
  refine sqv (ex_extract (v := elV (addN a p)) rfl rfl) ?_
  refine sqv (ex_extract (v := .int .u64 (bI (decide (B256 ≤ a + p)))) rfl rfl) ?_
  refine sqUE (st_stores (v := elV (addN a p)) (cs' := (elA (addN a p))) 1 hS13 rfl rfl rfl ag40 rfl (Nat.le_of_ble_eq_true rfl) (ones_of rfl) rfl) fun W16 hS17 => ?_
  refine sqv (ex_assign (v := .int .u64 (bI (decide (B256 ≤ a + p)))) rfl) ?_
  show C _ _ _ _ _ _
  refine C_sr ?_
  refine sqE (st_alloc hS17 ze40) fun b18 W19 hS20 => ?_
  show C _ _ _ _ _ _
  refine C_seq ?_
  refine C_sr ?_
  refine sqv (ex_assign (v := .int .i64 0) rfl) ?_
  show C _ _ _ _ _ _
  refine C_block ?_
  refine C_unroll 5 ?_
  show C _ _ _ _ _ _
  refine C_seq ?_
  refine C_sr ?_
  refine sqv (ex_move (v := .int .i64 0) rfl) ?_
  refine sqv (ex_cmp (x := 0) (y := 4) (r := true) rfl rfl rfl) ?_
  show C _ _ _ _ _ _
  refine C_true rfl ?_
  refine C_skip ?_
  show C _ _ _ _ _ _
  refine C_seq ?_
  refine C_block ?_
  refine C_sr ?_
  refine sqv (ex_move (v := .int .u64 (bI (decide (B256 ≤ a + p)))) rfl) ?_
  refine sqv (ex_assign (v := .int .u64 (bI (decide (B256 ≤ a + p)))) rfl) ?_
  show C _ _ _ _ _ _
  refine C_seq ?_
  refine C_sr ?_
  refine sqv (ex_move (v := .int .i64 0) rfl) ?_
  refine sqv (ex_cmp (x := 0) (y := 3) (r := true) rfl rfl rfl) ?_
  show C _ _ _ _ _ _
  refine C_true rfl ?_
  refine C_region ?_
  refine sqv (ex_move (v := .int .i64 0) rfl) ?_
  refine sqv (ex_add (x := 0) (y := 1) (r := 1) rfl rfl (by rfl)) ?_
  refine sqv (ex_index (j := 1) (o' := 1) rfl rfl ar40 (by decide) (by decide) rfl) ?_
  refine sqv (ex_load (v := .int .u64 (limb (addN a p) 1)) rfl (hS20.at 2 rfl) on39 rfl) ?_
  refine nm ((limb (addN a p) 1) % 2) fun x21 hx21 => ?_
  refine sqv (ex_rem (x := (limb (addN a p) 1)) (y := 2) rfl rfl (by omega) (hx21.trans (Int.tmod_eq_emod_of_nonneg (by omega)).symm)) ?_
  refine sqv (ex_assign (v := .int .u64 x21) rfl) ?_
  show C _ _ _ _ _ _
  refine C_region ?_
  refine sqv (ex_move (v := .int .i64 0) rfl) ?_
  refine sqv (ex_move (v := .int .i64 0) rfl) ?_
  refine sqv (ex_index (j := 0) (o' := 0) rfl rfl ar40 (by decide) (by decide) rfl) ?_
  refine sqv (ex_load (v := .int .u64 (limb (addN a p) 0)) rfl (hS20.at 2 rfl) on39 rfl) ?_
  refine nm ((limb (addN a p) 0) / 2) fun x22 hx22 => ?_
  refine sqv (ex_quo (x := (limb (addN a p) 0)) (y := 2) rfl rfl (by omega) (wuq hx22 (by omega) (by decide))) ?_
  refine sqv (ex_move (v := .int .u64 x21) rfl) ?_
  refine nm ((x21 * 9223372036854775808) % 18446744073709551616) fun x23 hx23 => ?_
  refine sqv (ex_mul (x := x21) (y := 9223372036854775808) rfl rfl (wu64 hx23)) ?_
  refine nm ((x22 + x23) % 18446744073709551616) fun x24 hx24 => ?_
  refine sqv (ex_add (x := x22) (y := x23) rfl rfl (wu64 hx24)) ?_
  refine sqv (ex_index (j := 0) (o' := 0) rfl rfl ar40 (by decide) (by decide) rfl) ?_
  refine sqUE (st_store (v := .int .u64 x24) (cs' := #[.int .u64 x24, .int .u64 0, .int .u64 0, .int .u64 0]) 0 hS20 rfl rfl rfl on39 rfl (Nat.le_of_ble_eq_true rfl) rfl rfl) fun W25 hS26 => ?_
  refine blk_normal ?_
  show C _ _ _ _ _ _
  refine C_region ?_
  refine sqv (ex_move (v := .int .i64 0) rfl) ?_
  refine sqv (ex_add (x := 0) (y := 1) (r := 1) rfl rfl (by rfl)) ?_
  refine sqv (ex_assign (v := .int .i64 1) rfl) ?_
  show C _ _ _ _ _ _
  refine C_seq ?_
  refine C_sr ?_
  refine sqv (ex_move (v := .int .i64 1) rfl) ?_
  refine sqv (ex_cmp (x := 1) (y := 4) (r := true) rfl rfl rfl) ?_
  show C _ _ _ _ _ _
  refine C_true rfl ?_
  refine C_skip ?_
  show C _ _ _ _ _ _
  refine C_seq ?_
  refine C_block ?_
  refine C_sr ?_
  refine sqv (ex_move (v := .int .u64 (bI (decide (B256 ≤ a + p)))) rfl) ?_
  refine sqv (ex_assign (v := .int .u64 (bI (decide (B256 ≤ a + p)))) rfl) ?_
  show C _ _ _ _ _ _
  refine C_seq ?_
  refine C_sr ?_
  refine sqv (ex_move (v := .int .i64 1) rfl) ?_
  refine sqv (ex_cmp (x := 1) (y := 3) (r := true) rfl rfl rfl) ?_
  show C _ _ _ _ _ _
  refine C_true rfl ?_
  refine C_region ?_
  refine sqv (ex_move (v := .int .i64 1) rfl) ?_
  refine sqv (ex_add (x := 1) (y := 1) (r := 2) rfl rfl (by rfl)) ?_
  refine sqv (ex_index (j := 2) (o' := 2) rfl rfl ar40 (by decide) (by decide) rfl) ?_
  refine sqv (ex_load (v := .int .u64 (limb (addN a p) 2)) rfl (hS26.at 2 rfl) on39 rfl) ?_
  refine nm ((limb (addN a p) 2) % 2) fun x27 hx27 => ?_
  refine sqv (ex_rem (x := (limb (addN a p) 2)) (y := 2) rfl rfl (by omega) (hx27.trans (Int.tmod_eq_emod_of_nonneg (by omega)).symm)) ?_
  refine sqv (ex_assign (v := .int .u64 x27) rfl) ?_
  show C _ _ _ _ _ _
  refine C_region ?_
  refine sqv (ex_move (v := .int .i64 1) rfl) ?_
  refine sqv (ex_move (v := .int .i64 1) rfl) ?_
  refine sqv (ex_index (j := 1) (o' := 1) rfl rfl ar40 (by decide) (by decide) rfl) ?_
  refine sqv (ex_load (v := .int .u64 (limb (addN a p) 1)) rfl (hS26.at 2 rfl) on39 rfl) ?_
  refine nm ((limb (addN a p) 1) / 2) fun x28 hx28 => ?_
  refine sqv (ex_quo (x := (limb (addN a p) 1)) (y := 2) rfl rfl (by omega) (wuq hx28 (by omega) (by decide))) ?_
  refine sqv (ex_move (v := .int .u64 x27) rfl) ?_
  refine nm ((x27 * 9223372036854775808) % 18446744073709551616) fun x29 hx29 => ?_
  refine sqv (ex_mul (x := x27) (y := 9223372036854775808) rfl rfl (wu64 hx29)) ?_
  refine nm ((x28 + x29) % 18446744073709551616) fun x30 hx30 => ?_
  refine sqv (ex_add (x := x28) (y := x29) rfl rfl (wu64 hx30)) ?_
  refine sqv (ex_index (j := 1) (o' := 1) rfl rfl ar40 (by decide) (by decide) rfl) ?_
  refine sqUE (st_store (v := .int .u64 x30) (cs' := #[.int .u64 x24, .int .u64 x30, .int .u64 0, .int .u64 0]) 0 hS26 rfl rfl rfl on39 rfl (Nat.le_of_ble_eq_true rfl) rfl rfl) fun W31 hS32 => ?_
  refine blk_normal ?_
  show C _ _ _ _ _ _
  refine C_region ?_
  refine sqv (ex_move (v := .int .i64 1) rfl) ?_
  refine sqv (ex_add (x := 1) (y := 1) (r := 2) rfl rfl (by rfl)) ?_
  refine sqv (ex_assign (v := .int .i64 2) rfl) ?_
  show C _ _ _ _ _ _
  refine C_seq ?_
  refine C_sr ?_
  refine sqv (ex_move (v := .int .i64 2) rfl) ?_
  refine sqv (ex_cmp (x := 2) (y := 4) (r := true) rfl rfl rfl) ?_
  show C _ _ _ _ _ _
  refine C_true rfl ?_
  refine C_skip ?_
  show C _ _ _ _ _ _
  refine C_seq ?_
  refine C_block ?_
  refine C_sr ?_
  refine sqv (ex_move (v := .int .u64 (bI (decide (B256 ≤ a + p)))) rfl) ?_
  refine sqv (ex_assign (v := .int .u64 (bI (decide (B256 ≤ a + p)))) rfl) ?_
  show C _ _ _ _ _ _
  refine C_seq ?_
  refine C_sr ?_
  refine sqv (ex_move (v := .int .i64 2) rfl) ?_
  refine sqv (ex_cmp (x := 2) (y := 3) (r := true) rfl rfl rfl) ?_
  show C _ _ _ _ _ _
  refine C_true rfl ?_
  refine C_region ?_
  refine sqv (ex_move (v := .int .i64 2) rfl) ?_
  refine sqv (ex_add (x := 2) (y := 1) (r := 3) rfl rfl (by rfl)) ?_
  refine sqv (ex_index (j := 3) (o' := 3) rfl rfl ar40 (by decide) (by decide) rfl) ?_
  refine sqv (ex_load (v := .int .u64 (limb (addN a p) 3)) rfl (hS32.at 2 rfl) on39 rfl) ?_
  refine nm ((limb (addN a p) 3) % 2) fun x33 hx33 => ?_
  refine sqv (ex_rem (x := (limb (addN a p) 3)) (y := 2) rfl rfl (by omega) (hx33.trans (Int.tmod_eq_emod_of_nonneg (by omega)).symm)) ?_
  refine sqv (ex_assign (v := .int .u64 x33) rfl) ?_
  show C _ _ _ _ _ _
  refine C_region ?_
  refine sqv (ex_move (v := .int .i64 2) rfl) ?_
  refine sqv (ex_move (v := .int .i64 2) rfl) ?_
  refine sqv (ex_index (j := 2) (o' := 2) rfl rfl ar40 (by decide) (by decide) rfl) ?_
  refine sqv (ex_load (v := .int .u64 (limb (addN a p) 2)) rfl (hS32.at 2 rfl) on39 rfl) ?_
  refine nm ((limb (addN a p) 2) / 2) fun x34 hx34 => ?_
  refine sqv (ex_quo (x := (limb (addN a p) 2)) (y := 2) rfl rfl (by omega) (wuq hx34 (by omega) (by decide))) ?_
  refine sqv (ex_move (v := .int .u64 x33) rfl) ?_
  refine nm ((x33 * 9223372036854775808) % 18446744073709551616) fun x35 hx35 => ?_
  refine sqv (ex_mul (x := x33) (y := 9223372036854775808) rfl rfl (wu64 hx35)) ?_
  refine nm ((x34 + x35) % 18446744073709551616) fun x36 hx36 => ?_
  refine sqv (ex_add (x := x34) (y := x35) rfl rfl (wu64 hx36)) ?_
  refine sqv (ex_index (j := 2) (o' := 2) rfl rfl ar40 (by decide) (by decide) rfl) ?_
  refine sqUE (st_store (v := .int .u64 x36) (cs' := #[.int .u64 x24, .int .u64 x30, .int .u64 x36, .int .u64 0]) 0 hS32 rfl rfl rfl on39 rfl (Nat.le_of_ble_eq_true rfl) rfl rfl) fun W37 hS38 => ?_
  refine blk_normal ?_
  show C _ _ _ _ _ _
  refine C_region ?_
  refine sqv (ex_move (v := .int .i64 2) rfl) ?_
  refine sqv (ex_add (x := 2) (y := 1) (r := 3) rfl rfl (by rfl)) ?_
  refine sqv (ex_assign (v := .int .i64 3) rfl) ?_
  show C _ _ _ _ _ _
  refine C_seq ?_
  refine C_sr ?_
  refine sqv (ex_move (v := .int .i64 3) rfl) ?_
  refine sqv (ex_cmp (x := 3) (y := 4) (r := true) rfl rfl rfl) ?_
  show C _ _ _ _ _ _
  refine C_true rfl ?_
  refine C_skip ?_
  show C _ _ _ _ _ _
  refine C_seq ?_
  refine C_block ?_
  refine C_sr ?_
  refine sqv (ex_move (v := .int .u64 (bI (decide (B256 ≤ a + p)))) rfl) ?_
  refine sqv (ex_assign (v := .int .u64 (bI (decide (B256 ≤ a + p)))) rfl) ?_
  show C _ _ _ _ _ _
  refine C_seq ?_
  refine C_sr ?_
  refine sqv (ex_move (v := .int .i64 3) rfl) ?_
  refine sqv (ex_cmp (x := 3) (y := 3) (r := false) rfl rfl rfl) ?_
  show C _ _ _ _ _ _
  refine C_false rfl ?_
  refine C_skip ?_
  show C _ _ _ _ _ _
  refine C_region ?_
  refine sqv (ex_move (v := .int .i64 3) rfl) ?_
  refine sqv (ex_move (v := .int .i64 3) rfl) ?_
  refine sqv (ex_index (j := 3) (o' := 3) rfl rfl ar40 (by decide) (by decide) rfl) ?_
  refine sqv (ex_load (v := .int .u64 (limb (addN a p) 3)) rfl (hS38.at 2 rfl) on39 rfl) ?_
  refine nm ((limb (addN a p) 3) / 2) fun x39 hx39 => ?_
  refine sqv (ex_quo (x := (limb (addN a p) 3)) (y := 2) rfl rfl (by omega) (wuq hx39 (by omega) (by decide))) ?_
  refine sqv (ex_move (v := .int .u64 (bI (decide (B256 ≤ a + p)))) rfl) ?_
  refine nm (((bI (decide (B256 ≤ a + p))) * 9223372036854775808) % 18446744073709551616) fun x40 hx40 => ?_
  refine sqv (ex_mul (x := (bI (decide (B256 ≤ a + p)))) (y := 9223372036854775808) rfl rfl (wu64 hx40)) ?_
  refine nm ((x39 + x40) % 18446744073709551616) fun x41 hx41 => ?_
  refine sqv (ex_add (x := x39) (y := x40) rfl rfl (wu64 hx41)) ?_
  refine sqv (ex_index (j := 3) (o' := 3) rfl rfl ar40 (by decide) (by decide) rfl) ?_
  refine sqUE (st_store (v := .int .u64 x41) (cs' := #[.int .u64 x24, .int .u64 x30, .int .u64 x36, .int .u64 x41]) 0 hS38 rfl rfl rfl on39 rfl (Nat.le_of_ble_eq_true rfl) rfl rfl) fun W42 hS43 => ?_
  refine blk_normal ?_
  show C _ _ _ _ _ _
  refine C_region ?_
  refine sqv (ex_move (v := .int .i64 3) rfl) ?_
  refine sqv (ex_add (x := 3) (y := 1) (r := 4) rfl rfl (by rfl)) ?_
  refine sqv (ex_assign (v := .int .i64 4) rfl) ?_
  show C _ _ _ _ _ _
  refine C_seq ?_
  refine C_sr ?_
  refine sqv (ex_move (v := .int .i64 4) rfl) ?_
  refine sqv (ex_cmp (x := 4) (y := 4) (r := false) rfl rfl rfl) ?_
  show C _ _ _ _ _ _
  refine C_false rfl ?_
  refine C_exit ?_
  refine thn_exit ?_
  refine thn_exit ?_
  refine blk_exit ?_
  show C _ _ _ _ _ _
  refine C_sr ?_
  refine sqv (ex_loads (vs := [.int .u64 x24, .int .u64 x30, .int .u64 x36, .int .u64 x41]) rfl (hS43.at 0 rfl) ag40 rfl rfl) ?_
  refine sqUE (st_stores (v := .agg #[.int .u64 x24, .int .u64 x30, .int .u64 x36, .int .u64 x41]) (cs' := #[.int .u64 x24, .int .u64 x30, .int .u64 x36, .int .u64 x41]) 1 hS43 rfl rfl rfl ag40 rfl (Nat.le_of_ble_eq_true rfl) (ones_of rfl) rfl) fun W44 hS45 => ?_
  show C _ _ _ _ _ _
  refine C_ret ?_
  refine done_1 (v := .agg #[.int .u64 x24, .int .u64 x30, .int .u64 x36, .int .u64 x41]) rfl (res_row rfl (hS45.at 1 rfl) ag40 rfl) ?_
  exact ⟨halve_words (N := addN a p) (t := bI (decide (B256 ≤ a + p))) (addN_lt _ _) (by have h1 := bI_range (decide (B256 ≤ a + p)); omega) (by have h1 := hc11; have hs := limb_sum a g1; have hs2 := limb_sum (addN a p) (addN_lt _ _); have hab := addN_bI g1 g0; have h2 := bI_range (decide (B256 ≤ a + p)); omega) (by have h1 := hc11; have hs := limb_sum a g1; have hab := addN_bI g1 g0; unfold hvN; rw [if_pos (by omega)]; omega) hx21 hx22 hx23 hx24 hx27 hx28 hx29 hx30 hx33 hx34 hx35 hx36 hx39 hx40 hx41, hS45.none⟩
 refine C_skip ?_
 show C _ _ _ _ _ _
 refine C_sr ?_
 refine sqE (st_alloc hS9 ze40) fun b46 W47 hS48 => ?_
 show C _ _ _ _ _ _
 refine C_seq ?_
 refine C_sr ?_
 refine sqv (ex_assign (v := .int .i64 0) rfl) ?_
 show C _ _ _ _ _ _
 refine C_block ?_
 refine C_unroll 5 ?_
 show C _ _ _ _ _ _
 refine C_seq ?_
 refine C_sr ?_
 refine sqv (ex_move (v := .int .i64 0) rfl) ?_
 refine sqv (ex_cmp (x := 0) (y := 4) (r := true) rfl rfl rfl) ?_
 show C _ _ _ _ _ _
 refine C_true rfl ?_
 refine C_skip ?_
 show C _ _ _ _ _ _
 refine C_seq ?_
 refine C_block ?_
 refine C_sr ?_
 refine sqv (ex_move (v := .int .u64 0) rfl) ?_
 refine sqv (ex_assign (v := .int .u64 0) rfl) ?_
 show C _ _ _ _ _ _
 refine C_seq ?_
 refine C_sr ?_
 refine sqv (ex_move (v := .int .i64 0) rfl) ?_
 refine sqv (ex_cmp (x := 0) (y := 3) (r := true) rfl rfl rfl) ?_
 show C _ _ _ _ _ _
 refine C_true rfl ?_
 refine C_region ?_
 refine sqv (ex_move (v := .int .i64 0) rfl) ?_
 refine sqv (ex_add (x := 0) (y := 1) (r := 1) rfl rfl (by rfl)) ?_
 refine sqv (ex_index (j := 1) (o' := 1) rfl rfl ar40 (by decide) (by decide) rfl) ?_
 refine sqv (ex_load (v := .int .u64 (limb a 1)) rfl (hS48.at 2 rfl) on39 rfl) ?_
 refine nm ((limb a 1) % 2) fun x49 hx49 => ?_
 refine sqv (ex_rem (x := (limb a 1)) (y := 2) rfl rfl (by omega) (hx49.trans (Int.tmod_eq_emod_of_nonneg (by omega)).symm)) ?_
 refine sqv (ex_assign (v := .int .u64 x49) rfl) ?_
 show C _ _ _ _ _ _
 refine C_region ?_
 refine sqv (ex_move (v := .int .i64 0) rfl) ?_
 refine sqv (ex_move (v := .int .i64 0) rfl) ?_
 refine sqv (ex_index (j := 0) (o' := 0) rfl rfl ar40 (by decide) (by decide) rfl) ?_
 refine sqv (ex_load (v := .int .u64 (limb a 0)) rfl (hS48.at 2 rfl) on39 rfl) ?_
 refine nm ((limb a 0) / 2) fun x50 hx50 => ?_
 refine sqv (ex_quo (x := (limb a 0)) (y := 2) rfl rfl (by omega) (wuq hx50 (by omega) (by decide))) ?_
 refine sqv (ex_move (v := .int .u64 x49) rfl) ?_
 refine nm ((x49 * 9223372036854775808) % 18446744073709551616) fun x51 hx51 => ?_
 refine sqv (ex_mul (x := x49) (y := 9223372036854775808) rfl rfl (wu64 hx51)) ?_
 refine nm ((x50 + x51) % 18446744073709551616) fun x52 hx52 => ?_
 refine sqv (ex_add (x := x50) (y := x51) rfl rfl (wu64 hx52)) ?_
 refine sqv (ex_index (j := 0) (o' := 0) rfl rfl ar40 (by decide) (by decide) rfl) ?_
 refine sqUE (st_store (v := .int .u64 x52) (cs' := #[.int .u64 x52, .int .u64 0, .int .u64 0, .int .u64 0]) 0 hS48 rfl rfl rfl on39 rfl (Nat.le_of_ble_eq_true rfl) rfl rfl) fun W53 hS54 => ?_
 refine blk_normal ?_
 show C _ _ _ _ _ _
 refine C_region ?_
 refine sqv (ex_move (v := .int .i64 0) rfl) ?_
 refine sqv (ex_add (x := 0) (y := 1) (r := 1) rfl rfl (by rfl)) ?_
 refine sqv (ex_assign (v := .int .i64 1) rfl) ?_
 show C _ _ _ _ _ _
 refine C_seq ?_
 refine C_sr ?_
 refine sqv (ex_move (v := .int .i64 1) rfl) ?_
 refine sqv (ex_cmp (x := 1) (y := 4) (r := true) rfl rfl rfl) ?_
 show C _ _ _ _ _ _
 refine C_true rfl ?_
 refine C_skip ?_
 show C _ _ _ _ _ _
 refine C_seq ?_
 refine C_block ?_
 refine C_sr ?_
 refine sqv (ex_move (v := .int .u64 0) rfl) ?_
 refine sqv (ex_assign (v := .int .u64 0) rfl) ?_
 show C _ _ _ _ _ _
 refine C_seq ?_
 refine C_sr ?_
 refine sqv (ex_move (v := .int .i64 1) rfl) ?_
 refine sqv (ex_cmp (x := 1) (y := 3) (r := true) rfl rfl rfl) ?_
 show C _ _ _ _ _ _
 refine C_true rfl ?_
 refine C_region ?_
 refine sqv (ex_move (v := .int .i64 1) rfl) ?_
 refine sqv (ex_add (x := 1) (y := 1) (r := 2) rfl rfl (by rfl)) ?_
 refine sqv (ex_index (j := 2) (o' := 2) rfl rfl ar40 (by decide) (by decide) rfl) ?_
 refine sqv (ex_load (v := .int .u64 (limb a 2)) rfl (hS54.at 2 rfl) on39 rfl) ?_
 refine nm ((limb a 2) % 2) fun x55 hx55 => ?_
 refine sqv (ex_rem (x := (limb a 2)) (y := 2) rfl rfl (by omega) (hx55.trans (Int.tmod_eq_emod_of_nonneg (by omega)).symm)) ?_
 refine sqv (ex_assign (v := .int .u64 x55) rfl) ?_
 show C _ _ _ _ _ _
 refine C_region ?_
 refine sqv (ex_move (v := .int .i64 1) rfl) ?_
 refine sqv (ex_move (v := .int .i64 1) rfl) ?_
 refine sqv (ex_index (j := 1) (o' := 1) rfl rfl ar40 (by decide) (by decide) rfl) ?_
 refine sqv (ex_load (v := .int .u64 (limb a 1)) rfl (hS54.at 2 rfl) on39 rfl) ?_
 refine nm ((limb a 1) / 2) fun x56 hx56 => ?_
 refine sqv (ex_quo (x := (limb a 1)) (y := 2) rfl rfl (by omega) (wuq hx56 (by omega) (by decide))) ?_
 refine sqv (ex_move (v := .int .u64 x55) rfl) ?_
 refine nm ((x55 * 9223372036854775808) % 18446744073709551616) fun x57 hx57 => ?_
 refine sqv (ex_mul (x := x55) (y := 9223372036854775808) rfl rfl (wu64 hx57)) ?_
 refine nm ((x56 + x57) % 18446744073709551616) fun x58 hx58 => ?_
 refine sqv (ex_add (x := x56) (y := x57) rfl rfl (wu64 hx58)) ?_
 refine sqv (ex_index (j := 1) (o' := 1) rfl rfl ar40 (by decide) (by decide) rfl) ?_
 refine sqUE (st_store (v := .int .u64 x58) (cs' := #[.int .u64 x52, .int .u64 x58, .int .u64 0, .int .u64 0]) 0 hS54 rfl rfl rfl on39 rfl (Nat.le_of_ble_eq_true rfl) rfl rfl) fun W59 hS60 => ?_
 refine blk_normal ?_
 show C _ _ _ _ _ _
 refine C_region ?_
 refine sqv (ex_move (v := .int .i64 1) rfl) ?_
 refine sqv (ex_add (x := 1) (y := 1) (r := 2) rfl rfl (by rfl)) ?_
 refine sqv (ex_assign (v := .int .i64 2) rfl) ?_
 show C _ _ _ _ _ _
 refine C_seq ?_
 refine C_sr ?_
 refine sqv (ex_move (v := .int .i64 2) rfl) ?_
 refine sqv (ex_cmp (x := 2) (y := 4) (r := true) rfl rfl rfl) ?_
 show C _ _ _ _ _ _
 refine C_true rfl ?_
 refine C_skip ?_
 show C _ _ _ _ _ _
 refine C_seq ?_
 refine C_block ?_
 refine C_sr ?_
 refine sqv (ex_move (v := .int .u64 0) rfl) ?_
 refine sqv (ex_assign (v := .int .u64 0) rfl) ?_
 show C _ _ _ _ _ _
 refine C_seq ?_
 refine C_sr ?_
 refine sqv (ex_move (v := .int .i64 2) rfl) ?_
 refine sqv (ex_cmp (x := 2) (y := 3) (r := true) rfl rfl rfl) ?_
 show C _ _ _ _ _ _
 refine C_true rfl ?_
 refine C_region ?_
 refine sqv (ex_move (v := .int .i64 2) rfl) ?_
 refine sqv (ex_add (x := 2) (y := 1) (r := 3) rfl rfl (by rfl)) ?_
 refine sqv (ex_index (j := 3) (o' := 3) rfl rfl ar40 (by decide) (by decide) rfl) ?_
 refine sqv (ex_load (v := .int .u64 (limb a 3)) rfl (hS60.at 2 rfl) on39 rfl) ?_
 refine nm ((limb a 3) % 2) fun x61 hx61 => ?_
 refine sqv (ex_rem (x := (limb a 3)) (y := 2) rfl rfl (by omega) (hx61.trans (Int.tmod_eq_emod_of_nonneg (by omega)).symm)) ?_
 refine sqv (ex_assign (v := .int .u64 x61) rfl) ?_
 show C _ _ _ _ _ _
 refine C_region ?_
 refine sqv (ex_move (v := .int .i64 2) rfl) ?_
 refine sqv (ex_move (v := .int .i64 2) rfl) ?_
 refine sqv (ex_index (j := 2) (o' := 2) rfl rfl ar40 (by decide) (by decide) rfl) ?_
 refine sqv (ex_load (v := .int .u64 (limb a 2)) rfl (hS60.at 2 rfl) on39 rfl) ?_
 refine nm ((limb a 2) / 2) fun x62 hx62 => ?_
 refine sqv (ex_quo (x := (limb a 2)) (y := 2) rfl rfl (by omega) (wuq hx62 (by omega) (by decide))) ?_
 refine sqv (ex_move (v := .int .u64 x61) rfl) ?_
 refine nm ((x61 * 9223372036854775808) % 18446744073709551616) fun x63 hx63 => ?_
 refine sqv (ex_mul (x := x61) (y := 9223372036854775808) rfl rfl (wu64 hx63)) ?_
 refine nm ((x62 + x63) % 18446744073709551616) fun x64 hx64 => ?_
 refine sqv (ex_add (x := x62) (y := x63) rfl rfl (wu64 hx64)) ?_
 refine sqv (ex_index (j := 2) (o' := 2) rfl rfl ar40 (by decide) (by decide) rfl) ?_
 refine sqUE (st_store (v := .int .u64 x64) (cs' := #[.int .u64 x52, .int .u64 x58, .int .u64 x64, .int .u64 0]) 0 hS60 rfl rfl rfl on39 rfl (Nat.le_of_ble_eq_true rfl) rfl rfl) fun W65 hS66 => ?_
 refine blk_normal ?_
 show C _ _ _ _ _ _
 refine C_region ?_
 refine sqv (ex_move (v := .int .i64 2) rfl) ?_
 refine sqv (ex_add (x := 2) (y := 1) (r := 3) rfl rfl (by rfl)) ?_
 refine sqv (ex_assign (v := .int .i64 3) rfl) ?_
 show C _ _ _ _ _ _
 refine C_seq ?_
 refine C_sr ?_
 refine sqv (ex_move (v := .int .i64 3) rfl) ?_
 refine sqv (ex_cmp (x := 3) (y := 4) (r := true) rfl rfl rfl) ?_
 show C _ _ _ _ _ _
 refine C_true rfl ?_
 refine C_skip ?_
 show C _ _ _ _ _ _
 refine C_seq ?_
 refine C_block ?_
 refine C_sr ?_
 refine sqv (ex_move (v := .int .u64 0) rfl) ?_
 refine sqv (ex_assign (v := .int .u64 0) rfl) ?_
 show C _ _ _ _ _ _
 refine C_seq ?_
 refine C_sr ?_
 refine sqv (ex_move (v := .int .i64 3) rfl) ?_
 refine sqv (ex_cmp (x := 3) (y := 3) (r := false) rfl rfl rfl) ?_
 show C _ _ _ _ _ _
 refine C_false rfl ?_
 refine C_skip ?_
 show C _ _ _ _ _ _
 refine C_region ?_
 refine sqv (ex_move (v := .int .i64 3) rfl) ?_
 refine sqv (ex_move (v := .int .i64 3) rfl) ?_
 refine sqv (ex_index (j := 3) (o' := 3) rfl rfl ar40 (by decide) (by decide) rfl) ?_
 refine sqv (ex_load (v := .int .u64 (limb a 3)) rfl (hS66.at 2 rfl) on39 rfl) ?_
 refine nm ((limb a 3) / 2) fun x67 hx67 => ?_
 refine sqv (ex_quo (x := (limb a 3)) (y := 2) rfl rfl (by omega) (wuq hx67 (by omega) (by decide))) ?_
 refine sqv (ex_move (v := .int .u64 0) rfl) ?_
 refine nm (((0 : Int) * 9223372036854775808) % 18446744073709551616) fun x68 hx68 => ?_
 refine sqv (ex_mul (x := 0) (y := 9223372036854775808) rfl rfl (wu64 hx68)) ?_
 refine nm ((x67 + x68) % 18446744073709551616) fun x69 hx69 => ?_
 refine sqv (ex_add (x := x67) (y := x68) rfl rfl (wu64 hx69)) ?_
 refine sqv (ex_index (j := 3) (o' := 3) rfl rfl ar40 (by decide) (by decide) rfl) ?_
 refine sqUE (st_store (v := .int .u64 x69) (cs' := #[.int .u64 x52, .int .u64 x58, .int .u64 x64, .int .u64 x69]) 0 hS66 rfl rfl rfl on39 rfl (Nat.le_of_ble_eq_true rfl) rfl rfl) fun W70 hS71 => ?_
 refine blk_normal ?_
 show C _ _ _ _ _ _
 refine C_region ?_
 refine sqv (ex_move (v := .int .i64 3) rfl) ?_
 refine sqv (ex_add (x := 3) (y := 1) (r := 4) rfl rfl (by rfl)) ?_
 refine sqv (ex_assign (v := .int .i64 4) rfl) ?_
 show C _ _ _ _ _ _
 refine C_seq ?_
 refine C_sr ?_
 refine sqv (ex_move (v := .int .i64 4) rfl) ?_
 refine sqv (ex_cmp (x := 4) (y := 4) (r := false) rfl rfl rfl) ?_
 show C _ _ _ _ _ _
 refine C_false rfl ?_
 refine C_exit ?_
 refine thn_exit ?_
 refine thn_exit ?_
 refine blk_exit ?_
 show C _ _ _ _ _ _
 refine C_sr ?_
 refine sqv (ex_loads (vs := [.int .u64 x52, .int .u64 x58, .int .u64 x64, .int .u64 x69]) rfl (hS71.at 0 rfl) ag40 rfl rfl) ?_
 refine sqUE (st_stores (v := .agg #[.int .u64 x52, .int .u64 x58, .int .u64 x64, .int .u64 x69]) (cs' := #[.int .u64 x52, .int .u64 x58, .int .u64 x64, .int .u64 x69]) 1 hS71 rfl rfl rfl ag40 rfl (Nat.le_of_ble_eq_true rfl) (ones_of rfl) rfl) fun W72 hS73 => ?_
 show C _ _ _ _ _ _
 refine C_ret ?_
 refine done_1 (v := .agg #[.int .u64 x52, .int .u64 x58, .int .u64 x64, .int .u64 x69]) rfl (res_row rfl (hS73.at 1 rfl) ag40 rfl) ?_
 exact ⟨halve_words (N := a) (t := 0) g1 (.inl rfl) (by have h1 := hc11; omega) (by have h1 := hc11; have hs := limb_sum a g1; unfold hvN; rw [if_neg (by omega)]; omega) hx49 hx50 hx51 hx52 hx55 hx56 hx57 hx58 hx61 hx62 hx63 hx64 hx67 hx68 hx69, hS73.none⟩
theorem c_rVal (p : Nat) (a : Nat) (w0 : World) (g0 : p < B256) (g1 : a < p) (g2 : p % 2 = 1) : Calls Tryz.prog 89 #[elV p, elV a] w0 (Ret fun uu w' => uu = elV (rVal p a) ∧ St [] w0 w' [] []) := by
 refine calls_of Tryz.func89 rfl Tryz.ntmps89 (Nat.le_of_ble_eq_true rfl) ?_
 have hS0 := St.nil w0
 refine C_sr ?_
 refine sqE (st_box (v := elV p) (cs := (elA p)) hS0 rfl rfl) fun b1 W2 hS3 => ?_
 refine sqE (st_box (v := elV a) (cs := (elA a)) hS3 rfl rfl) fun b4 W5 hS6 => ?_
 refine sqE (st_alloc hS6 ze40) fun b7 W8 hS9 => ?_
 show C _ _ _ _ _ _
 refine C_seq ?_
 refine C_sr ?_
 refine sqv (ex_assign (v := .int .i64 0) rfl) ?_
 show C _ _ _ _ _ _
 refine C_block ?_
 refine C_loop (fun nn aa ww => ∃ (m0 : Nat → Value) (k : Nat), nn = 256 - k ∧ aa = act 14 (upds m0 [(2, pt b1), (3, pt b4), (4, pt b7), (5, .int .i64 (k : Int))]) [] ∧ St [] w0 ww [some (b7, .cells #[.int .u64 0, .int .u64 0, .int .u64 0, .int .u64 0] 40), some (b4, .cells (elA (hvI p a k)) 40), some (b1, .cells (elA p) 40)] [] ∧ (k ≤ 256)) 256 ?_ ?_
 ·exact ⟨_, 0, rfl, act_upds ⟨rfl, rfl, rfl, (congrArg (Value.int .i64) (by first | rfl | omega)), trivial⟩, (St.pick (L := [some (b7, .cells #[.int .u64 0, .int .u64 0, .int .u64 0, .int .u64 0] 40), some (b4, .cells (elA a) 40), some (b1, .cells (elA p) 40)]) hS9 [0, 1, 2] (by decide)), (by decide)⟩
 rintro n13 a14 W11 ⟨m10, k, rfl, rfl, hS12, hk⟩
 have hvk := lt_256 g0 (hvI_lt g1 k)
 refine C_seq ?_
 refine C_sr ?_
 refine sqv (ex_move (v := .int .i64 (k : Int)) rfl) ?_
 refine sqv (ex_cmp (x := (k : Int)) (y := 256) (r := decide ((k : Int) < 256)) rfl rfl rfl) ?_
 show C _ _ _ _ _ _
 refine C_dec ((k : Int) < 256) rfl (fun hc15 => ?_) (fun hc15 => ?_)
 ·refine C_skip ?_
  show C _ _ _ _ _ _
  refine C_seq ?_
  refine C_block ?_
  refine C_region ?_
  refine sqv (ex_loads (vs := (el p)) rfl (hS12.at 2 rfl) ag40 rfl rfl) ?_
  refine sqv (ex_loads (vs := (el (hvI p a k))) rfl (hS12.at 1 rfl) ag40 rfl rfl) ?_
  refine sqc (exe_call (args := #[elV p, elV (hvI p a k)]) en125 (args_of2 rfl rfl)) (c_halve p (hvI p a k) W11 (by assumption) (by assumption) (by assumption)) ?_
  rintro _ W16 ⟨rfl, hT18⟩
  have hS17 := hS12.call hT18
  refine sqUE (st_stores (v := elV (hvN p (hvI p a k))) (cs' := (elA (hvN p (hvI p a k)))) 1 hS17 rfl rfl rfl ag40 rfl (Nat.le_of_ble_eq_true rfl) (ones_of rfl) rfl) fun W20 hS21 => ?_
  refine blk_normal ?_
  show C _ _ _ _ _ _
  refine C_region ?_
  refine sqv (ex_move (v := .int .i64 (k : Int)) rfl) ?_
  refine nm ((k : Int) + 1) fun x22 hx22 => ?_
  refine sqv (ex_add (x := (k : Int)) (y := 1) rfl rfl (w64 hx22 (by omega))) ?_
  refine sqv (ex_assign (v := .int .i64 x22) rfl) ?_
  exact ⟨_, (by omega), ⟨_, (k + 1), rfl, act_upds ⟨rfl, rfl, rfl, (congrArg (Value.int .i64) (by first | rfl | omega)), trivial⟩, (St.pick (L := [some (b7, .cells #[.int .u64 0, .int .u64 0, .int .u64 0, .int .u64 0] 40), some (b4, .cells (elA (hvN p (hvI p a k))) 40), some (b1, .cells (elA p) 40)]) hS21 [0, 1, 2] (by decide)), (by omega)⟩⟩
 refine C_exit ?_
 refine thn_exit ?_
 refine thn_exit ?_
 refine blk_exit ?_
 show C _ _ _ _ _ _
 refine C_sr ?_
 refine sqv (ex_loads (vs := (el (hvI p a k))) rfl (hS12.at 1 rfl) ag40 rfl rfl) ?_
 refine sqUE (st_stores (v := elV (hvI p a k)) (cs' := (elA (hvI p a k))) 0 hS12 rfl rfl rfl ag40 rfl (Nat.le_of_ble_eq_true rfl) (ones_of rfl) rfl) fun W23 hS24 => ?_
 show C _ _ _ _ _ _
 refine C_ret ?_
 refine done_1 (v := elV (hvI p a k)) rfl (res_row rfl (hS24.at 0 rfl) ag40 rfl) ?_
 obtain rfl : k = 256 := by omega
 exact ⟨rfl, hS24.none⟩
theorem f1_p : elV F1.p = .agg #[.int .u64 18446744073709551597, .int .u64 18446744073709551615, .int .u64 18446744073709551615, .int .u64 9223372036854775807] := by kernel_rfl
theorem f2_p : elV F2.p = .agg #[.int .u64 17562291160714782033, .int .u64 13611842547513532036, .int .u64 18446744073709551615, .int .u64 18446744069414584320] := by kernel_rfl
theorem c_Modulus (F : PrF) (n : Int) (w0 : World) (g0 : FOk F) (g1 : n = F.id) : Calls Tryz.prog 20 #[.int .i64 n] w0 (Ret fun uu w' => uu = elV F.p ∧ St [] w0 w' [] []) := by
 refine calls_of Tryz.func20 rfl Tryz.ntmps20 (Nat.le_of_ble_eq_true rfl) ?_
 have hS0 := St.nil w0
 refine C_sr ?_
 refine sqE (st_alloc hS0 ze40) fun b1 W2 hS3 => ?_
 show C _ _ _ _ _ _
 refine C_seq ?_
 refine C_sr ?_
 refine sqv (ex_move (v := .int .i64 n) rfl) ?_
 refine sqv (ex_cmp (x := n) (y := 1) (r := decide (n = 1)) rfl rfl rfl) ?_
 show C _ _ _ _ _ _
 refine C_dec (n = 1) rfl (fun hc4 => ?_) (fun hc4 => ?_)
 ·refine C_sr ?_
  refine sqv (ex_build (vs := [(0, .int .u64 18446744073709551597), (1, .int .u64 18446744073709551615), (2, .int .u64 18446744073709551615), (3, .int .u64 9223372036854775807)]) (cells := #[.int .u64 18446744073709551597, .int .u64 18446744073709551615, .int .u64 18446744073709551615, .int .u64 9223372036854775807]) rfl (by kernel_rfl)) ?_
  refine sqUE (st_stores (v := .agg #[.int .u64 18446744073709551597, .int .u64 18446744073709551615, .int .u64 18446744073709551615, .int .u64 9223372036854775807]) (cs' := #[.int .u64 18446744073709551597, .int .u64 18446744073709551615, .int .u64 18446744073709551615, .int .u64 9223372036854775807]) 0 hS3 rfl rfl rfl ag40 rfl (Nat.le_of_ble_eq_true rfl) (ones_of rfl) rfl) fun W5 hS6 => ?_
  show C _ _ _ _ _ _
  refine C_ret ?_
  refine thn_ret ?_
  refine done_1 (v := .agg #[.int .u64 18446744073709551597, .int .u64 18446744073709551615, .int .u64 18446744073709551615, .int .u64 9223372036854775807]) rfl (res_row rfl (hS6.at 0 rfl) ag40 rfl) ?_
  obtain rfl := fid1 g0 (by have := f1_id; omega)
  exact ⟨f1_p.symm, hS6.none⟩
 refine C_skip ?_
 show C _ _ _ _ _ _
 refine C_seq ?_
 refine C_sr ?_
 refine sqv (ex_move (v := .int .i64 n) rfl) ?_
 refine sqv (ex_cmp (x := n) (y := 2) (r := decide (n = 2)) rfl rfl rfl) ?_
 show C _ _ _ _ _ _
 refine C_dec (n = 2) rfl (fun hc7 => ?_) (fun hc7 => ?_)
 ·refine C_sr ?_
  refine sqv (ex_build (vs := [(0, .int .u64 17562291160714782033), (1, .int .u64 13611842547513532036), (2, .int .u64 18446744073709551615), (3, .int .u64 18446744069414584320)]) (cells := #[.int .u64 17562291160714782033, .int .u64 13611842547513532036, .int .u64 18446744073709551615, .int .u64 18446744069414584320]) rfl (by kernel_rfl)) ?_
  refine sqUE (st_stores (v := .agg #[.int .u64 17562291160714782033, .int .u64 13611842547513532036, .int .u64 18446744073709551615, .int .u64 18446744069414584320]) (cs' := #[.int .u64 17562291160714782033, .int .u64 13611842547513532036, .int .u64 18446744073709551615, .int .u64 18446744069414584320]) 0 hS3 rfl rfl rfl ag40 rfl (Nat.le_of_ble_eq_true rfl) (ones_of rfl) rfl) fun W8 hS9 => ?_
  show C _ _ _ _ _ _
  refine C_ret ?_
  refine thn_ret ?_
  refine done_1 (v := .agg #[.int .u64 17562291160714782033, .int .u64 13611842547513532036, .int .u64 18446744073709551615, .int .u64 18446744069414584320]) rfl (res_row rfl (hS9.at 0 rfl) ag40 rfl) ?_
  obtain rfl := fid2 g0 (by have := f2_id; omega)
  exact ⟨f2_p.symm, hS9.none⟩
 refine C_skip ?_
 show C _ _ _ _ _ _
 refine C_sr ?_
 refine sqv (ex_build (vs := []) (cells := #[.int .u64 0, .int .u64 0, .int .u64 0, .int .u64 0]) rfl (by kernel_rfl)) ?_
 refine sqUE (st_stores (v := .agg #[.int .u64 0, .int .u64 0, .int .u64 0, .int .u64 0]) (cs' := #[.int .u64 0, .int .u64 0, .int .u64 0, .int .u64 0]) 0 hS3 rfl rfl rfl ag40 rfl (Nat.le_of_ble_eq_true rfl) (ones_of rfl) rfl) fun W10 hS11 => ?_
 show C _ _ _ _ _ _
 refine C_ret ?_
 refine done_1 (v := .agg #[.int .u64 0, .int .u64 0, .int .u64 0, .int .u64 0]) rfl (res_row rfl (hS11.at 0 rfl) ag40 rfl) ?_
 exact absurd (fid_or g0) (by omega)
end Go.Proofs
end
section
set_option linter.unusedVariables false
set_option linter.unusedSimpArgs false
set_option maxRecDepth 20000
set_option maxHeartbeats 2000000
namespace Go.Proofs
open Sc
theorem sl70 : sliceOf Tryz.prog 70 = some (40, 4, 32) := by kernel_rfl
theorem c_Point (x : Int) (w0 : World) (g0 : 1 ≤ x ∧ x ≤ 255) : Calls Tryz.prog 87 #[.int .i64 x] w0 (Ret fun uu w' => uu = elV ((x).toNat) ∧ St [] w0 w' [] []) := by
 refine calls_of Tryz.func87 rfl Tryz.ntmps87 (Nat.le_of_ble_eq_true rfl) ?_
 have hS0 := St.nil w0
 refine C_sr ?_
 refine sqE (st_alloc hS0 ze40) fun b1 W2 hS3 => ?_
 show C _ _ _ _ _ _
 refine C_sr ?_
 refine sqv (ex_move (v := .int .i64 x) rfl) ?_
 refine nm (x % 18446744073709551616) fun x4 hx4 => ?_
 refine sqv (ex_conv ik3 ik39 (x := x) rfl (wu64 hx4)) ?_
 refine sqv (ex_build (vs := [(0, .int .u64 x4)]) (cells := #[.int .u64 x4, .int .u64 0, .int .u64 0, .int .u64 0]) rfl (by kernel_rfl)) ?_
 refine sqUE (st_stores (v := .agg #[.int .u64 x4, .int .u64 0, .int .u64 0, .int .u64 0]) (cs' := #[.int .u64 x4, .int .u64 0, .int .u64 0, .int .u64 0]) 0 hS3 rfl rfl rfl ag40 rfl (Nat.le_of_ble_eq_true rfl) (ones_of rfl) rfl) fun W5 hS6 => ?_
 show C _ _ _ _ _ _
 refine C_ret ?_
 refine done_1 (v := .agg #[.int .u64 x4, .int .u64 0, .int .u64 0, .int .u64 0]) rfl (res_row rfl (hS6.at 0 rfl) ag40 rfl) ?_
 exact ⟨elV_small (x := x4) (N := x.toNat) (by omega) (by omega), hS6.none⟩
theorem c_rEval (p : Nat) (x : Nat) (s : Value) (cs : List Nat) (Z0 : List Fact) (w0 : World) (g0 : p < B256) (g1 : 1 < p) (g2 : ∀ z ∈ cs, z < p) (g3 : x < B256) (hZ0 : Holds w0 Z0) (hs_s : Sl Z0 40 4 s (cs.flatMap el)) : Calls Tryz.prog 86 #[elV p, s, elV x] w0 (Ret fun uu w' => uu = elV (rEvl p cs x) ∧ St [] w0 w' [] []) := by
 have hp0 : 0 < p := by omega
 have hlen := sl_lt (f := el) (k := 4) (fun _ => rfl) (by decide) hs_s
 refine calls_of Tryz.func86 rfl Tryz.ntmps86 (Nat.le_of_ble_eq_true rfl) ?_
 have hS0 := St.nil w0
 refine C_sr ?_
 refine sqE (st_box (v := elV p) (cs := (elA p)) hS0 rfl rfl) fun b1 W2 hS3 => ?_
 refine sqE (st_box (v := elV x) (cs := (elA x)) hS3 rfl rfl) fun b4 W5 hS6 => ?_
 refine sqE (st_alloc hS6 ze40) fun b7 W8 hS9 => ?_
 show C _ _ _ _ _ _
 refine C_sr ?_
 refine sqE (st_alloc hS9 ze40) fun b10 W11 hS12 => ?_
 show C _ _ _ _ _ _
 refine C_sr ?_
 refine sqc (exe_call (args := #[]) en59 args_of0) (c_One W11) ?_
 rintro _ W13 ⟨rfl, hT15⟩
 have hS14 := hS12.call hT15
 refine sqE (st_alloc hS14 ze40) fun b17 W18 hS19 => ?_
 refine sqUE (st_stores (v := elV 1) (cs' := (elA 1)) 0 hS19 rfl rfl rfl ag40 rfl (Nat.le_of_ble_eq_true rfl) (ones_of rfl) rfl) fun W20 hS21 => ?_
 show C _ _ _ _ _ _
 refine C_seq ?_
 refine C_sr ?_
 refine sqv (ex_assign (v := .int .i64 0) rfl) ?_
 show C _ _ _ _ _ _
 refine C_block ?_
 refine C_loop (fun nn aa ww => ∃ (m0 : Nat → Value) (k o q : Nat), nn = cs.length - k ∧ aa = act 32 (upds m0 [(1, s), (3, pt b1), (5, pt b4), (6, pt b7), (7, pt b10), (8, pt b17), (9, .int .i64 (k : Int))]) [] ∧ St [] w0 ww [some (b17, .cells (elA q) 40), some (b10, .cells (elA o) 40), some (b7, .cells #[.int .u64 0, .int .u64 0, .int .u64 0, .int .u64 0] 40), some (b4, .cells (elA x) 40), some (b1, .cells (elA p) 40)] [] ∧ (k ≤ cs.length) ∧ (o = rEvO p cs x k) ∧ (q = rEvP p x k)) cs.length ?_ ?_
 ·exact ⟨_, 0, 0, 1, rfl, act_upds ⟨rfl, rfl, rfl, rfl, rfl, rfl, (congrArg (Value.int .i64) (by first | rfl | omega)), trivial⟩, (St.pick (L := [some (b17, .cells (elA 1) 40), some (b10, .cells #[.int .u64 0, .int .u64 0, .int .u64 0, .int .u64 0] 40), some (b7, .cells #[.int .u64 0, .int .u64 0, .int .u64 0, .int .u64 0] 40), some (b4, .cells (elA x) 40), some (b1, .cells (elA p) 40)]) hS21 [0, 1, 2, 3, 4] (by decide)), (Nat.zero_le _), rfl, rfl⟩
 rintro n25 a26 W23 ⟨m22, k, o, q, rfl, rfl, hS24, hk, ho, hq⟩
 have hO : o < p := ho ▸ rEvO_lt hp0 k
 have hP : q < p := hq ▸ rEvP_lt g1 k
 refine C_seq ?_
 refine C_sr ?_
 refine sqv (ex_move (v := .int .i64 (k : Int)) rfl) ?_
 refine sqv (ex_move (v := s) rfl) ?_
 refine sqv (ex_lenO (f := el) (k := 4) (r := (cs.length : Int)) (fun _ => rfl) (by decide) (hs_s) rfl sl70 rfl) ?_
 refine sqv (ex_cmp (x := (k : Int)) (y := (cs.length : Int)) (r := decide ((k : Int) < (cs.length : Int))) rfl rfl rfl) ?_
 show C _ _ _ _ _ _
 refine C_dec ((k : Int) < (cs.length : Int)) rfl (fun hc27 => ?_) (fun hc27 => ?_)
 ·refine C_skip ?_
  show C _ _ _ _ _ _
  refine C_seq ?_
  refine C_block ?_
  refine C_seq ?_
  obtain ⟨y28, hy29⟩ := get_lt cs k (by first | omega | (simp only [List.length_set, List.length_replicate, List.length_append, List.length_take, List.length_drop, List.length_cons, List.length_nil, List.length_map]; omega))
  have hky28 := g2 y28 (List.mem_of_getElem? hy29)
  obtain ⟨b30, o31, hI32, hC33⟩ := sl_at (f := el) (k := 4) (fun _ => rfl) (by decide) (hs_s) hy29
  refine C_draw (p := 10) (l := [(some 17, elV p), (some 18, elV o), (some 19, elV p), (some 20, s), (some 21, .int .i64 (k : Int)), (some 22, .pointer (some ⟨b30, o31, none⟩)), (some 23, elV y28), (some 24, elV q), (some 25, elV (rMul p y28 q)), (some 26, elV (rAdd p o (rMul p y28 q)))]) (G := []) (J := fun w => St [] w0 w [some (b17, .cells (elA q) 40), some (b10, .cells (elA o) 40), some (b7, .cells #[.int .u64 0, .int .u64 0, .int .u64 0, .int .u64 0] 40), some (b4, .cells (elA x) 40), some (b1, .cells (elA p) 40)] []) mixed ?_ (hS24.draw _)
  refine node1 10 [] [] [] (by kernel_rfl) rfl rfl (nd rfl) rfl (by kernel_rfl) ?_ ?_ ?_
  ·intro S wd hSd
   refine ⟨n0 rfl rfl rfl (ex_loads (vs := (el p)) rfl (hSd.at 4 rfl) ag40 rfl rfl) rfl hSd, n0 rfl rfl rfl (ex_loads (vs := (el o)) rfl (hSd.at 1 rfl) ag40 rfl rfl) rfl hSd, n0 rfl rfl rfl (ex_loads (vs := (el p)) rfl (hSd.at 4 rfl) ag40 rfl rfl) rfl hSd, n0 rfl rfl rfl (ex_move (v := s) rfl) rfl hSd, n0 rfl rfl rfl (ex_move (v := .int .i64 (k : Int)) rfl) rfl hSd, n2 rfl rfl rfl rfl (fun hq3 hq4 => (ex_sindexO hI32 (evS hq3 rfl rfl) (evS hq4 rfl rfl) sl70 rfl)) rfl hSd, n1 rfl rfl rfl rfl (fun hq5 => (ex_loadsC (r := 0) (vs := (el y28)) hC33 (hSd.holds0 hZ0) (evS hq5 rfl rfl) ag40 rfl rfl rfl)) rfl hSd, n0 rfl rfl rfl (ex_loads (vs := (el q)) rfl (hSd.at 0 rfl) ag40 rfl rfl) rfl hSd, ?_, ?_, tt⟩
   ·refine needG rfl ?_
    rintro ⟨hq2, hq6, hq7, _⟩ hno
    refine dxC (wanted_none rfl) rfl (exe_call (args := #[elV p, elV y28, elV q]) en58 (args_of3 (evS hq2 rfl rfl) (evS hq6 rfl rfl) (evS hq7 rfl rfl))) (c_rMul p y28 q wd (by assumption) (by assumption) (by first | assumption | exact lt_256 g0 (by assumption))) ?_
    rintro _ W34 ⟨rfl, hT36⟩
    have hS35 := hSd.call hT36
    exact ⟨rfl, hS35⟩
   refine needG rfl ?_
   rintro ⟨hq0, hq1, hq8, hq8, _⟩ hno
   refine dxC (wanted_none rfl) rfl (exe_call (args := #[elV p, elV o, elV (rMul p y28 q)]) en22 (args_of3 (evS hq0 rfl rfl) (evS hq1 rfl rfl) (evS hq8 rfl rfl))) (c_rAdd p o (rMul p y28 q) wd (by assumption) (by assumption) (rMul_lt hp0)) ?_
   rintro _ W38 ⟨rfl, hT40⟩
   have hS39 := hSd.call hT40
   exact ⟨rfl, hS39⟩
  ·exact fun S wd hSd => ⟨True.intro, True.intro, True.intro, True.intro, True.intro, True.intro, True.intro, True.intro, True.intro, True.intro, True.intro⟩
  intro _ W42 hS43
  refine sqUE (st_stores (v := elV (rAdd p o (rMul p y28 q))) (cs' := (elA (rAdd p o (rMul p y28 q)))) 1 hS43 rfl rfl rfl ag40 rfl (Nat.le_of_ble_eq_true rfl) (ones_of rfl) rfl) fun W44 hS45 => ?_
  show C _ _ _ _ _ _
  refine C_region ?_
  refine sqv (ex_loads (vs := (el p)) rfl (hS45.at 4 rfl) ag40 rfl rfl) ?_
  refine sqv (ex_loads (vs := (el q)) rfl (hS45.at 0 rfl) ag40 rfl rfl) ?_
  refine sqv (ex_loads (vs := (el x)) rfl (hS45.at 3 rfl) ag40 rfl rfl) ?_
  refine sqc (exe_call (args := #[elV p, elV q, elV x]) en58 (args_of3 rfl rfl rfl)) (c_rMul p q x W44 (by assumption) (by assumption) (by first | assumption | exact lt_256 g0 (by assumption))) ?_
  rintro _ W46 ⟨rfl, hT48⟩
  have hS47 := hS45.call hT48
  refine sqUE (st_stores (v := elV (rMul p q x)) (cs' := (elA (rMul p q x))) 0 hS47 rfl rfl rfl ag40 rfl (Nat.le_of_ble_eq_true rfl) (ones_of rfl) rfl) fun W50 hS51 => ?_
  refine blk_normal ?_
  show C _ _ _ _ _ _
  refine C_region ?_
  refine sqv (ex_move (v := .int .i64 (k : Int)) rfl) ?_
  refine nm ((k : Int) + 1) fun x52 hx52 => ?_
  refine sqv (ex_add (x := (k : Int)) (y := 1) rfl rfl (w64 hx52 (by omega))) ?_
  refine sqv (ex_assign (v := .int .i64 x52) rfl) ?_
  exact ⟨_, (by omega), ⟨_, (k + 1), (rAdd p o (rMul p y28 q)), (rMul p q x), rfl, act_upds ⟨rfl, rfl, rfl, rfl, rfl, rfl, (congrArg (Value.int .i64) (by first | rfl | omega)), trivial⟩, (St.pick (L := [some (b17, .cells (elA (rMul p q x)) 40), some (b10, .cells (elA (rAdd p o (rMul p y28 q))) 40), some (b7, .cells #[.int .u64 0, .int .u64 0, .int .u64 0, .int .u64 0] 40), some (b4, .cells (elA x) 40), some (b1, .cells (elA p) 40)]) hS51 [0, 1, 2, 3, 4] (by decide)), (by omega), (by rw [rEvO, getD_some hy29, ho, hq]), (by rw [rEvP, hq])⟩⟩
 refine C_exit ?_
 refine thn_exit ?_
 refine thn_exit ?_
 refine blk_exit ?_
 show C _ _ _ _ _ _
 refine C_sr ?_
 refine sqv (ex_loads (vs := (el o)) rfl (hS24.at 1 rfl) ag40 rfl rfl) ?_
 refine sqUE (st_stores (v := elV o) (cs' := (elA o)) 2 hS24 rfl rfl rfl ag40 rfl (Nat.le_of_ble_eq_true rfl) (ones_of rfl) rfl) fun W53 hS54 => ?_
 show C _ _ _ _ _ _
 refine C_ret ?_
 refine done_1 (v := elV o) rfl (res_row rfl (hS54.at 2 rfl) ag40 rfl) ?_
 obtain rfl : k = cs.length := by omega
 exact ⟨by rw [rEvl, ho], hS54.none⟩
theorem c_rpMul (p : Nat) (a : Value) (as_ : List Nat) (b : Value) (bs : List Nat) (Z0 : List Fact) (w0 : World) (g0 : p < B256) (g1 : 1 < p) (g2 : ∀ z ∈ as_, z < p) (g3 : ∀ z ∈ bs, z < p) (g4 : as_.length + bs.length < 1000000) (hZ0 : Holds w0 Z0) (hs_a : Sl Z0 40 4 a (as_.flatMap el)) (hs_b : Sl Z0 40 4 b (bs.flatMap el)) : Calls Tryz.prog 127 #[elV p, a, b] w0 (Ret fun uu w' => ∃ (v : Value), ∃ (en : Ent), uu = v ∧ (Own 40 4 el v (rpMul p as_ bs) en) ∧ St [] w0 w' [en] []) := by
 have hp0 : 0 < p := by omega
 refine calls_of Tryz.func127 rfl Tryz.ntmps127 (Nat.le_of_ble_eq_true rfl) ?_
 have hS0 := St.nil w0
 refine C_sr ?_
 refine sqE (st_box (v := elV p) (cs := (elA p)) hS0 rfl rfl) fun b1 W2 hS3 => ?_
 refine sqv (ex_assign (v := .slice none 0 0) rfl) ?_
 show C _ _ _ _ _ _
 refine C_seq ?_
 refine C_sr ?_
 refine sqv (ex_move (v := a) rfl) ?_
 refine sqv (ex_lenO (f := el) (k := 4) (r := (as_.length : Int)) (fun _ => rfl) (by decide) (hs_a) rfl sl70 rfl) ?_
 refine nm (decide ((as_.length : Int) = 0)) fun t4 ht4 => ?_
 refine sqv (ex_cmp (x := (as_.length : Int)) (y := 0) rfl rfl ht4) ?_
 refine sqv (ex_move (v := .bool t4) rfl) ?_
 rcases bool_cases t4 with hb5 | hb5
 ·subst hb5
  have hb5 := of_decide_eq_true ht4.symm
  refine guard_no (b' := true) rfl rfl (by decide) ?_
  refine guard_no (b' := true) rfl rfl (by decide) ?_
  refine guard_no (b' := true) rfl rfl (by decide) ?_
  refine sqv (ex_pick (t := true) (v := .bool true) rfl rfl) ?_
  show C _ _ _ _ _ _
  refine C_true rfl ?_
  refine C_sr ?_
  refine sqv (ex_assign (v := .slice none 0 0) rfl) ?_
  show C _ _ _ _ _ _
  refine C_ret ?_
  refine thn_ret ?_
  refine done_1 (v := .slice none 0 0) rfl rfl ?_
  exact ⟨_, none, rfl, by rw [show rpMul p as_ bs = [] from by unfold rpMul; rw [if_pos (by omega)]]; exact Own.nil _ _ _, hS3.none.non⟩
 subst hb5
 have hb5 := of_decide_eq_false ht4.symm
 refine guard_yes (b := false) rfl rfl ?_
 refine sqv (ex_move (v := b) rfl) ?_
 refine guard_yes (b := false) rfl rfl ?_
 refine sqv (ex_lenO (f := el) (k := 4) (r := (bs.length : Int)) (fun _ => rfl) (by decide) (hs_b) rfl sl70 rfl) ?_
 refine guard_yes (b := false) rfl rfl ?_
 refine nm (decide ((bs.length : Int) = 0)) fun t6 ht6 => ?_
 refine sqv (ex_cmp (x := (bs.length : Int)) (y := 0) rfl rfl ht6) ?_
 refine sqv (ex_pick (t := false) (v := .bool t6) rfl rfl) ?_
 show C _ _ _ _ _ _
 refine C_if (t := t6) rfl (fun hc7 => ?_) (fun hc7 => ?_)
 ·have hc7' := of_decide_eq_true (ht6.symm.trans hc7)
  refine C_sr ?_
  refine sqv (ex_assign (v := .slice none 0 0) rfl) ?_
  show C _ _ _ _ _ _
  refine C_ret ?_
  refine thn_ret ?_
  refine done_1 (v := .slice none 0 0) rfl rfl ?_
  exact ⟨_, none, rfl, by rw [show rpMul p as_ bs = [] from by unfold rpMul; rw [if_pos (by omega)]]; exact Own.nil _ _ _, hS3.none.non⟩
 have hc7' := of_decide_eq_false (ht6.symm.trans hc7)
 refine C_skip ?_
 show C _ _ _ _ _ _
 refine C_sr ?_
 refine sqv (ex_move (v := a) rfl) ?_
 refine sqv (ex_lenO (f := el) (k := 4) (r := (as_.length : Int)) (fun _ => rfl) (by decide) (hs_a) rfl sl70 rfl) ?_
 refine sqv (ex_move (v := b) rfl) ?_
 refine sqv (ex_lenO (f := el) (k := 4) (r := (bs.length : Int)) (fun _ => rfl) (by decide) (hs_b) rfl sl70 rfl) ?_
 refine nm ((as_.length : Int) + (bs.length : Int)) fun x8 hx8 => ?_
 refine sqv (ex_add (x := (as_.length : Int)) (y := (bs.length : Int)) rfl rfl (w64 hx8 (by omega))) ?_
 refine nm (x8 - 1) fun x9 hx9 => ?_
 refine sqv (ex_sub (x := x8) (y := 1) rfl rfl (w64 hx9 (by omega))) ?_
 obtain ⟨j13, hj14⟩ := ex_nat x9 (by omega)
 refine sqE (st_makeM (f := el) (k := 4) 0 j13 hS3 sl70 ze40 (by rfl) rfl (by decide) rfl rfl (by omega) (by omega) (by omega)) fun b10 W11 hS12 => ?_
 refine sqv (ex_assign (v := .slice (so b10) j13 j13) rfl) ?_
 show C _ _ _ _ _ _
 refine C_seq ?_
 refine C_sr ?_
 refine sqv (ex_assign (v := .int .i64 0) rfl) ?_
 show C _ _ _ _ _ _
 refine C_block ?_
 refine C_loop (fun nn aa ww => ∃ (m0 : Nat → Value) (i : Nat) (o : List Nat), nn = as_.length - i ∧ aa = act 61 (upds m0 [(1, a), (2, b), (3, pt b1), (6, .slice none 0 0), (7, .slice (so b10) j13 j13), (8, .int .i64 (i : Int))]) [] ∧ St [] w0 ww [some (b10, .cells (o.flatMap el).toArray 40), some (b1, .cells (elA p) 40)] [] ∧ (i ≤ as_.length) ∧ (o.length = j13) ∧ (rmAll p (as_.drop i) bs i o = rmAll p as_ bs 0 (List.replicate j13 0)) ∧ (∀ z ∈ o, z < p)) as_.length ?_ ?_
 ·exact ⟨_, 0, (List.replicate j13 0), rfl, act_upds ⟨rfl, rfl, rfl, rfl, rfl, (congrArg (Value.int .i64) (by first | rfl | omega)), trivial⟩, (St.pick (L := [some (b10, .cells ((List.replicate j13 0).flatMap el).toArray 40), some (b1, .cells (elA p) 40)]) hS12 [0, 1] (by decide)), (Nat.zero_le _), (by simp), rfl, (all_rep hp0)⟩
 rintro n18 a19 W16 ⟨m15, i, o, rfl, rfl, hS17, hi, hol, ho, hop⟩
 refine C_seq ?_
 refine C_sr ?_
 refine sqv (ex_move (v := .int .i64 (i : Int)) rfl) ?_
 refine sqv (ex_move (v := a) rfl) ?_
 refine sqv (ex_lenO (f := el) (k := 4) (r := (as_.length : Int)) (fun _ => rfl) (by decide) (hs_a) rfl sl70 rfl) ?_
 refine sqv (ex_cmp (x := (i : Int)) (y := (as_.length : Int)) (r := decide ((i : Int) < (as_.length : Int))) rfl rfl rfl) ?_
 show C _ _ _ _ _ _
 refine C_dec ((i : Int) < (as_.length : Int)) rfl (fun hc20 => ?_) (fun hc20 => ?_)
 ·refine C_skip ?_
  show C _ _ _ _ _ _
  refine C_seq ?_
  refine C_block ?_
  refine C_sr ?_
  refine sqv (ex_assign (v := .int .i64 0) rfl) ?_
  show C _ _ _ _ _ _
  refine C_block ?_
  obtain ⟨ya, hya⟩ := get_lt as_ i (by omega)
  have hka := g2 ya (List.mem_of_getElem? hya)
  refine C_loop (fun nn aa ww => ∃ (m0 : Nat → Value) (k : Nat) (o2 : List Nat), nn = bs.length - k ∧ aa = act 61 (upds m0 [(1, a), (2, b), (3, pt b1), (6, .slice none 0 0), (7, .slice (so b10) j13 j13), (8, .int .i64 (i : Int)), (9, .int .i64 (k : Int))]) [] ∧ St [] w0 ww [some (b10, .cells (o2.flatMap el).toArray 40), some (b1, .cells (elA p) 40)] [] ∧ (k ≤ bs.length) ∧ (o2.length = j13) ∧ (rmRow p ya (bs.drop k) (i + k) o2 = rmRow p ya bs i o) ∧ (∀ z ∈ o2, z < p)) bs.length ?_ ?_
  ·exact ⟨_, 0, o, rfl, act_upds ⟨rfl, rfl, rfl, rfl, rfl, (congrArg (Value.int .i64) (by first | rfl | omega)), (congrArg (Value.int .i64) (by first | rfl | omega)), trivial⟩, (St.pick (L := [some (b10, .cells (o.flatMap el).toArray 40), some (b1, .cells (elA p) 40)]) hS17 [0, 1] (by decide)), (Nat.zero_le _), hol, rfl, hop⟩
  rintro n24 a25 W22 ⟨m21, k, o2, rfl, rfl, hS23, hk, hol2, h2, hop2⟩
  refine C_seq ?_
  refine C_sr ?_
  refine sqv (ex_move (v := .int .i64 (k : Int)) rfl) ?_
  refine sqv (ex_move (v := b) rfl) ?_
  refine sqv (ex_lenO (f := el) (k := 4) (r := (bs.length : Int)) (fun _ => rfl) (by decide) (hs_b) rfl sl70 rfl) ?_
  refine sqv (ex_cmp (x := (k : Int)) (y := (bs.length : Int)) (r := decide ((k : Int) < (bs.length : Int))) rfl rfl rfl) ?_
  show C _ _ _ _ _ _
  refine C_dec ((k : Int) < (bs.length : Int)) rfl (fun hc26 => ?_) (fun hc26 => ?_)
  ·refine C_skip ?_
   show C _ _ _ _ _ _
   refine C_seq ?_
   refine C_block ?_
   refine nm ((i : Int) + (k : Int)) fun x27 hx27 => ?_
   refine nm ((i : Int) + (k : Int)) fun x28 hx28 => ?_
   have hj29 : x28 = (((i + k) : Nat) : Int) := by omega
   obtain ⟨y30, hy31⟩ := get_lt o2 (i + k) (by first | omega | (simp only [List.length_set, List.length_replicate, List.length_append, List.length_take, List.length_drop, List.length_cons, List.length_nil, List.length_map]; omega))
   have hky30 := hop2 y30 (List.mem_of_getElem? hy31)
   obtain ⟨b32, o33, hI34, hC35⟩ := sl_at (f := el) (k := 4) (fun _ => rfl) (by decide) (hs_a) hya
   obtain ⟨y36, hy37⟩ := get_lt bs k (by first | omega | (simp only [List.length_set, List.length_replicate, List.length_append, List.length_take, List.length_drop, List.length_cons, List.length_nil, List.length_map]; omega))
   have hky36 := g3 y36 (List.mem_of_getElem? hy37)
   obtain ⟨b38, o39, hI40, hC41⟩ := sl_at (f := el) (k := 4) (fun _ => rfl) (by decide) (hs_b) hy37
   refine C_draw (p := 22) (l := [(some 37, .slice (so b10) j13 j13), (some 38, .int .i64 (i : Int)), (some 39, .int .i64 (k : Int)), (some 40, .int .i64 x27), (some 41, elV p), (some 42, .slice (so b10) j13 j13), (some 43, .int .i64 (i : Int)), (some 44, .int .i64 (k : Int)), (some 45, .int .i64 x28), (some 46, .pointer (some ⟨b10, (i + k) * 4, none⟩)), (some 47, elV y30), (some 48, elV p), (some 49, a), (some 50, .int .i64 (i : Int)), (some 51, .pointer (some ⟨b32, o33, none⟩)), (some 52, elV ya), (some 53, b), (some 54, .int .i64 (k : Int)), (some 55, .pointer (some ⟨b38, o39, none⟩)), (some 56, elV y36), (some 57, elV (rMul p ya y36)), (some 58, elV (rAdd p y30 (rMul p ya y36)))]) (G := []) (J := fun w => St [] w0 w [some (b10, .cells (o2.flatMap el).toArray 40), some (b1, .cells (elA p) 40)] []) mixed ?_ (hS23.draw _)
   refine node1 22 [] [] [] (by kernel_rfl) rfl rfl (nd rfl) rfl (by kernel_rfl) ?_ ?_ ?_
   ·intro S wd hSd
    refine ⟨n0 rfl rfl rfl (ex_move (v := .slice (so b10) j13 j13) rfl) rfl hSd, n0 rfl rfl rfl (ex_move (v := .int .i64 (i : Int)) rfl) rfl hSd, n0 rfl rfl rfl (ex_move (v := .int .i64 (k : Int)) rfl) rfl hSd, n2 rfl rfl rfl rfl (fun hq1 hq2 => (ex_add (x := (i : Int)) (y := (k : Int)) (evS hq1 rfl rfl) (evS hq2 rfl rfl) (w64 hx27 (by omega)))) rfl hSd, n0 rfl rfl rfl (ex_loads (vs := (el p)) rfl (hSd.at 1 rfl) ag40 rfl rfl) rfl hSd, n0 rfl rfl rfl (ex_move (v := .slice (so b10) j13 j13) rfl) rfl hSd, n0 rfl rfl rfl (ex_move (v := .int .i64 (i : Int)) rfl) rfl hSd, n0 rfl rfl rfl (ex_move (v := .int .i64 (k : Int)) rfl) rfl hSd, n2 rfl rfl rfl rfl (fun hq6 hq7 => (ex_add (x := (i : Int)) (y := (k : Int)) (evS hq6 rfl rfl) (evS hq7 rfl rfl) (w64 hx28 (by omega)))) rfl hSd, n2 rfl rfl rfl rfl (fun hq5 hq8 => (ex_sindex (j := x28) (o' := (i + k) * 4) (evS hq5 rfl rfl) (evS hq8 rfl rfl) sl70 (by omega) (by omega) (by omega))) rfl hSd, n1 rfl rfl rfl rfl (fun hq9 => (ex_loadsM (f := el) (k := 4) (i := (i + k)) (fun _ => rfl) (evS hq9 rfl rfl) (hSd.at 0 rfl) ag40 rfl hy31)) rfl hSd, n0 rfl rfl rfl (ex_loads (vs := (el p)) rfl (hSd.at 1 rfl) ag40 rfl rfl) rfl hSd, n0 rfl rfl rfl (ex_move (v := a) rfl) rfl hSd, n0 rfl rfl rfl (ex_move (v := .int .i64 (i : Int)) rfl) rfl hSd, n2 rfl rfl rfl rfl (fun hq12 hq13 => (ex_sindexO hI34 (evS hq12 rfl rfl) (evS hq13 rfl rfl) sl70 rfl)) rfl hSd, n1 rfl rfl rfl rfl (fun hq14 => (ex_loadsC (r := 0) (vs := (el ya)) hC35 (hSd.holds0 hZ0) (evS hq14 rfl rfl) ag40 rfl rfl rfl)) rfl hSd, n0 rfl rfl rfl (ex_move (v := b) rfl) rfl hSd, n0 rfl rfl rfl (ex_move (v := .int .i64 (k : Int)) rfl) rfl hSd, n2 rfl rfl rfl rfl (fun hq16 hq17 => (ex_sindexO hI40 (evS hq16 rfl rfl) (evS hq17 rfl rfl) sl70 rfl)) rfl hSd, n1 rfl rfl rfl rfl (fun hq18 => (ex_loadsC (r := 0) (vs := (el y36)) hC41 (hSd.holds0 hZ0) (evS hq18 rfl rfl) ag40 rfl rfl rfl)) rfl hSd, ?_, ?_, tt⟩
    ·refine needG rfl ?_
     rintro ⟨hq11, hq15, hq19, _⟩ hno
     refine dxC (wanted_none rfl) rfl (exe_call (args := #[elV p, elV ya, elV y36]) en58 (args_of3 (evS hq11 rfl rfl) (evS hq15 rfl rfl) (evS hq19 rfl rfl))) (c_rMul p ya y36 wd (by assumption) (by assumption) (lt_256 g0 (by assumption))) ?_
     rintro _ W42 ⟨rfl, hT44⟩
     have hS43 := hSd.call hT44
     exact ⟨rfl, hS43⟩
    refine needG rfl ?_
    rintro ⟨hq4, hq10, hq20, hq20, _⟩ hno
    refine dxC (wanted_none rfl) rfl (exe_call (args := #[elV p, elV y30, elV (rMul p ya y36)]) en22 (args_of3 (evS hq4 rfl rfl) (evS hq10 rfl rfl) (evS hq20 rfl rfl))) (c_rAdd p y30 (rMul p ya y36) wd (by assumption) (by assumption) (rMul_lt hp0)) ?_
    rintro _ W46 ⟨rfl, hT48⟩
    have hS47 := hSd.call hT48
    exact ⟨rfl, hS47⟩
   ·exact fun S wd hSd => ⟨True.intro, True.intro, True.intro, True.intro, True.intro, True.intro, True.intro, True.intro, True.intro, True.intro, True.intro, True.intro, True.intro, True.intro, True.intro, True.intro, True.intro, True.intro, True.intro, True.intro, True.intro, True.intro, True.intro⟩
   intro _ W50 hS51
   have hj52 : x27 = (((i + k) : Nat) : Int) := by omega
   refine sqv (ex_sindex (j := x27) (o' := (i + k) * 4) rfl rfl sl70 (by omega) (by omega) (by omega)) ?_
   refine sqUE (st_storesM (f := el) (k := 4) (z := rAdd p y30 (rMul p ya y36)) (i' := (i + k)) (fun _ => rfl) 0 hS51 rfl rfl rfl ag40 rfl (by first | omega | (simp only [List.length_set, List.length_replicate, List.length_append, List.length_take, List.length_drop]; omega)) rfl (ones_of rfl)) fun W53 hS54 => ?_
   refine blk_normal ?_
   show C _ _ _ _ _ _
   refine C_region ?_
   refine sqv (ex_move (v := .int .i64 (k : Int)) rfl) ?_
   refine nm ((k : Int) + 1) fun x55 hx55 => ?_
   refine sqv (ex_add (x := (k : Int)) (y := 1) rfl rfl (w64 hx55 (by omega))) ?_
   refine sqv (ex_assign (v := .int .i64 x55) rfl) ?_
   exact ⟨_, (by omega), ⟨_, (k + 1), (o2.set (i + k) (rAdd p y30 (rMul p ya y36))), rfl, act_upds ⟨rfl, rfl, rfl, rfl, rfl, (congrArg (Value.int .i64) (by first | rfl | omega)), (congrArg (Value.int .i64) (by first | rfl | omega)), trivial⟩, (St.pick (L := [some (b10, .cells ((o2.set (i + k) (rAdd p y30 (rMul p ya y36))).flatMap el).toArray 40), some (b1, .cells (elA p) 40)]) hS54 [0, 1] (by decide)), (by omega), (by rw [List.length_set]; exact hol2), rmrow_step hy37 hy31 h2, (all_set hop2 (rAdd_lt hp0))⟩⟩
  refine C_exit ?_
  refine thn_exit ?_
  refine thn_exit ?_
  refine blk_exit ?_
  refine blk_normal ?_
  show C _ _ _ _ _ _
  refine C_region ?_
  refine sqv (ex_move (v := .int .i64 (i : Int)) rfl) ?_
  refine nm ((i : Int) + 1) fun x56 hx56 => ?_
  refine sqv (ex_add (x := (i : Int)) (y := 1) rfl rfl (w64 hx56 (by omega))) ?_
  refine sqv (ex_assign (v := .int .i64 x56) rfl) ?_
  obtain rfl : k = bs.length := by omega
  rw [List.drop_length] at h2
  exact ⟨_, (by omega), ⟨_, (i + 1), o2, rfl, act_upds ⟨rfl, rfl, rfl, rfl, rfl, (congrArg (Value.int .i64) (by first | rfl | omega)), trivial⟩, (St.pick (L := [some (b10, .cells (o2.flatMap el).toArray 40), some (b1, .cells (elA p) 40)]) hS23 [0, 1] (by decide)), (by omega), hol2, rmall_step hya ho h2, hop2⟩⟩
 refine C_exit ?_
 refine thn_exit ?_
 refine thn_exit ?_
 refine blk_exit ?_
 show C _ _ _ _ _ _
 refine C_sr ?_
 refine sqv (ex_move (v := .slice (so b10) j13 j13) rfl) ?_
 refine sqv (ex_assign (v := .slice (so b10) j13 j13) rfl) ?_
 show C _ _ _ _ _ _
 refine C_ret ?_
 refine done_1 (v := .slice (so b10) j13 j13) rfl rfl ?_
 obtain rfl : i = as_.length := by omega
 rw [List.drop_length] at ho
 have hpm : o = rpMul p as_ bs := by unfold rpMul; rw [if_neg (by omega), show as_.length + bs.length - 1 = j13 from by omega]; exact ho
 exact ⟨_, _, rfl, by rw [← hpm]; exact Own.of (fun _ => rfl) (by rw [hol]) rfl (by simp only [maxLen]; omega), (St.pick (L := [some (b10, .cells (o.flatMap el).toArray 40), some (b1, .cells (elA p) 40)]) hS17 [0] (by decide))⟩
theorem c_rpAdd (p : Nat) (a : Value) (as_ : List Nat) (b : Value) (bs : List Nat) (Z0 : List Fact) (w0 : World) (g0 : p < B256) (g1 : 1 < p) (g2 : ∀ z ∈ as_, z < p) (g3 : ∀ z ∈ bs, z < p) (g4 : as_.length < 1000000 ∧ bs.length < 1000000) (hZ0 : Holds w0 Z0) (hs_a : Sl Z0 40 4 a (as_.flatMap el)) (hs_b : Sl Z0 40 4 b (bs.flatMap el)) : Calls Tryz.prog 129 #[elV p, a, b] w0 (Ret fun uu w' => ∃ (v : Value), ∃ (en : Ent), uu = v ∧ (Own 40 4 el v (rpAdd p as_ bs) en) ∧ St [] w0 w' [en] []) := by
 have hp0 : 0 < p := by omega
 refine calls_of Tryz.func129 rfl Tryz.ntmps129 (Nat.le_of_ble_eq_true rfl) ?_
 have hS0 := St.nil w0
 refine C_sr ?_
 refine sqE (st_box (v := elV p) (cs := (elA p)) hS0 rfl rfl) fun b1 W2 hS3 => ?_
 refine sqv (ex_assign (v := .slice none 0 0) rfl) ?_
 show C _ _ _ _ _ _
 refine C_sr ?_
 refine sqv (ex_move (v := a) rfl) ?_
 refine sqv (ex_lenO (f := el) (k := 4) (r := (as_.length : Int)) (fun _ => rfl) (by decide) (hs_a) rfl sl70 rfl) ?_
 refine sqv (ex_move (v := b) rfl) ?_
 refine sqv (ex_lenO (f := el) (k := 4) (r := (bs.length : Int)) (fun _ => rfl) (by decide) (hs_b) rfl sl70 rfl) ?_
 refine nm (if (as_.length : Int) < (bs.length : Int) then (bs.length : Int) else (as_.length : Int)) fun x4 hx4 => ?_
 refine sqv (ex_max (a := (as_.length : Int)) (b := (bs.length : Int)) rfl rfl hx4) ?_
 obtain ⟨j8, hj9⟩ := ex_nat x4 (by omega)
 refine sqE (st_makeM (f := el) (k := 4) 0 j8 hS3 sl70 ze40 (by rfl) rfl (by decide) rfl rfl (by omega) (by omega) (by omega)) fun b5 W6 hS7 => ?_
 refine sqv (ex_assign (v := .slice (so b5) j8 j8) rfl) ?_
 show C _ _ _ _ _ _
 refine C_seq ?_
 refine C_sr ?_
 refine sqv (ex_assign (v := .int .i64 0) rfl) ?_
 show C _ _ _ _ _ _
 refine C_block ?_
 refine C_loop (fun nn aa ww => ∃ (m0 : Nat → Value) (k : Nat) (o : List Nat), nn = as_.length - k ∧ aa = act 49 (upds m0 [(1, a), (2, b), (3, pt b1), (6, .slice none 0 0), (7, .slice (so b5) j8 j8), (8, .int .i64 (k : Int))]) [] ∧ St [] w0 ww [some (b5, .cells (o.flatMap el).toArray 40), some (b1, .cells (elA p) 40)] [] ∧ (k ≤ as_.length) ∧ (o.length = j8) ∧ (∀ j, j < j8 → o[j]? = some (if j < k then as_.getD j 0 else 0)) ∧ (∀ z ∈ o, z < p)) as_.length ?_ ?_
 ·exact ⟨_, 0, (List.replicate j8 0), rfl, act_upds ⟨rfl, rfl, rfl, rfl, rfl, (congrArg (Value.int .i64) (by first | rfl | omega)), trivial⟩, (St.pick (L := [some (b5, .cells ((List.replicate j8 0).flatMap el).toArray 40), some (b1, .cells (elA p) 40)]) hS7 [0, 1] (by decide)), (Nat.zero_le _), (by simp), (fun j h => by rw [List.getElem?_replicate, if_pos h]; simp), (all_rep hp0)⟩
 rintro n13 a14 W11 ⟨m10, k, o, rfl, rfl, hS12, hk, hol, ho, hop⟩
 refine C_seq ?_
 refine C_sr ?_
 refine sqv (ex_move (v := .int .i64 (k : Int)) rfl) ?_
 refine sqv (ex_move (v := a) rfl) ?_
 refine sqv (ex_lenO (f := el) (k := 4) (r := (as_.length : Int)) (fun _ => rfl) (by decide) (hs_a) rfl sl70 rfl) ?_
 refine sqv (ex_cmp (x := (k : Int)) (y := (as_.length : Int)) (r := decide ((k : Int) < (as_.length : Int))) rfl rfl rfl) ?_
 show C _ _ _ _ _ _
 refine C_dec ((k : Int) < (as_.length : Int)) rfl (fun hc15 => ?_) (fun hc15 => ?_)
 ·refine C_skip ?_
  show C _ _ _ _ _ _
  refine C_seq ?_
  refine C_block ?_
  refine C_region ?_
  refine sqv (ex_move (v := .slice (so b5) j8 j8) rfl) ?_
  refine sqv (ex_move (v := .int .i64 (k : Int)) rfl) ?_
  refine sqv (ex_move (v := a) rfl) ?_
  refine sqv (ex_move (v := .int .i64 (k : Int)) rfl) ?_
  obtain ⟨y16, hy17⟩ := get_lt as_ k (by first | omega | (simp only [List.length_set, List.length_replicate, List.length_append, List.length_take, List.length_drop, List.length_cons, List.length_nil, List.length_map]; omega))
  have hky16 := g2 y16 (List.mem_of_getElem? hy17)
  obtain ⟨b18, o19, hI20, hC21⟩ := sl_at (f := el) (k := 4) (fun _ => rfl) (by decide) (hs_a) hy17
  refine sqv (ex_sindexO hI20 rfl rfl sl70 rfl) ?_
  refine sqv (ex_loadsC (r := 0) (vs := (el y16)) hC21 (hS12.holds0 hZ0) rfl ag40 rfl rfl rfl) ?_
  refine sqv (ex_sindex (j := (k : Int)) (o' := k * 4) rfl rfl sl70 (by omega) (by omega) (by omega)) ?_
  refine sqUE (st_storesM (f := el) (k := 4) (z := y16) (i' := k) (fun _ => rfl) 0 hS12 rfl rfl rfl ag40 rfl (by first | omega | (simp only [List.length_set, List.length_replicate, List.length_append, List.length_take, List.length_drop]; omega)) rfl (ones_of rfl)) fun W22 hS23 => ?_
  refine blk_normal ?_
  show C _ _ _ _ _ _
  refine C_region ?_
  refine sqv (ex_move (v := .int .i64 (k : Int)) rfl) ?_
  refine nm ((k : Int) + 1) fun x24 hx24 => ?_
  refine sqv (ex_add (x := (k : Int)) (y := 1) rfl rfl (w64 hx24 (by omega))) ?_
  refine sqv (ex_assign (v := .int .i64 x24) rfl) ?_
  exact ⟨_, (by omega), ⟨_, (k + 1), (o.set k y16), rfl, act_upds ⟨rfl, rfl, rfl, rfl, rfl, (congrArg (Value.int .i64) (by first | rfl | omega)), trivial⟩, (St.pick (L := [some (b5, .cells ((o.set k y16).flatMap el).toArray 40), some (b1, .cells (elA p) 40)]) hS23 [0, 1] (by decide)), (by omega), (by rw [List.length_set]; exact hol), (rpa_copy ho hol (by omega) hy17), (all_set hop (g2 _ (List.mem_of_getElem? hy17)))⟩⟩
 refine C_exit ?_
 refine thn_exit ?_
 refine thn_exit ?_
 refine blk_exit ?_
 show C _ _ _ _ _ _
 refine C_seq ?_
 refine C_sr ?_
 refine sqv (ex_assign (v := .int .i64 0) rfl) ?_
 show C _ _ _ _ _ _
 refine C_block ?_
 refine C_loop (fun nn aa ww => ∃ (m0 : Nat → Value) (k2 : Nat) (o2 : List Nat), nn = bs.length - k2 ∧ aa = act 49 (upds m0 [(2, b), (3, pt b1), (6, .slice none 0 0), (7, .slice (so b5) j8 j8), (9, .int .i64 (k2 : Int))]) [] ∧ St [] w0 ww [some (b5, .cells (o2.flatMap el).toArray 40), some (b1, .cells (elA p) 40)] [] ∧ (k2 ≤ bs.length) ∧ (o2.length = j8) ∧ (∀ j, j < j8 → o2[j]? = some (if j < k2 then rAdd p (as_.getD j 0) (bs.getD j 0) else as_.getD j 0)) ∧ (∀ z ∈ o2, z < p)) bs.length ?_ ?_
 obtain rfl : k = as_.length := by omega
 ·exact ⟨_, 0, o, rfl, act_upds ⟨rfl, rfl, rfl, rfl, (congrArg (Value.int .i64) (by first | rfl | omega)), trivial⟩, (St.pick (L := [some (b5, .cells (o.flatMap el).toArray 40), some (b1, .cells (elA p) 40)]) hS12 [0, 1] (by decide)), (Nat.zero_le _), hol, (fun j h => by rw [if_neg (by omega)]; exact rpa_copied ho j h), hop⟩
 rintro n28 a29 W26 ⟨m25, k2, o2, rfl, rfl, hS27, hk2, hol2, ho2, hop2⟩
 refine C_seq ?_
 refine C_sr ?_
 refine sqv (ex_move (v := .int .i64 (k2 : Int)) rfl) ?_
 refine sqv (ex_move (v := b) rfl) ?_
 refine sqv (ex_lenO (f := el) (k := 4) (r := (bs.length : Int)) (fun _ => rfl) (by decide) (hs_b) rfl sl70 rfl) ?_
 refine sqv (ex_cmp (x := (k2 : Int)) (y := (bs.length : Int)) (r := decide ((k2 : Int) < (bs.length : Int))) rfl rfl rfl) ?_
 show C _ _ _ _ _ _
 refine C_dec ((k2 : Int) < (bs.length : Int)) rfl (fun hc30 => ?_) (fun hc30 => ?_)
 ·refine C_skip ?_
  show C _ _ _ _ _ _
  refine C_seq ?_
  refine C_block ?_
  obtain ⟨y31, hy32⟩ := get_lt o2 k2 (by first | omega | (simp only [List.length_set, List.length_replicate, List.length_append, List.length_take, List.length_drop, List.length_cons, List.length_nil, List.length_map]; omega))
  have hky31 := hop2 y31 (List.mem_of_getElem? hy32)
  obtain ⟨y33, hy34⟩ := get_lt bs k2 (by first | omega | (simp only [List.length_set, List.length_replicate, List.length_append, List.length_take, List.length_drop, List.length_cons, List.length_nil, List.length_map]; omega))
  have hky33 := g3 y33 (List.mem_of_getElem? hy34)
  obtain ⟨b35, o36, hI37, hC38⟩ := sl_at (f := el) (k := 4) (fun _ => rfl) (by decide) (hs_b) hy34
  refine C_draw (p := 12) (l := [(some 35, .slice (so b5) j8 j8), (some 36, .int .i64 (k2 : Int)), (some 37, elV p), (some 38, .slice (so b5) j8 j8), (some 39, .int .i64 (k2 : Int)), (some 40, .pointer (some ⟨b5, k2 * 4, none⟩)), (some 41, elV y31), (some 42, b), (some 43, .int .i64 (k2 : Int)), (some 44, .pointer (some ⟨b35, o36, none⟩)), (some 45, elV y33), (some 46, elV (rAdd p y31 y33))]) (G := []) (J := fun w => St [] w0 w [some (b5, .cells (o2.flatMap el).toArray 40), some (b1, .cells (elA p) 40)] []) mixed ?_ (hS27.draw _)
  refine node1 12 [] [] [] (by kernel_rfl) rfl rfl (nd rfl) rfl (by kernel_rfl) ?_ ?_ ?_
  ·intro S wd hSd
   refine ⟨n0 rfl rfl rfl (ex_move (v := .slice (so b5) j8 j8) rfl) rfl hSd, n0 rfl rfl rfl (ex_move (v := .int .i64 (k2 : Int)) rfl) rfl hSd, n0 rfl rfl rfl (ex_loads (vs := (el p)) rfl (hSd.at 1 rfl) ag40 rfl rfl) rfl hSd, n0 rfl rfl rfl (ex_move (v := .slice (so b5) j8 j8) rfl) rfl hSd, n0 rfl rfl rfl (ex_move (v := .int .i64 (k2 : Int)) rfl) rfl hSd, n2 rfl rfl rfl rfl (fun hq3 hq4 => (ex_sindex (j := (k2 : Int)) (o' := k2 * 4) (evS hq3 rfl rfl) (evS hq4 rfl rfl) sl70 (by omega) (by omega) (by omega))) rfl hSd, n1 rfl rfl rfl rfl (fun hq5 => (ex_loadsM (f := el) (k := 4) (i := k2) (fun _ => rfl) (evS hq5 rfl rfl) (hSd.at 0 rfl) ag40 rfl hy32)) rfl hSd, n0 rfl rfl rfl (ex_move (v := b) rfl) rfl hSd, n0 rfl rfl rfl (ex_move (v := .int .i64 (k2 : Int)) rfl) rfl hSd, n2 rfl rfl rfl rfl (fun hq7 hq8 => (ex_sindexO hI37 (evS hq7 rfl rfl) (evS hq8 rfl rfl) sl70 rfl)) rfl hSd, n1 rfl rfl rfl rfl (fun hq9 => (ex_loadsC (r := 0) (vs := (el y33)) hC38 (hSd.holds0 hZ0) (evS hq9 rfl rfl) ag40 rfl rfl rfl)) rfl hSd, ?_, tt⟩
   refine needG rfl ?_
   rintro ⟨hq2, hq6, hq10, _⟩ hno
   refine dxC (wanted_none rfl) rfl (exe_call (args := #[elV p, elV y31, elV y33]) en22 (args_of3 (evS hq2 rfl rfl) (evS hq6 rfl rfl) (evS hq10 rfl rfl))) (c_rAdd p y31 y33 wd (by assumption) (by assumption) (by assumption)) ?_
   rintro _ W39 ⟨rfl, hT41⟩
   have hS40 := hSd.call hT41
   exact ⟨rfl, hS40⟩
  ·exact fun S wd hSd => ⟨True.intro, True.intro, True.intro, True.intro, True.intro, True.intro, True.intro, True.intro, True.intro, True.intro, True.intro, True.intro, True.intro⟩
  intro _ W43 hS44
  refine sqv (ex_sindex (j := (k2 : Int)) (o' := k2 * 4) rfl rfl sl70 (by omega) (by omega) (by omega)) ?_
  refine sqUE (st_storesM (f := el) (k := 4) (z := rAdd p y31 y33) (i' := k2) (fun _ => rfl) 0 hS44 rfl rfl rfl ag40 rfl (by first | omega | (simp only [List.length_set, List.length_replicate, List.length_append, List.length_take, List.length_drop]; omega)) rfl (ones_of rfl)) fun W45 hS46 => ?_
  refine blk_normal ?_
  show C _ _ _ _ _ _
  refine C_region ?_
  refine sqv (ex_move (v := .int .i64 (k2 : Int)) rfl) ?_
  refine nm ((k2 : Int) + 1) fun x47 hx47 => ?_
  refine sqv (ex_add (x := (k2 : Int)) (y := 1) rfl rfl (w64 hx47 (by omega))) ?_
  refine sqv (ex_assign (v := .int .i64 x47) rfl) ?_
  exact ⟨_, (by omega), ⟨_, (k2 + 1), (o2.set k2 (rAdd p y31 y33)), rfl, act_upds ⟨rfl, rfl, rfl, rfl, (congrArg (Value.int .i64) (by first | rfl | omega)), trivial⟩, (St.pick (L := [some (b5, .cells ((o2.set k2 (rAdd p y31 y33)).flatMap el).toArray 40), some (b1, .cells (elA p) 40)]) hS46 [0, 1] (by decide)), (by omega), (by rw [List.length_set]; exact hol2), (rpa_step ho2 hol2 (by omega) hy32 hy34), (all_set hop2 (rAdd_lt hp0))⟩⟩
 refine C_exit ?_
 refine thn_exit ?_
 refine thn_exit ?_
 refine blk_exit ?_
 show C _ _ _ _ _ _
 refine C_sr ?_
 refine sqv (ex_move (v := .slice (so b5) j8 j8) rfl) ?_
 refine sqv (ex_assign (v := .slice (so b5) j8 j8) rfl) ?_
 show C _ _ _ _ _ _
 refine C_ret ?_
 refine done_1 (v := .slice (so b5) j8 j8) rfl rfl ?_
 obtain rfl : k2 = bs.length := by omega
 exact ⟨_, _, rfl, by rw [rpa_done (n := j8) (by omega) ho2 hol2]; exact Own.of (fun _ => rfl) (by omega) rfl (by simp only [maxLen]; omega), (St.pick (L := [some (b5, .cells (o2.flatMap el).toArray 40), some (b1, .cells (elA p) 40)]) hS27 [0] (by decide))⟩
end Go.Proofs
end
section
set_option linter.unusedVariables false
set_option linter.unusedSimpArgs false
set_option maxRecDepth 20000
set_option maxHeartbeats 2000000
namespace Go.Proofs
open Sc
theorem en126 : enters Tryz.prog 126 = true := by kernel_rfl
theorem en127 : enters Tryz.prog 127 = true := by kernel_rfl
theorem en128 : enters Tryz.prog 128 = true := by kernel_rfl
theorem en129 : enters Tryz.prog 129 = true := by kernel_rfl
theorem en155 : enters Tryz.prog 155 = true := by kernel_rfl
theorem en87 : enters Tryz.prog 87 = true := by kernel_rfl
theorem pt_lt {p : Nat} (h : 255 < p) {x : Int} (hx : 1 ≤ x ∧ x ≤ 255) : x.toNat < p := by omega
theorem rw_step {p : Nat} {xs : List Int} {i k d : Nat} {x y : Int} (hd : d = rwRow p xs i k) (hx : xs[i]? = some x) (hy : xs[k]? = some y) (h : k ≠ i) : rMul p d (rSub p x.toNat y.toNat) = rwRow p xs i (k + 1) := by rw [rwRow, if_neg h, ptN_some hx, ptN_some hy, hd]
theorem rw_skip {p : Nat} {xs : List Int} {i k d : Nat} (hd : d = rwRow p xs i k) (h : k = i) : d = rwRow p xs i (k + 1) := by rw [rwRow, if_pos h, hd]
theorem rc_step {p : Nat} {xs : List Int} {c0 i k : Nat} {c : List Nat} {y : Int} (hd : c = rcRow p xs c0 i k) (hy : xs[k]? = some y) (h : k ≠ i) : rpMul p c [rSub p 0 y.toNat, 1] = rcRow p xs c0 i (k + 1) := by rw [rcRow, if_neg h, ptN_some hy, hd]
theorem rc_skip {p : Nat} {xs : List Int} {c0 i k : Nat} {c : List Nat} (hd : c = rcRow p xs c0 i k) (h : k = i) : c = rcRow p xs c0 i (k + 1) := by rw [rcRow, if_pos h, hd]
theorem c_rWeights (p : Nat) (s : Value) (xs : List Int) (Z0 : List Fact) (w0 : World) (g0 : p < B256) (g1 : 255 < p) (g2 : ∀ y ∈ xs, 1 ≤ y ∧ y ≤ 255) (g3 : xs.length < 1000000) (hZ0 : Holds w0 Z0) (hs_s : Sl Z0 3 1 s (xs.flatMap cI)) : Calls Tryz.prog 126 #[elV p, s] w0 (Ret fun uu w' => ∃ (v : Value), ∃ (en : Ent), uu = v ∧ (Own 40 4 el v (rWt p xs) en) ∧ St [] w0 w' [en] []) := by
 have hp0 : 0 < p := by omega
 have hp1 : 1 < p := by omega
 have hlen := sl_lt (f := cI) (k := 1) (fun _ => rfl) (by decide) hs_s
 refine calls_of Tryz.func126 rfl Tryz.ntmps126 (Nat.le_of_ble_eq_true rfl) ?_
 have hS0 := St.nil w0
 refine C_sr ?_
 refine sqE (st_box (v := elV p) (cs := (elA p)) hS0 rfl rfl) fun b1 W2 hS3 => ?_
 refine sqv (ex_assign (v := .slice none 0 0) rfl) ?_
 show C _ _ _ _ _ _
 refine C_sr ?_
 refine sqv (ex_assign (v := .slice none 0 0) rfl) ?_
 show C _ _ _ _ _ _
 refine C_seq ?_
 refine C_sr ?_
 refine sqv (ex_assign (v := .int .i64 0) rfl) ?_
 show C _ _ _ _ _ _
 refine C_block ?_
 have hS4 := St.non hS3
 refine C_loop (fun nn aa ww => ∃ (m0 : Nat → Value) (i : Nat) (v : Value) (en : Ent) (o : List Nat), nn = xs.length - i ∧ aa = act 47 (upds m0 [(1, s), (2, pt b1), (4, .slice none 0 0), (5, v), (6, .int .i64 (i : Int))]) [] ∧ St [] w0 ww [en, some (b1, .cells (elA p) 40)] [] ∧ (i ≤ xs.length) ∧ (Own 40 4 el v o en) ∧ (o = rWtK p xs i)) xs.length ?_ ?_
 ·exact ⟨_, 0, (.slice none 0 0), none, [], rfl, act_upds ⟨rfl, rfl, rfl, rfl, (congrArg (Value.int .i64) (by first | rfl | omega)), trivial⟩, (St.pick (L := [none, some (b1, .cells (elA p) 40)]) hS4 [0, 1] (by decide)), (Nat.zero_le _), (Own.nil _ _ _), rfl⟩
 rintro n8 a9 W6 ⟨m5, i, v, en, o, rfl, rfl, hS7, hi, hO, ho⟩
 have hol : o.length = i := by rw [ho, rWtK_len]
 refine C_seq ?_
 refine C_sr ?_
 refine sqv (ex_move (v := .int .i64 (i : Int)) rfl) ?_
 refine sqv (ex_move (v := s) rfl) ?_
 refine sqv (ex_lenO (f := cI) (k := 1) (r := (xs.length : Int)) (fun _ => rfl) (by decide) (hs_s) rfl sl25 rfl) ?_
 refine sqv (ex_cmp (x := (i : Int)) (y := (xs.length : Int)) (r := decide ((i : Int) < (xs.length : Int))) rfl rfl rfl) ?_
 show C _ _ _ _ _ _
 refine C_dec ((i : Int) < (xs.length : Int)) rfl (fun hc10 => ?_) (fun hc10 => ?_)
 ·refine C_skip ?_
  show C _ _ _ _ _ _
  refine C_seq ?_
  refine C_block ?_
  refine C_sr ?_
  refine sqc (exe_call (args := #[]) en59 args_of0) (c_One W6) ?_
  rintro _ W11 ⟨rfl, hT13⟩
  have hS12 := hS7.call hT13
  refine sqE (st_alloc hS12 ze40) fun b15 W16 hS17 => ?_
  refine sqUE (st_stores (v := elV 1) (cs' := (elA 1)) 0 hS17 rfl rfl rfl ag40 rfl (Nat.le_of_ble_eq_true rfl) (ones_of rfl) rfl) fun W18 hS19 => ?_
  show C _ _ _ _ _ _
  refine C_seq ?_
  refine C_sr ?_
  refine sqv (ex_assign (v := .int .i64 0) rfl) ?_
  show C _ _ _ _ _ _
  refine C_block ?_
  refine C_loop (fun nn aa ww => ∃ (m0 : Nat → Value) (k d : Nat), nn = xs.length - k ∧ aa = act 47 (upds m0 [(1, s), (2, pt b1), (4, .slice none 0 0), (5, v), (6, .int .i64 (i : Int)), (7, pt b15), (8, .int .i64 (k : Int))]) [] ∧ St [] w0 ww [some (b15, .cells (elA d) 40), en, some (b1, .cells (elA p) 40)] [] ∧ (k ≤ xs.length) ∧ (d = rwRow p xs i k) ∧ (d < p)) xs.length ?_ ?_
  ·exact ⟨_, 0, 1, rfl, act_upds ⟨rfl, rfl, rfl, rfl, (congrArg (Value.int .i64) (by first | rfl | omega)), rfl, (congrArg (Value.int .i64) (by first | rfl | omega)), trivial⟩, (St.pick (L := [some (b15, .cells (elA 1) 40), en, some (b1, .cells (elA p) 40)]) hS19 [0, 1, 2] (by decide)), (Nat.zero_le _), rfl, hp1⟩
  rintro n23 a24 W21 ⟨m20, k, d, rfl, rfl, hS22, hk, hd, hdp⟩
  refine C_seq ?_
  refine C_sr ?_
  refine sqv (ex_move (v := .int .i64 (k : Int)) rfl) ?_
  refine sqv (ex_move (v := s) rfl) ?_
  refine sqv (ex_lenO (f := cI) (k := 1) (r := (xs.length : Int)) (fun _ => rfl) (by decide) (hs_s) rfl sl25 rfl) ?_
  refine sqv (ex_cmp (x := (k : Int)) (y := (xs.length : Int)) (r := decide ((k : Int) < (xs.length : Int))) rfl rfl rfl) ?_
  show C _ _ _ _ _ _
  refine C_dec ((k : Int) < (xs.length : Int)) rfl (fun hc25 => ?_) (fun hc25 => ?_)
  ·refine C_skip ?_
   show C _ _ _ _ _ _
   refine C_seq ?_
   refine C_block ?_
   refine C_sr ?_
   refine sqv (ex_move (v := .int .i64 (k : Int)) rfl) ?_
   refine sqv (ex_move (v := .int .i64 (i : Int)) rfl) ?_
   refine sqv (ex_cmp (x := (k : Int)) (y := (i : Int)) (r := decide ((k : Int) ≠ (i : Int))) rfl rfl rfl) ?_
   show C _ _ _ _ _ _
   refine C_dec ((k : Int) ≠ (i : Int)) rfl (fun hc26 => ?_) (fun hc26 => ?_)
   ·obtain ⟨y27, hy28⟩ := get_lt xs i (by first | omega | (simp only [List.length_set, List.length_replicate, List.length_append, List.length_take, List.length_drop, List.length_cons, List.length_nil, List.length_map]; omega))
    have hky27 := g2 y27 (List.mem_of_getElem? hy28)
    obtain ⟨b29, o30, hI31, hC32⟩ := sl_at (f := cI) (k := 1) (fun _ => rfl) (by decide) (hs_s) hy28
    obtain ⟨y37, hy38⟩ := get_lt xs k (by first | omega | (simp only [List.length_set, List.length_replicate, List.length_append, List.length_take, List.length_drop, List.length_cons, List.length_nil, List.length_map]; omega))
    have hky37 := g2 y37 (List.mem_of_getElem? hy38)
    obtain ⟨b39, o40, hI41, hC42⟩ := sl_at (f := cI) (k := 1) (fun _ => rfl) (by decide) (hs_s) hy38
    refine C_draw (p := 15) (l := [(some 25, elV p), (some 26, elV d), (some 27, elV p), (some 28, s), (some 29, .int .i64 (i : Int)), (some 30, .pointer (some ⟨b29, o30, none⟩)), (some 31, .int .i64 y27), (some 32, elV ((y27).toNat)), (some 33, s), (some 34, .int .i64 (k : Int)), (some 35, .pointer (some ⟨b39, o40, none⟩)), (some 36, .int .i64 y37), (some 37, elV ((y37).toNat)), (some 38, elV (rSub p ((y27).toNat) ((y37).toNat))), (some 39, elV (rMul p d (rSub p ((y27).toNat) ((y37).toNat))))]) (G := []) (J := fun w => St [] w0 w [some (b15, .cells (elA d) 40), en, some (b1, .cells (elA p) 40)] []) mixed ?_ (hS22.draw _)
    refine node1 15 [] [] [] (by kernel_rfl) rfl rfl (nd rfl) rfl (by kernel_rfl) ?_ ?_ ?_
    ·intro S wd hSd
     refine ⟨n0 rfl rfl rfl (ex_loads (vs := (el p)) rfl (hSd.at 2 rfl) ag40 rfl rfl) rfl hSd, n0 rfl rfl rfl (ex_loads (vs := (el d)) rfl (hSd.at 0 rfl) ag40 rfl rfl) rfl hSd, n0 rfl rfl rfl (ex_loads (vs := (el p)) rfl (hSd.at 2 rfl) ag40 rfl rfl) rfl hSd, n0 rfl rfl rfl (ex_move (v := s) rfl) rfl hSd, n0 rfl rfl rfl (ex_move (v := .int .i64 (i : Int)) rfl) rfl hSd, n2 rfl rfl rfl rfl (fun hq3 hq4 => (ex_sindexO hI31 (evS hq3 rfl rfl) (evS hq4 rfl rfl) sl25 rfl)) rfl hSd, n1 rfl rfl rfl rfl (fun hq5 => (ex_loadC (r := 0) (u := .int .i64 y27) hC32 (hSd.holds0 hZ0) (evS hq5 rfl rfl) on3 rfl rfl)) rfl hSd, ?_, n0 rfl rfl rfl (ex_move (v := s) rfl) rfl hSd, n0 rfl rfl rfl (ex_move (v := .int .i64 (k : Int)) rfl) rfl hSd, n2 rfl rfl rfl rfl (fun hq8 hq9 => (ex_sindexO hI41 (evS hq8 rfl rfl) (evS hq9 rfl rfl) sl25 rfl)) rfl hSd, n1 rfl rfl rfl rfl (fun hq10 => (ex_loadC (r := 0) (u := .int .i64 y37) hC42 (hSd.holds0 hZ0) (evS hq10 rfl rfl) on3 rfl rfl)) rfl hSd, ?_, ?_, ?_, tt⟩
     ·refine needG rfl ?_
      rintro ⟨hq6, _⟩ hno
      refine dxC (wanted_none rfl) rfl (exe_call (args := #[.int .i64 y27]) en87 (args_of1 (evS hq6 rfl rfl))) (c_Point y27 wd (by assumption)) ?_
      rintro _ W33 ⟨rfl, hT35⟩
      have hS34 := hSd.call hT35
      exact ⟨rfl, hS34⟩
     ·refine needG rfl ?_
      rintro ⟨hq11, hq7, _⟩ hno
      refine dxC (wanted_none rfl) rfl (exe_call (args := #[.int .i64 y37]) en87 (args_of1 (evS hq11 rfl rfl))) (c_Point y37 wd (by assumption)) ?_
      rintro _ W43 ⟨rfl, hT45⟩
      have hS44 := hSd.call hT45
      exact ⟨rfl, hS44⟩
     ·refine needG rfl ?_
      rintro ⟨hq2, hq7, hq12, hq12, _⟩ hno
      refine dxC (wanted_none rfl) rfl (exe_call (args := #[elV p, elV ((y27).toNat), elV ((y37).toNat)]) en128 (args_of3 (evS hq2 rfl rfl) (evS hq7 rfl rfl) (evS hq12 rfl rfl))) (c_rSub p ((y27).toNat) ((y37).toNat) wd (by assumption) (pt_lt (by omega) (by assumption)) (pt_lt (by omega) (by assumption))) ?_
      rintro _ W47 ⟨rfl, hT49⟩
      have hS48 := hSd.call hT49
      exact ⟨rfl, hS48⟩
     refine needG rfl ?_
     rintro ⟨hq0, hq1, hq13, hq13, _⟩ hno
     refine dxC (wanted_none rfl) rfl (exe_call (args := #[elV p, elV d, elV (rSub p ((y27).toNat) ((y37).toNat))]) en58 (args_of3 (evS hq0 rfl rfl) (evS hq1 rfl rfl) (evS hq13 rfl rfl))) (c_rMul p d (rSub p ((y27).toNat) ((y37).toNat)) wd (by assumption) (by first | assumption | exact rMul_lt hp0) (lt_256 g0 (by first | assumption | exact rSub_lt hp0))) ?_
     rintro _ W51 ⟨rfl, hT53⟩
     have hS52 := hSd.call hT53
     exact ⟨rfl, hS52⟩
    ·exact fun S wd hSd => ⟨True.intro, True.intro, True.intro, True.intro, True.intro, True.intro, True.intro, True.intro, True.intro, True.intro, True.intro, True.intro, True.intro, True.intro, True.intro, True.intro⟩
    intro _ W55 hS56
    refine sqUE (st_stores (v := elV (rMul p d (rSub p ((y27).toNat) ((y37).toNat)))) (cs' := (elA (rMul p d (rSub p ((y27).toNat) ((y37).toNat))))) 0 hS56 rfl rfl rfl ag40 rfl (Nat.le_of_ble_eq_true rfl) (ones_of rfl) rfl) fun W57 hS58 => ?_
    refine blk_normal ?_
    show C _ _ _ _ _ _
    refine C_region ?_
    refine sqv (ex_move (v := .int .i64 (k : Int)) rfl) ?_
    refine nm ((k : Int) + 1) fun x59 hx59 => ?_
    refine sqv (ex_add (x := (k : Int)) (y := 1) rfl rfl (w64 hx59 (by omega))) ?_
    refine sqv (ex_assign (v := .int .i64 x59) rfl) ?_
    exact ⟨_, (by omega), ⟨_, (k + 1), (rMul p d (rSub p ((y27).toNat) ((y37).toNat))), rfl, act_upds ⟨rfl, rfl, rfl, rfl, (congrArg (Value.int .i64) (by first | rfl | omega)), rfl, (congrArg (Value.int .i64) (by first | rfl | omega)), trivial⟩, (St.pick (L := [some (b15, .cells (elA (rMul p d (rSub p ((y27).toNat) ((y37).toNat)))) 40), en, some (b1, .cells (elA p) 40)]) hS58 [0, 1, 2] (by decide)), (by omega), (rw_step hd hy28 hy38 (by omega)), (rMul_lt hp0)⟩⟩
   refine C_skip ?_
   refine blk_normal ?_
   show C _ _ _ _ _ _
   refine C_region ?_
   refine sqv (ex_move (v := .int .i64 (k : Int)) rfl) ?_
   refine nm ((k : Int) + 1) fun x60 hx60 => ?_
   refine sqv (ex_add (x := (k : Int)) (y := 1) rfl rfl (w64 hx60 (by omega))) ?_
   refine sqv (ex_assign (v := .int .i64 x60) rfl) ?_
   exact ⟨_, (by omega), ⟨_, (k + 1), d, rfl, act_upds ⟨rfl, rfl, rfl, rfl, (congrArg (Value.int .i64) (by first | rfl | omega)), rfl, (congrArg (Value.int .i64) (by first | rfl | omega)), trivial⟩, (St.pick (L := [some (b15, .cells (elA d) 40), en, some (b1, .cells (elA p) 40)]) hS22 [0, 1, 2] (by decide)), (by omega), (rw_skip hd (by omega)), hdp⟩⟩
  refine C_exit ?_
  refine thn_exit ?_
  refine thn_exit ?_
  refine blk_exit ?_
  show C _ _ _ _ _ _
  refine C_region ?_
  refine sqv (ex_move (v := v) rfl) ?_
  refine sqv (ex_loads (vs := (el p)) rfl (hS22.at 2 rfl) ag40 rfl rfl) ?_
  refine sqv (ex_loads (vs := (el d)) rfl (hS22.at 0 rfl) ag40 rfl rfl) ?_
  refine sqc (exe_call (args := #[elV p, elV d]) en155 (args_of2 rfl rfl)) (c_rInv p d W21 (by assumption) (by assumption) (by omega)) ?_
  rintro _ W61 ⟨rfl, hT63⟩
  have hS62 := hS22.call hT63
  refine sqE (st_bslice (vs := [elV (rInv p d)]) hS62 sl70 ze40 rfl (by simp [Value.cells, elV, el]) rfl (by decide)) fun b65 W66 hS67 => ?_
  refine sqA (st_appendM (f := el) (k := 4) (xs := o) (ys := [rInv p d]) (fun _ => rfl) (fun _ => ones_of rfl) (by decide) 2 hS67 (hO) ((sl_row (f := el) (k := 4) (t := 40) (b := b65) (n := 1) (cs := (elA (rInv p d))) (ys := [rInv p d]) (fun _ => rfl) rfl (Nat.le_of_ble_eq_true rfl) rfl)) (hS67.entH 0 rfl) rfl rfl rfl sl70 ze40 rfl (by simp only [List.length_append, List.length_cons, List.length_nil, maxLen]; omega) (by simp only [List.length_append, List.length_cons, List.length_nil, maxLen]; omega)) fun u68 en69 W70 ⟨hS71, ho72⟩ => ?_
  refine sqv (ex_assign (v := u68) rfl) ?_
  refine blk_normal ?_
  show C _ _ _ _ _ _
  refine C_region ?_
  refine sqv (ex_move (v := .int .i64 (i : Int)) rfl) ?_
  refine nm ((i : Int) + 1) fun x73 hx73 => ?_
  refine sqv (ex_add (x := (i : Int)) (y := 1) rfl rfl (w64 hx73 (by omega))) ?_
  refine sqv (ex_assign (v := .int .i64 x73) rfl) ?_
  obtain rfl : k = xs.length := by omega
  exact ⟨_, (by omega), ⟨_, (i + 1), u68, en69, (o ++ ([rInv p d])), rfl, act_upds ⟨rfl, rfl, rfl, rfl, (congrArg (Value.int .i64) (by first | rfl | omega)), trivial⟩, (St.pick (L := [some (b65, .cells (elA (rInv p d)) 40), some (b15, .cells (elA d) 40), en69, some (b1, .cells (elA p) 40)]) hS71 [2, 3] (by decide)), (by omega), ho72, (by rw [rWtK_succ, ho, hd])⟩⟩
 refine C_exit ?_
 refine thn_exit ?_
 refine thn_exit ?_
 refine blk_exit ?_
 show C _ _ _ _ _ _
 refine C_sr ?_
 refine sqv (ex_move (v := v) rfl) ?_
 refine sqv (ex_assign (v := v) rfl) ?_
 show C _ _ _ _ _ _
 refine C_ret ?_
 refine done_1 (v := v) rfl rfl ?_
 obtain rfl : i = xs.length := by omega
 exact ⟨_, _, rfl, by rw [show rWt p xs = o from ho.symm]; exact hO, (St.pick (L := [en, some (b1, .cells (elA p) 40)]) hS7 [0] (by decide)).less (fun _ h => absurd h (by simp))⟩
theorem c_rInt (p : Nat) (s : Value) (xs : List Int) (y : Value) (ys : List Nat) (Z0 : List Fact) (w0 : World) (g0 : p < B256) (g1 : 255 < p) (g2 : ∀ y ∈ xs, 1 ≤ y ∧ y ≤ 255) (g3 : ∀ z ∈ ys, z < p) (g4 : xs.length = ys.length) (g5 : xs.length < 900000) (hZ0 : Holds w0 Z0) (hs_s : Sl Z0 3 1 s (xs.flatMap cI)) (hs_y : Sl Z0 40 4 y (ys.flatMap el)) : Calls Tryz.prog 90 #[elV p, s, y] w0 (Ret fun uu w' => ∃ (v : Value), ∃ (en : Ent), uu = v ∧ (Own 40 4 el v (rInt p xs ys) en) ∧ St [] w0 w' [en] []) := by
 have hp0 : 0 < p := by omega
 have hp1 : 1 < p := by omega
 have hlen := sl_lt (f := cI) (k := 1) (fun _ => rfl) (by decide) hs_s
 have hwl := rWt_len p xs
 refine calls_of Tryz.func90 rfl Tryz.ntmps90 (Nat.le_of_ble_eq_true rfl) ?_
 have hS0 := St.nil w0
 refine C_sr ?_
 refine sqE (st_box (v := elV p) (cs := (elA p)) hS0 rfl rfl) fun b1 W2 hS3 => ?_
 refine sqv (ex_assign (v := .slice none 0 0) rfl) ?_
 show C _ _ _ _ _ _
 refine C_sr ?_
 refine sqv (ex_loads (vs := (el p)) rfl (hS3.at 0 rfl) ag40 rfl rfl) ?_
 refine sqv (ex_move (v := s) rfl) ?_
 refine sqc (exe_call (args := #[elV p, s]) en126 (args_of2 rfl rfl)) (c_rWeights p s xs Z0 W2 (by assumption) (by assumption) g2 (by omega) (hS3.holds0 hZ0) (hs_s)) ?_
 rintro v8 W4 ⟨_, en9, rfl, hp10, hT6⟩
 have hS5 := hS3.call hT6
 refine sqv (ex_assign (v := v8) rfl) ?_
 show C _ _ _ _ _ _
 refine C_sr ?_
 refine sqv (ex_move (v := s) rfl) ?_
 refine sqv (ex_lenO (f := cI) (k := 1) (r := (xs.length : Int)) (fun _ => rfl) (by decide) (hs_s) rfl sl25 rfl) ?_
 refine sqE (st_makeM (f := el) (k := 4) 0 xs.length hS5 sl70 ze40 (by rfl) rfl (by decide) rfl rfl rfl (by omega) (by omega)) fun b11 W12 hS13 => ?_
 refine sqv (ex_assign (v := .slice (so b11) xs.length xs.length) rfl) ?_
 show C _ _ _ _ _ _
 refine C_seq ?_
 refine C_sr ?_
 refine sqv (ex_assign (v := .int .i64 0) rfl) ?_
 show C _ _ _ _ _ _
 refine C_block ?_
 refine C_loop (fun nn aa ww => ∃ (m0 : Nat → Value) (i : Nat) (v : Value) (en : Ent) (o : List Nat), nn = xs.length - i ∧ aa = act 62 (upds m0 [(1, s), (2, y), (3, pt b1), (6, .slice none 0 0), (7, v8), (8, v), (9, .int .i64 (i : Int))]) [] ∧ St [] w0 ww [en, en9, some (b1, .cells (elA p) 40)] [] ∧ (i ≤ xs.length) ∧ (Own 40 4 el v o en) ∧ (o = rInF p xs ys i)) xs.length ?_ ?_
 ·exact ⟨_, 0, (.slice (so b11) xs.length xs.length), (some (b11, .cells ((List.replicate xs.length 0).flatMap el).toArray 40)), (List.replicate xs.length 0), rfl, act_upds ⟨rfl, rfl, rfl, rfl, rfl, rfl, (congrArg (Value.int .i64) (by first | rfl | omega)), trivial⟩, (St.pick (L := [some (b11, .cells ((List.replicate xs.length 0).flatMap el).toArray 40), en9, some (b1, .cells (elA p) 40)]) hS13 [0, 1, 2] (by decide)), (Nat.zero_le _), (Own.of (fun _ => rfl) (by first | omega | simp) rfl (by simp only [maxLen]; omega)), rfl⟩
 rintro n17 a18 W15 ⟨m14, i, v, en, o, rfl, rfl, hS16, hi, hO, ho⟩
 have hol : o.length = xs.length := by rw [ho, rInF_len _ _ _ _ hi]
 have hop : ∀ z ∈ o, z < p := by rw [ho]; exact rInF_lt hp0 _ _ _
 refine C_seq ?_
 refine C_sr ?_
 refine sqv (ex_move (v := .int .i64 (i : Int)) rfl) ?_
 refine sqv (ex_move (v := s) rfl) ?_
 refine sqv (ex_lenO (f := cI) (k := 1) (r := (xs.length : Int)) (fun _ => rfl) (by decide) (hs_s) rfl sl25 rfl) ?_
 refine sqv (ex_cmp (x := (i : Int)) (y := (xs.length : Int)) (r := decide ((i : Int) < (xs.length : Int))) rfl rfl rfl) ?_
 show C _ _ _ _ _ _
 refine C_dec ((i : Int) < (xs.length : Int)) rfl (fun hc19 => ?_) (fun hc19 => ?_)
 ·refine C_skip ?_
  show C _ _ _ _ _ _
  refine C_seq ?_
  refine C_block ?_
  refine C_seq ?_
  obtain ⟨y20, hy21⟩ := get_lt (rWt p xs) i (by first | omega | (simp only [List.length_set, List.length_replicate, List.length_append, List.length_take, List.length_drop, List.length_cons, List.length_nil, List.length_map]; omega))
  have hky20 := rWt_lt hp0 xs y20 (List.mem_of_getElem? hy21)
  obtain ⟨b22, o23, hI24, hC25⟩ := sl_at (f := el) (k := 4) (fun _ => rfl) (by decide) ((hp10).slF) hy21
  obtain ⟨y26, hy27⟩ := get_lt ys i (by first | omega | (simp only [List.length_set, List.length_replicate, List.length_append, List.length_take, List.length_drop, List.length_cons, List.length_nil, List.length_map]; omega))
  have hky26 := g3 y26 (List.mem_of_getElem? hy27)
  obtain ⟨b28, o29, hI30, hC31⟩ := sl_at (f := el) (k := 4) (fun _ => rfl) (by decide) (hs_y) hy27
  refine C_draw (p := 11) (l := [(some 24, elV p), (some 25, v8), (some 26, .int .i64 (i : Int)), (some 27, .pointer (some ⟨b22, o23, none⟩)), (some 28, elV y20), (some 29, y), (some 30, .int .i64 (i : Int)), (some 31, .pointer (some ⟨b28, o29, none⟩)), (some 32, elV y26), (some 33, elV (rMul p y20 y26)), (some 34, undef)]) (G := [10]) (J := fun w => St [] w0 w [en, en9, some (b1, .cells (elA p) 40)] []) mixed ?_ (hS16.draw _)
  refine node1 11 [10] [] [] (by kernel_rfl) rfl rfl (nd rfl) rfl (by kernel_rfl) ?_ ?_ ?_
  ·intro S wd hSd
   refine ⟨n0 rfl rfl rfl (ex_loads (vs := (el p)) rfl (hSd.at 2 rfl) ag40 rfl rfl) rfl hSd, n0 rfl rfl rfl (ex_move (v := v8) rfl) rfl hSd, n0 rfl rfl rfl (ex_move (v := .int .i64 (i : Int)) rfl) rfl hSd, n2 rfl rfl rfl rfl (fun hq1 hq2 => (ex_sindexO hI24 (evS hq1 rfl rfl) (evS hq2 rfl rfl) sl70 rfl)) rfl hSd, n1 rfl rfl rfl rfl (fun hq3 => (ex_loadsC (r := 0) (vs := (el y20)) hC25 (hSd.entH 1 rfl) (evS hq3 rfl rfl) ag40 rfl rfl rfl)) rfl hSd, n0 rfl rfl rfl (ex_move (v := y) rfl) rfl hSd, n0 rfl rfl rfl (ex_move (v := .int .i64 (i : Int)) rfl) rfl hSd, n2 rfl rfl rfl rfl (fun hq5 hq6 => (ex_sindexO hI30 (evS hq5 rfl rfl) (evS hq6 rfl rfl) sl70 rfl)) rfl hSd, n1 rfl rfl rfl rfl (fun hq7 => (ex_loadsC (r := 0) (vs := (el y26)) hC31 (hSd.holds0 hZ0) (evS hq7 rfl rfl) ag40 rfl rfl rfl)) rfl hSd, ?_, sG rfl, tt⟩
   refine needG rfl ?_
   rintro ⟨hq0, hq4, hq8, _⟩ hno
   refine dxC (wanted_none rfl) rfl (exe_call (args := #[elV p, elV y20, elV y26]) en58 (args_of3 (evS hq0 rfl rfl) (evS hq4 rfl rfl) (evS hq8 rfl rfl))) (c_rMul p y20 y26 wd (by assumption) (by assumption) (lt_256 g0 (by assumption))) ?_
   rintro _ W32 ⟨rfl, hT34⟩
   have hS33 := hSd.call hT34
   exact ⟨rfl, hS33⟩
  ·intro S wd hSd
   refine ⟨tt, tt, tt, tt, tt, tt, tt, tt, tt, tt, ?_, tt⟩
   refine needH rfl ?_
   rintro ⟨hq9, _⟩ hno
   refine dxE (wanted_none rfl) rfl (st_bslice (vs := [elV (rMul p y20 y26)]) hSd sl70 ze40 (parts1 (evS hq9 rfl rfl)) (by simp [Value.cells, elV, el]) rfl (by decide)) fun b36 W37 hS38 => ?_
   refine ⟨fun w => St [] w0 w [some (b36, .cells (elA (rMul p y20 y26)) 40), en, en9, some (b1, .cells (elA p) 40)] [], [(some 24, elV p), (some 25, v8), (some 26, .int .i64 (i : Int)), (some 27, .pointer (some ⟨b22, o23, none⟩)), (some 28, elV y20), (some 29, y), (some 30, .int .i64 (i : Int)), (some 31, .pointer (some ⟨b28, o29, none⟩)), (some 32, elV y26), (some 33, elV (rMul p y20 y26)), (some 34, .slice (so b36) 1 1)], [], hS38, by kernel_rfl, ⟨rfl, rfl, rfl, rfl, rfl, rfl, rfl, rfl, rfl, rfl, rfl, rfl, rfl, rfl, rfl, rfl, rfl, rfl, rfl, rfl, rfl, True.intro, True.intro⟩, rfl, ?_⟩
   show Sc.Node _ _ _ _ _ _ _ 11 [(some 24, elV p), (some 25, v8), (some 26, .int .i64 (i : Int)), (some 27, .pointer (some ⟨b22, o23, none⟩)), (some 28, elV y20), (some 29, y), (some 30, .int .i64 (i : Int)), (some 31, .pointer (some ⟨b28, o29, none⟩)), (some 32, elV y26), (some 33, elV (rMul p y20 y26)), (some 34, .slice (so b36) 1 1)] [] [10] _
   refine node1 11 [] [10] [] (by kernel_rfl) rfl rfl (nd rfl) rfl (by kernel_rfl) ?_ ?_ ?_
   ·intro S wd hSd
    refine ⟨n0 rfl rfl rfl (ex_loads (vs := (el p)) rfl (hSd.at 3 rfl) ag40 rfl rfl) rfl hSd, n0 rfl rfl rfl (ex_move (v := v8) rfl) rfl hSd, n0 rfl rfl rfl (ex_move (v := .int .i64 (i : Int)) rfl) rfl hSd, n2 rfl rfl rfl rfl (fun hq1 hq2 => (ex_sindexO hI24 (evS hq1 rfl rfl) (evS hq2 rfl rfl) sl70 rfl)) rfl hSd, n1 rfl rfl rfl rfl (fun hq3 => (ex_loadsC (r := 0) (vs := (el y20)) hC25 (hSd.entH 2 rfl) (evS hq3 rfl rfl) ag40 rfl rfl rfl)) rfl hSd, n0 rfl rfl rfl (ex_move (v := y) rfl) rfl hSd, n0 rfl rfl rfl (ex_move (v := .int .i64 (i : Int)) rfl) rfl hSd, n2 rfl rfl rfl rfl (fun hq5 hq6 => (ex_sindexO hI30 (evS hq5 rfl rfl) (evS hq6 rfl rfl) sl70 rfl)) rfl hSd, n1 rfl rfl rfl rfl (fun hq7 => (ex_loadsC (r := 0) (vs := (el y26)) hC31 (hSd.holds0 hZ0) (evS hq7 rfl rfl) ag40 rfl rfl rfl)) rfl hSd, ?_, sG rfl, tt⟩
    refine needG rfl ?_
    rintro ⟨hq0, hq4, hq8, _⟩ hno
    refine dxC (wanted_none rfl) rfl (exe_call (args := #[elV p, elV y20, elV y26]) en58 (args_of3 (evS hq0 rfl rfl) (evS hq4 rfl rfl) (evS hq8 rfl rfl))) (c_rMul p y20 y26 wd (by assumption) (by assumption) (lt_256 g0 (by assumption))) ?_
    rintro _ W32 ⟨rfl, hT34⟩
    have hS33 := hSd.call hT34
    exact ⟨rfl, hS33⟩
   ·exact fun S wd hSd => ⟨True.intro, True.intro, True.intro, True.intro, True.intro, True.intro, True.intro, True.intro, True.intro, True.intro, True.intro, True.intro⟩
   intro _ W39 hS40
   refine sqv (ex_assign (v := .slice (so b36) 1 1) rfl) ?_
   show C _ _ _ _ _ _
   refine C_seq ?_
   refine C_sr ?_
   refine sqv (ex_assign (v := .int .i64 0) rfl) ?_
   show C _ _ _ _ _ _
   refine C_block ?_
   refine C_loop (fun nn aa ww => ∃ (m0 : Nat → Value) (k : Nat) (v2 : Value) (en2 : Ent) (c : List Nat), nn = xs.length - k ∧ aa = act 62 (upds m0 [(1, s), (2, y), (3, pt b1), (6, .slice none 0 0), (7, v8), (8, v), (9, .int .i64 (i : Int)), (10, v2), (11, .int .i64 (k : Int))]) [] ∧ St [] w0 ww [en2, en, en9, some (b1, .cells (elA p) 40)] [] ∧ (k ≤ xs.length) ∧ (Own 40 4 el v2 c en2) ∧ (c = rcRow p xs (rMul p y20 y26) i k)) xs.length ?_ ?_
   ·exact ⟨_, 0, (.slice (so b36) 1 1), (some (b36, .cells (elA (rMul p y20 y26)) 40)), [rMul p y20 y26], rfl, act_upds ⟨rfl, rfl, rfl, rfl, rfl, rfl, (congrArg (Value.int .i64) (by first | rfl | omega)), rfl, (congrArg (Value.int .i64) (by first | rfl | omega)), trivial⟩, (St.pick (L := [some (b36, .cells (elA (rMul p y20 y26)) 40), en, en9, some (b1, .cells (elA p) 40)]) hS40 [0, 1, 2, 3] (by decide)), (Nat.zero_le _), (own_of (fun _ => rfl) rfl (Nat.le_of_ble_eq_true rfl) rfl), rfl⟩
   rintro n44 a45 W42 ⟨m41, k, v2, en2, c, rfl, rfl, hS43, hk, hO2, hc⟩
   have hcl : c.length ≤ k + 1 := by rw [hc, rcRow_len]; split <;> omega
   have hcp : ∀ z ∈ c, z < p := by rw [hc]; exact rcRow_lt hp0 _ (rMul_lt hp0) _ _
   refine C_seq ?_
   refine C_sr ?_
   refine sqv (ex_move (v := .int .i64 (k : Int)) rfl) ?_
   refine sqv (ex_move (v := s) rfl) ?_
   refine sqv (ex_lenO (f := cI) (k := 1) (r := (xs.length : Int)) (fun _ => rfl) (by decide) (hs_s) rfl sl25 rfl) ?_
   refine sqv (ex_cmp (x := (k : Int)) (y := (xs.length : Int)) (r := decide ((k : Int) < (xs.length : Int))) rfl rfl rfl) ?_
   show C _ _ _ _ _ _
   refine C_dec ((k : Int) < (xs.length : Int)) rfl (fun hc46 => ?_) (fun hc46 => ?_)
   ·refine C_skip ?_
    show C _ _ _ _ _ _
    refine C_seq ?_
    refine C_block ?_
    refine C_sr ?_
    refine sqv (ex_move (v := .int .i64 (k : Int)) rfl) ?_
    refine sqv (ex_move (v := .int .i64 (i : Int)) rfl) ?_
    refine sqv (ex_cmp (x := (k : Int)) (y := (i : Int)) (r := decide ((k : Int) ≠ (i : Int))) rfl rfl rfl) ?_
    show C _ _ _ _ _ _
    refine C_dec ((k : Int) ≠ (i : Int)) rfl (fun hc47 => ?_) (fun hc47 => ?_)
    ·obtain ⟨y48, hy49⟩ := get_lt xs k (by first | omega | (simp only [List.length_set, List.length_replicate, List.length_append, List.length_take, List.length_drop, List.length_cons, List.length_nil, List.length_map]; omega))
     have hky48 := g2 y48 (List.mem_of_getElem? hy49)
     obtain ⟨b50, o51, hI52, hC53⟩ := sl_at (f := cI) (k := 1) (fun _ => rfl) (by decide) (hs_s) hy49
     refine C_draw (p := 13) (l := [(some 44, elV p), (some 45, v2), (some 46, elV p), (some 47, .agg #[.int .u64 0, .int .u64 0, .int .u64 0, .int .u64 0]), (some 48, s), (some 49, .int .i64 (k : Int)), (some 50, .pointer (some ⟨b50, o51, none⟩)), (some 51, .int .i64 y48), (some 52, elV ((y48).toNat)), (some 53, elV (rSub p 0 ((y48).toNat))), (some 54, .agg #[.int .u64 1, .int .u64 0, .int .u64 0, .int .u64 0]), (some 55, undef), (some 56, undef)]) (G := [11, 12]) (J := fun w => St [] w0 w [en2, en, en9, some (b1, .cells (elA p) 40)] []) mixed ?_ (hS43.draw _)
     refine node1 13 [11, 12] [] [12] (by kernel_rfl) rfl rfl (nd rfl) rfl (by kernel_rfl) ?_ ?_ ?_
     ·intro S wd hSd
      refine ⟨n0 rfl rfl rfl (ex_loads (vs := (el p)) rfl (hSd.at 3 rfl) ag40 rfl rfl) rfl hSd, n0 rfl rfl rfl (ex_move (v := v2) rfl) rfl hSd, n0 rfl rfl rfl (ex_loads (vs := (el p)) rfl (hSd.at 3 rfl) ag40 rfl rfl) rfl hSd, n0 rfl rfl rfl (ex_build (vs := []) (cells := #[.int .u64 0, .int .u64 0, .int .u64 0, .int .u64 0]) rfl (by kernel_rfl)) rfl hSd, n0 rfl rfl rfl (ex_move (v := s) rfl) rfl hSd, n0 rfl rfl rfl (ex_move (v := .int .i64 (k : Int)) rfl) rfl hSd, n2 rfl rfl rfl rfl (fun hq4 hq5 => (ex_sindexO hI52 (evS hq4 rfl rfl) (evS hq5 rfl rfl) sl25 rfl)) rfl hSd, n1 rfl rfl rfl rfl (fun hq6 => (ex_loadC (r := 0) (u := .int .i64 y48) hC53 (hSd.holds0 hZ0) (evS hq6 rfl rfl) on3 rfl rfl)) rfl hSd, ?_, ?_, n0 rfl rfl rfl (ex_build (vs := [(0, .int .u64 1)]) (cells := #[.int .u64 1, .int .u64 0, .int .u64 0, .int .u64 0]) (parts1 rfl) (by kernel_rfl)) rfl hSd, sG rfl, sG rfl, tt⟩
      ·refine needG rfl ?_
       rintro ⟨hq7, _⟩ hno
       refine dxC (wanted_none rfl) rfl (exe_call (args := #[.int .i64 y48]) en87 (args_of1 (evS hq7 rfl rfl))) (c_Point y48 wd (by assumption)) ?_
       rintro _ W54 ⟨rfl, hT56⟩
       have hS55 := hSd.call hT56
       exact ⟨rfl, hS55⟩
      refine needG rfl ?_
      rintro ⟨hq2, hq3, hq8, hq8, _⟩ hno
      refine dxC (wanted_none rfl) rfl (exe_call (args := #[elV p, .agg #[.int .u64 0, .int .u64 0, .int .u64 0, .int .u64 0], elV ((y48).toNat)]) en128 (args_of3 (evS hq2 rfl rfl) (evS hq3 rfl rfl) (evS hq8 rfl rfl))) (c_rSub p 0 ((y48).toNat) wd (by assumption) hp0 (pt_lt (by omega) (by assumption))) ?_
      rintro _ W58 ⟨rfl, hT60⟩
      have hS59 := hSd.call hT60
      exact ⟨rfl, hS59⟩
     ·intro S wd hSd
      refine ⟨tt, tt, tt, tt, tt, tt, tt, tt, tt, tt, tt, ?_, tt, tt⟩
      refine needH rfl ?_
      rintro ⟨hq9, hq10, _⟩ hno
      refine dxE (wanted_none rfl) rfl (st_bslice (vs := [elV (rSub p 0 ((y48).toNat)), .agg #[.int .u64 1, .int .u64 0, .int .u64 0, .int .u64 0]]) hSd sl70 ze40 (parts2 (evS hq9 rfl rfl) (evS hq10 rfl rfl)) (by simp [Value.cells, elV, el]) rfl (by decide)) fun b62 W63 hS64 => ?_
      refine ⟨fun w => St [] w0 w [some (b62, .cells #[.int .u64 (limb (rSub p 0 ((y48).toNat)) 0), .int .u64 (limb (rSub p 0 ((y48).toNat)) 1), .int .u64 (limb (rSub p 0 ((y48).toNat)) 2), .int .u64 (limb (rSub p 0 ((y48).toNat)) 3), .int .u64 1, .int .u64 0, .int .u64 0, .int .u64 0] 40), en2, en, en9, some (b1, .cells (elA p) 40)] [], [(some 44, elV p), (some 45, v2), (some 46, elV p), (some 47, .agg #[.int .u64 0, .int .u64 0, .int .u64 0, .int .u64 0]), (some 48, s), (some 49, .int .i64 (k : Int)), (some 50, .pointer (some ⟨b50, o51, none⟩)), (some 51, .int .i64 y48), (some 52, elV ((y48).toNat)), (some 53, elV (rSub p 0 ((y48).toNat))), (some 54, .agg #[.int .u64 1, .int .u64 0, .int .u64 0, .int .u64 0]), (some 55, .slice (so b62) 2 2), (some 56, undef)], [12], hS64, by kernel_rfl, ⟨rfl, rfl, rfl, rfl, rfl, rfl, rfl, rfl, rfl, rfl, rfl, rfl, rfl, rfl, rfl, rfl, rfl, rfl, rfl, rfl, rfl, rfl, rfl, True.intro, rfl, True.intro, True.intro⟩, rfl, ?_⟩
      show Sc.Node _ _ _ _ _ _ _ 13 [(some 44, elV p), (some 45, v2), (some 46, elV p), (some 47, .agg #[.int .u64 0, .int .u64 0, .int .u64 0, .int .u64 0]), (some 48, s), (some 49, .int .i64 (k : Int)), (some 50, .pointer (some ⟨b50, o51, none⟩)), (some 51, .int .i64 y48), (some 52, elV ((y48).toNat)), (some 53, elV (rSub p 0 ((y48).toNat))), (some 54, .agg #[.int .u64 1, .int .u64 0, .int .u64 0, .int .u64 0]), (some 55, .slice (so b62) 2 2), (some 56, undef)] [12] [11] _
      refine node1 13 [12] [11] [] (by kernel_rfl) rfl rfl (nd rfl) rfl (by kernel_rfl) ?_ ?_ ?_
      ·intro S wd hSd
       refine ⟨n0 rfl rfl rfl (ex_loads (vs := (el p)) rfl (hSd.at 4 rfl) ag40 rfl rfl) rfl hSd, n0 rfl rfl rfl (ex_move (v := v2) rfl) rfl hSd, n0 rfl rfl rfl (ex_loads (vs := (el p)) rfl (hSd.at 4 rfl) ag40 rfl rfl) rfl hSd, n0 rfl rfl rfl (ex_build (vs := []) (cells := #[.int .u64 0, .int .u64 0, .int .u64 0, .int .u64 0]) rfl (by kernel_rfl)) rfl hSd, n0 rfl rfl rfl (ex_move (v := s) rfl) rfl hSd, n0 rfl rfl rfl (ex_move (v := .int .i64 (k : Int)) rfl) rfl hSd, n2 rfl rfl rfl rfl (fun hq4 hq5 => (ex_sindexO hI52 (evS hq4 rfl rfl) (evS hq5 rfl rfl) sl25 rfl)) rfl hSd, n1 rfl rfl rfl rfl (fun hq6 => (ex_loadC (r := 0) (u := .int .i64 y48) hC53 (hSd.holds0 hZ0) (evS hq6 rfl rfl) on3 rfl rfl)) rfl hSd, ?_, ?_, n0 rfl rfl rfl (ex_build (vs := [(0, .int .u64 1)]) (cells := #[.int .u64 1, .int .u64 0, .int .u64 0, .int .u64 0]) (parts1 rfl) (by kernel_rfl)) rfl hSd, sG rfl, sG rfl, tt⟩
       ·refine needG rfl ?_
        rintro ⟨hq7, _⟩ hno
        refine dxC (wanted_none rfl) rfl (exe_call (args := #[.int .i64 y48]) en87 (args_of1 (evS hq7 rfl rfl))) (c_Point y48 wd (by assumption)) ?_
        rintro _ W54 ⟨rfl, hT56⟩
        have hS55 := hSd.call hT56
        exact ⟨rfl, hS55⟩
       refine needG rfl ?_
       rintro ⟨hq2, hq3, hq8, hq8, _⟩ hno
       refine dxC (wanted_none rfl) rfl (exe_call (args := #[elV p, .agg #[.int .u64 0, .int .u64 0, .int .u64 0, .int .u64 0], elV ((y48).toNat)]) en128 (args_of3 (evS hq2 rfl rfl) (evS hq3 rfl rfl) (evS hq8 rfl rfl))) (c_rSub p 0 ((y48).toNat) wd (by assumption) hp0 (pt_lt (by omega) (by assumption))) ?_
       rintro _ W58 ⟨rfl, hT60⟩
       have hS59 := hSd.call hT60
       exact ⟨rfl, hS59⟩
      ·intro S wd hSd
       refine ⟨tt, tt, tt, tt, tt, tt, tt, tt, tt, tt, tt, tt, ?_, tt⟩
       refine needH rfl ?_
       rintro ⟨hq0, hq1, hq11, hq9, _⟩ hno
       refine dxC (wanted_none rfl) rfl (exe_call (args := #[elV p, v2, .slice (so b62) 2 2]) en127 (args_of3 (evS hq0 rfl rfl) (evS hq1 rfl rfl) (evS hq11 rfl rfl))) (c_rpMul p v2 c (.slice (so b62) 2 2) ([rSub p 0 ((y48).toNat), 1]) ((entF en2) ++ (entF (some (b62, .cells #[.int .u64 (limb (rSub p 0 ((y48).toNat)) 0), .int .u64 (limb (rSub p 0 ((y48).toNat)) 1), .int .u64 (limb (rSub p 0 ((y48).toNat)) 2), .int .u64 (limb (rSub p 0 ((y48).toNat)) 3), .int .u64 1, .int .u64 0, .int .u64 0, .int .u64 0] 40)))) wd (by assumption) (by assumption) hcp (by intro z hz; simp at hz; rcases hz with rfl | rfl; exact rSub_lt hp0; exact hp1) (by simp only [List.length_cons, List.length_nil]; omega) (Holds.app (hSd.entH 1 rfl) (hSd.entH 0 rfl)) (Sl.mono ((hO2).slF) fun _ hp => (List.mem_append_left _ hp)) (Sl.mono ((sl_row (f := el) (k := 4) (t := 40) (b := b62) (n := 2) (cs := #[.int .u64 (limb (rSub p 0 ((y48).toNat)) 0), .int .u64 (limb (rSub p 0 ((y48).toNat)) 1), .int .u64 (limb (rSub p 0 ((y48).toNat)) 2), .int .u64 (limb (rSub p 0 ((y48).toNat)) 3), .int .u64 1, .int .u64 0, .int .u64 0, .int .u64 0]) (ys := [rSub p 0 ((y48).toNat), 1]) (fun _ => rfl) rfl (Nat.le_of_ble_eq_true rfl) rfl)) fun _ hp => (List.mem_append_right _ hp))) ?_
       rintro v69 W65 ⟨_, en70, rfl, hp71, hT67⟩
       have hS66 := hSd.call hT67
       refine ⟨fun w => St [] w0 w [en70, some (b62, .cells #[.int .u64 (limb (rSub p 0 ((y48).toNat)) 0), .int .u64 (limb (rSub p 0 ((y48).toNat)) 1), .int .u64 (limb (rSub p 0 ((y48).toNat)) 2), .int .u64 (limb (rSub p 0 ((y48).toNat)) 3), .int .u64 1, .int .u64 0, .int .u64 0, .int .u64 0] 40), en2, en, en9, some (b1, .cells (elA p) 40)] [], [(some 44, elV p), (some 45, v2), (some 46, elV p), (some 47, .agg #[.int .u64 0, .int .u64 0, .int .u64 0, .int .u64 0]), (some 48, s), (some 49, .int .i64 (k : Int)), (some 50, .pointer (some ⟨b50, o51, none⟩)), (some 51, .int .i64 y48), (some 52, elV ((y48).toNat)), (some 53, elV (rSub p 0 ((y48).toNat))), (some 54, .agg #[.int .u64 1, .int .u64 0, .int .u64 0, .int .u64 0]), (some 55, .slice (so b62) 2 2), (some 56, v69)], [], hS66, by kernel_rfl, ⟨rfl, rfl, rfl, rfl, rfl, rfl, rfl, rfl, rfl, rfl, rfl, rfl, rfl, rfl, rfl, rfl, rfl, rfl, rfl, rfl, rfl, rfl, rfl, rfl, rfl, True.intro, True.intro⟩, rfl, ?_⟩
       show Sc.Node _ _ _ _ _ _ _ 13 [(some 44, elV p), (some 45, v2), (some 46, elV p), (some 47, .agg #[.int .u64 0, .int .u64 0, .int .u64 0, .int .u64 0]), (some 48, s), (some 49, .int .i64 (k : Int)), (some 50, .pointer (some ⟨b50, o51, none⟩)), (some 51, .int .i64 y48), (some 52, elV ((y48).toNat)), (some 53, elV (rSub p 0 ((y48).toNat))), (some 54, .agg #[.int .u64 1, .int .u64 0, .int .u64 0, .int .u64 0]), (some 55, .slice (so b62) 2 2), (some 56, v69)] [] [12, 11] _
       refine node1 13 [] [12, 11] [] (by kernel_rfl) rfl rfl (nd rfl) rfl (by kernel_rfl) ?_ ?_ ?_
       ·intro S wd hSd
        refine ⟨n0 rfl rfl rfl (ex_loads (vs := (el p)) rfl (hSd.at 5 rfl) ag40 rfl rfl) rfl hSd, n0 rfl rfl rfl (ex_move (v := v2) rfl) rfl hSd, n0 rfl rfl rfl (ex_loads (vs := (el p)) rfl (hSd.at 5 rfl) ag40 rfl rfl) rfl hSd, n0 rfl rfl rfl (ex_build (vs := []) (cells := #[.int .u64 0, .int .u64 0, .int .u64 0, .int .u64 0]) rfl (by kernel_rfl)) rfl hSd, n0 rfl rfl rfl (ex_move (v := s) rfl) rfl hSd, n0 rfl rfl rfl (ex_move (v := .int .i64 (k : Int)) rfl) rfl hSd, n2 rfl rfl rfl rfl (fun hq4 hq5 => (ex_sindexO hI52 (evS hq4 rfl rfl) (evS hq5 rfl rfl) sl25 rfl)) rfl hSd, n1 rfl rfl rfl rfl (fun hq6 => (ex_loadC (r := 0) (u := .int .i64 y48) hC53 (hSd.holds0 hZ0) (evS hq6 rfl rfl) on3 rfl rfl)) rfl hSd, ?_, ?_, n0 rfl rfl rfl (ex_build (vs := [(0, .int .u64 1)]) (cells := #[.int .u64 1, .int .u64 0, .int .u64 0, .int .u64 0]) (parts1 rfl) (by kernel_rfl)) rfl hSd, sG rfl, sG rfl, tt⟩
        ·refine needG rfl ?_
         rintro ⟨hq7, _⟩ hno
         refine dxC (wanted_none rfl) rfl (exe_call (args := #[.int .i64 y48]) en87 (args_of1 (evS hq7 rfl rfl))) (c_Point y48 wd (by assumption)) ?_
         rintro _ W54 ⟨rfl, hT56⟩
         have hS55 := hSd.call hT56
         exact ⟨rfl, hS55⟩
        refine needG rfl ?_
        rintro ⟨hq2, hq3, hq8, hq8, _⟩ hno
        refine dxC (wanted_none rfl) rfl (exe_call (args := #[elV p, .agg #[.int .u64 0, .int .u64 0, .int .u64 0, .int .u64 0], elV ((y48).toNat)]) en128 (args_of3 (evS hq2 rfl rfl) (evS hq3 rfl rfl) (evS hq8 rfl rfl))) (c_rSub p 0 ((y48).toNat) wd (by assumption) hp0 (pt_lt (by omega) (by assumption))) ?_
        rintro _ W58 ⟨rfl, hT60⟩
        have hS59 := hSd.call hT60
        exact ⟨rfl, hS59⟩
       ·exact fun S wd hSd => ⟨True.intro, True.intro, True.intro, True.intro, True.intro, True.intro, True.intro, True.intro, True.intro, True.intro, True.intro, True.intro, True.intro, True.intro⟩
       intro _ W72 hS73
       refine sqv (ex_assign (v := v69) rfl) ?_
       refine blk_normal ?_
       show C _ _ _ _ _ _
       refine C_region ?_
       refine sqv (ex_move (v := .int .i64 (k : Int)) rfl) ?_
       refine nm ((k : Int) + 1) fun x74 hx74 => ?_
       refine sqv (ex_add (x := (k : Int)) (y := 1) rfl rfl (w64 hx74 (by omega))) ?_
       refine sqv (ex_assign (v := .int .i64 x74) rfl) ?_
       exact ⟨_, (by omega), ⟨_, (k + 1), v69, en70, (rpMul p c ([rSub p 0 ((y48).toNat), 1])), rfl, act_upds ⟨rfl, rfl, rfl, rfl, rfl, rfl, (congrArg (Value.int .i64) (by first | rfl | omega)), rfl, (congrArg (Value.int .i64) (by first | rfl | omega)), trivial⟩, (St.pick (L := [en70, some (b62, .cells #[.int .u64 (limb (rSub p 0 ((y48).toNat)) 0), .int .u64 (limb (rSub p 0 ((y48).toNat)) 1), .int .u64 (limb (rSub p 0 ((y48).toNat)) 2), .int .u64 (limb (rSub p 0 ((y48).toNat)) 3), .int .u64 1, .int .u64 0, .int .u64 0, .int .u64 0] 40), en2, en, en9, some (b1, .cells (elA p) 40)]) hS73 [0, 3, 4, 5] (by decide)), (by omega), hp71, (rc_step hc hy49 (by omega))⟩⟩
      exact fun h => absurd h (by decide)
     exact fun h => absurd h (by decide)
    refine C_skip ?_
    refine blk_normal ?_
    show C _ _ _ _ _ _
    refine C_region ?_
    refine sqv (ex_move (v := .int .i64 (k : Int)) rfl) ?_
    refine nm ((k : Int) + 1) fun x75 hx75 => ?_
    refine sqv (ex_add (x := (k : Int)) (y := 1) rfl rfl (w64 hx75 (by omega))) ?_
    refine sqv (ex_assign (v := .int .i64 x75) rfl) ?_
    exact ⟨_, (by omega), ⟨_, (k + 1), v2, en2, c, rfl, act_upds ⟨rfl, rfl, rfl, rfl, rfl, rfl, (congrArg (Value.int .i64) (by first | rfl | omega)), rfl, (congrArg (Value.int .i64) (by first | rfl | omega)), trivial⟩, (St.pick (L := [en2, en, en9, some (b1, .cells (elA p) 40)]) hS43 [0, 1, 2, 3] (by decide)), (by omega), hO2, (rc_skip hc (by omega))⟩⟩
   refine C_exit ?_
   refine thn_exit ?_
   refine thn_exit ?_
   refine blk_exit ?_
   show C _ _ _ _ _ _
   refine C_region ?_
   refine sqv (ex_loads (vs := (el p)) rfl (hS43.at 3 rfl) ag40 rfl rfl) ?_
   refine sqv (ex_move (v := v) rfl) ?_
   refine sqv (ex_move (v := v2) rfl) ?_
   refine sqc (exe_call (args := #[elV p, v, v2]) en129 (args_of3 rfl rfl rfl)) (c_rpAdd p v o v2 c ((entF en) ++ (entF en2)) W42 (by assumption) (by assumption) hop hcp (by omega) (Holds.app (hS43.entH 1 rfl) (hS43.entH 0 rfl)) (Sl.mono ((hO).slF) fun _ hp => (List.mem_append_left _ hp)) (Sl.mono ((hO2).slF) fun _ hp => (List.mem_append_right _ hp))) ?_
   rintro v80 W76 ⟨_, en81, rfl, hp82, hT78⟩
   have hS77 := hS43.call hT78
   refine sqv (ex_assign (v := v80) rfl) ?_
   refine blk_normal ?_
   show C _ _ _ _ _ _
   refine C_region ?_
   refine sqv (ex_move (v := .int .i64 (i : Int)) rfl) ?_
   refine nm ((i : Int) + 1) fun x83 hx83 => ?_
   refine sqv (ex_add (x := (i : Int)) (y := 1) rfl rfl (w64 hx83 (by omega))) ?_
   refine sqv (ex_assign (v := .int .i64 x83) rfl) ?_
   obtain rfl : k = xs.length := by omega
   exact ⟨_, (by omega), ⟨_, (i + 1), v80, en81, (rpAdd p o c), rfl, act_upds ⟨rfl, rfl, rfl, rfl, rfl, rfl, (congrArg (Value.int .i64) (by first | rfl | omega)), trivial⟩, (St.pick (L := [en81, en2, en, en9, some (b1, .cells (elA p) 40)]) hS77 [0, 3, 4] (by decide)), (by omega), hp82, (rin_step ho hy21 hy27 hc)⟩⟩
  exact fun h => absurd h (by decide)
 refine C_exit ?_
 refine thn_exit ?_
 refine thn_exit ?_
 refine blk_exit ?_
 show C _ _ _ _ _ _
 refine C_sr ?_
 refine sqv (ex_move (v := v) rfl) ?_
 refine sqv (ex_assign (v := v) rfl) ?_
 show C _ _ _ _ _ _
 refine C_ret ?_
 refine done_1 (v := v) rfl rfl ?_
 obtain rfl : i = xs.length := by omega
 exact ⟨_, _, rfl, by rw [rInt, ← ho]; exact hO, (St.pick (L := [en, en9, some (b1, .cells (elA p) 40)]) hS16 [0] (by decide)).less (fun _ h => absurd h (by simp))⟩
end Go.Proofs
end
section
set_option linter.unusedVariables false
set_option linter.unusedSimpArgs false
set_option maxRecDepth 20000
set_option maxHeartbeats 2000000
namespace Go.Proofs
open Sc
theorem a4_40 : arr4 Tryz.prog 40 = true := by kernel_rfl
theorem en21 : enters Tryz.prog 21 = true := by kernel_rfl
theorem en86 : enters Tryz.prog 86 = true := by kernel_rfl
theorem en90 : enters Tryz.prog 90 = true := by kernel_rfl
theorem fit_step {p n k y : Nat} {x : Int} {xs : List Int} {ys : List Nat} (h : rFitK p xs ys n k) (hx : xs[k]? = some x) (hy : ys[k]? = some y) (hc : ¬ rEvl p (rInt p (xs.take n) (ys.take n)) x.toNat ≠ rMul p 1 y) : rFitK p xs ys n (k + 1) := by
 intro i hi
 by_cases hik : i = k
 ·subst hik; rw [ptN_some hx, getD_some hy]; exact Classical.not_not.1 hc
 exact h i (by omega)
theorem c_rFits (p : Nat) (K : Int) (s : Value) (xs : List Int) (y : Value) (ys : List Nat) (Z0 : List Fact) (w0 : World) (g0 : p < B256) (g1 : 255 < p) (g2 : ∀ y ∈ xs, 1 ≤ y ∧ y ≤ 255) (g3 : ∀ z ∈ ys, z < p) (g4 : xs.length = ys.length) (g5 : xs.length < 900000) (g6 : 0 ≤ K) (hZ0 : Holds w0 Z0) (hs_s : Sl Z0 3 1 s (xs.flatMap cI)) (hs_y : Sl Z0 40 4 y (ys.flatMap el)) : Calls Tryz.prog 134 #[elV p, s, y, .int .i64 K] w0 (Ret fun uu w' => uu = .bool (rFit p xs ys (min (K).toNat (xs).length)) ∧ St [] w0 w' [] []) := by
 have hp0 : 0 < p := by omega
 have hp1 : 1 < p := by omega
 have hlen := sl_lt (f := cI) (k := 1) (fun _ => rfl) (by decide) hs_s
 refine calls_of Tryz.func134 rfl Tryz.ntmps134 (Nat.le_of_ble_eq_true rfl) ?_
 have hS0 := St.nil w0
 refine C_sr ?_
 refine sqE (st_box (v := elV p) (cs := (elA p)) hS0 rfl rfl) fun b1 W2 hS3 => ?_
 refine sqv (ex_assign (v := .bool false) rfl) ?_
 show C _ _ _ _ _ _
 refine C_sr ?_
 refine sqv (ex_move (v := .int .i64 K) rfl) ?_
 refine sqv (ex_move (v := s) rfl) ?_
 refine sqv (ex_lenO (f := cI) (k := 1) (r := (xs.length : Int)) (fun _ => rfl) (by decide) (hs_s) rfl sl25 rfl) ?_
 refine nm (if (xs.length : Int) < K then (xs.length : Int) else K) fun x4 hx4 => ?_
 refine sqv (ex_min (a := K) (b := (xs.length : Int)) rfl rfl hx4) ?_
 refine nm (if x4 < 0 then 0 else x4) fun x5 hx5 => ?_
 refine sqv (ex_max (a := x4) (b := 0) rfl rfl hx5) ?_
 refine sqv (ex_assign (v := .int .i64 x5) rfl) ?_
 show C _ _ _ _ _ _
 refine C_seq ?_
 have hj6 : x5 = (((min K.toNat xs.length) : Nat) : Int) := by omega
 have hc7 := sl_cap (f := cI) (k := 1) (fun _ => rfl) (by decide) (hs_s)
 refine nm (cutv s 1 0 (min K.toNat xs.length) (capv s)) fun v9 hv9 => ?_
 have hs8 := sl_cutM (f := cI) (k := 1) (fun _ => rfl) (by decide) (hs_s) 0 (min K.toNat xs.length) (capv s) (by first | omega | (simp only [List.length_set, List.length_replicate, List.length_append, List.length_take, List.length_drop, List.length_cons, List.length_nil]; omega)) (by first | omega | (simp only [List.length_set, List.length_replicate, List.length_append, List.length_take, List.length_drop, List.length_cons, List.length_nil]; omega)) (by first | omega | (simp only [List.length_set, List.length_replicate, List.length_append, List.length_take, List.length_drop, List.length_cons, List.length_nil]; omega)) (by first | omega | (simp only [List.length_set, List.length_replicate, List.length_append, List.length_take, List.length_drop, List.length_cons, List.length_nil]; omega))
 rw [← hv9] at hs8
 rw [List.drop_zero] at hs8
 have hc11 := sl_cap (f := el) (k := 4) (fun _ => rfl) (by decide) (hs_y)
 refine nm (cutv y 4 0 (min K.toNat xs.length) (capv y)) fun v13 hv13 => ?_
 have hs12 := sl_cutM (f := el) (k := 4) (fun _ => rfl) (by decide) (hs_y) 0 (min K.toNat xs.length) (capv y) (by first | omega | (simp only [List.length_set, List.length_replicate, List.length_append, List.length_take, List.length_drop, List.length_cons, List.length_nil]; omega)) (by first | omega | (simp only [List.length_set, List.length_replicate, List.length_append, List.length_take, List.length_drop, List.length_cons, List.length_nil]; omega)) (by first | omega | (simp only [List.length_set, List.length_replicate, List.length_append, List.length_take, List.length_drop, List.length_cons, List.length_nil]; omega)) (by first | omega | (simp only [List.length_set, List.length_replicate, List.length_append, List.length_take, List.length_drop, List.length_cons, List.length_nil]; omega))
 rw [← hv13] at hs12
 rw [List.drop_zero] at hs12
 refine C_draw (p := 8) (l := [(some 17, elV p), (some 18, s), (some 19, .int .i64 x5), (some 20, v9), (some 21, y), (some 22, .int .i64 x5), (some 23, v13), (some 24, undef)]) (G := [7]) (J := fun w => St [] w0 w [some (b1, .cells (elA p) 40)] []) mixed ?_ (hS3.draw _)
 refine node1 8 [7] [] [] (by kernel_rfl) rfl rfl (nd rfl) rfl (by kernel_rfl) ?_ ?_ ?_
 ·intro S wd hSd
  exact ⟨n0 rfl rfl rfl (ex_loads (vs := (el p)) rfl (hSd.at 0 rfl) ag40 rfl rfl) rfl hSd, n0 rfl rfl rfl (ex_move (v := s) rfl) rfl hSd, n0 rfl rfl rfl (ex_move (v := .int .i64 x5) rfl) rfl hSd, n2 rfl rfl rfl rfl (fun hq1 hq2 => (ex_cutE hv9 (f := cI) (k := 1) (l := 0) (hh := (min K.toNat xs.length)) (m := (capv s)) (fun _ => rfl) (by decide) (hs_s) (evS hq1 rfl rfl) sl25 rfl ⟨_, _, (evS hq2 rfl rfl), (by omega)⟩ rfl (by decide) (by first | omega | (simp only [List.length_set, List.length_replicate, List.length_append, List.length_take, List.length_drop, List.length_cons, List.length_nil]; omega)) (by first | omega | (simp only [List.length_set, List.length_replicate, List.length_append, List.length_take, List.length_drop, List.length_cons, List.length_nil]; omega)) (by first | omega | (simp only [List.length_set, List.length_replicate, List.length_append, List.length_take, List.length_drop, List.length_cons, List.length_nil]; omega)) (by first | omega | (simp only [List.length_set, List.length_replicate, List.length_append, List.length_take, List.length_drop, List.length_cons, List.length_nil]; omega)))) rfl hSd, n0 rfl rfl rfl (ex_move (v := y) rfl) rfl hSd, n0 rfl rfl rfl (ex_move (v := .int .i64 x5) rfl) rfl hSd, n2 rfl rfl rfl rfl (fun hq4 hq5 => (ex_cutE hv13 (f := el) (k := 4) (l := 0) (hh := (min K.toNat xs.length)) (m := (capv y)) (fun _ => rfl) (by decide) (hs_y) (evS hq4 rfl rfl) sl70 rfl ⟨_, _, (evS hq5 rfl rfl), (by omega)⟩ rfl (by decide) (by first | omega | (simp only [List.length_set, List.length_replicate, List.length_append, List.length_take, List.length_drop, List.length_cons, List.length_nil]; omega)) (by first | omega | (simp only [List.length_set, List.length_replicate, List.length_append, List.length_take, List.length_drop, List.length_cons, List.length_nil]; omega)) (by first | omega | (simp only [List.length_set, List.length_replicate, List.length_append, List.length_take, List.length_drop, List.length_cons, List.length_nil]; omega)) (by first | omega | (simp only [List.length_set, List.length_replicate, List.length_append, List.length_take, List.length_drop, List.length_cons, List.length_nil]; omega)))) rfl hSd, sG rfl, tt⟩
 ·intro S wd hSd
  refine ⟨tt, tt, tt, tt, tt, tt, tt, ?_, tt⟩
  refine needH rfl ?_
  rintro ⟨hq0, hq3, hq6, _⟩ hno
  refine dxC (wanted_none rfl) rfl (exe_call (args := #[elV p, v9, v13]) en90 (args_of3 (evS hq0 rfl rfl) (evS hq3 rfl rfl) (evS hq6 rfl rfl))) (c_rInt p v9 (xs.take (min K.toNat xs.length)) v13 (ys.take (min K.toNat xs.length)) Z0 wd (by assumption) (by assumption) (fun y hy => g2 y (List.mem_of_mem_take hy)) (fun y hy => g3 y (List.mem_of_mem_take hy)) (by simp only [List.length_take]; omega) (by simp only [List.length_take]; omega) (hSd.holds0 hZ0) (hs8) (hs12)) ?_
  rintro v19 W15 ⟨_, en20, rfl, hp21, hT17⟩
  have hS16 := hSd.call hT17
  refine ⟨fun w => St [] w0 w [en20, some (b1, .cells (elA p) 40)] [], [(some 17, elV p), (some 18, s), (some 19, .int .i64 x5), (some 20, v9), (some 21, y), (some 22, .int .i64 x5), (some 23, v13), (some 24, v19)], [], hS16, by kernel_rfl, ⟨rfl, rfl, rfl, rfl, rfl, rfl, rfl, rfl, rfl, rfl, rfl, rfl, rfl, rfl, rfl, True.intro, True.intro⟩, rfl, ?_⟩
  show Sc.Node _ _ _ _ _ _ _ 8 [(some 17, elV p), (some 18, s), (some 19, .int .i64 x5), (some 20, v9), (some 21, y), (some 22, .int .i64 x5), (some 23, v13), (some 24, v19)] [] [7] _
  refine node1 8 [] [7] [] (by kernel_rfl) rfl rfl (nd rfl) rfl (by kernel_rfl) ?_ ?_ ?_
  ·intro S wd hSd
   exact ⟨n0 rfl rfl rfl (ex_loads (vs := (el p)) rfl (hSd.at 1 rfl) ag40 rfl rfl) rfl hSd, n0 rfl rfl rfl (ex_move (v := s) rfl) rfl hSd, n0 rfl rfl rfl (ex_move (v := .int .i64 x5) rfl) rfl hSd, n2 rfl rfl rfl rfl (fun hq1 hq2 => (ex_cutE hv9 (f := cI) (k := 1) (l := 0) (hh := (min K.toNat xs.length)) (m := (capv s)) (fun _ => rfl) (by decide) (hs_s) (evS hq1 rfl rfl) sl25 rfl ⟨_, _, (evS hq2 rfl rfl), (by omega)⟩ rfl (by decide) (by first | omega | (simp only [List.length_set, List.length_replicate, List.length_append, List.length_take, List.length_drop, List.length_cons, List.length_nil]; omega)) (by first | omega | (simp only [List.length_set, List.length_replicate, List.length_append, List.length_take, List.length_drop, List.length_cons, List.length_nil]; omega)) (by first | omega | (simp only [List.length_set, List.length_replicate, List.length_append, List.length_take, List.length_drop, List.length_cons, List.length_nil]; omega)) (by first | omega | (simp only [List.length_set, List.length_replicate, List.length_append, List.length_take, List.length_drop, List.length_cons, List.length_nil]; omega)))) rfl hSd, n0 rfl rfl rfl (ex_move (v := y) rfl) rfl hSd, n0 rfl rfl rfl (ex_move (v := .int .i64 x5) rfl) rfl hSd, n2 rfl rfl rfl rfl (fun hq4 hq5 => (ex_cutE hv13 (f := el) (k := 4) (l := 0) (hh := (min K.toNat xs.length)) (m := (capv y)) (fun _ => rfl) (by decide) (hs_y) (evS hq4 rfl rfl) sl70 rfl ⟨_, _, (evS hq5 rfl rfl), (by omega)⟩ rfl (by decide) (by first | omega | (simp only [List.length_set, List.length_replicate, List.length_append, List.length_take, List.length_drop, List.length_cons, List.length_nil]; omega)) (by first | omega | (simp only [List.length_set, List.length_replicate, List.length_append, List.length_take, List.length_drop, List.length_cons, List.length_nil]; omega)) (by first | omega | (simp only [List.length_set, List.length_replicate, List.length_append, List.length_take, List.length_drop, List.length_cons, List.length_nil]; omega)) (by first | omega | (simp only [List.length_set, List.length_replicate, List.length_append, List.length_take, List.length_drop, List.length_cons, List.length_nil]; omega)))) rfl hSd, sG rfl, tt⟩
  ·exact fun S wd hSd => ⟨True.intro, True.intro, True.intro, True.intro, True.intro, True.intro, True.intro, True.intro, True.intro⟩
  intro _ W22 hS23
  refine sqv (ex_assign (v := v19) rfl) ?_
  show C _ _ _ _ _ _
  refine C_seq ?_
  refine C_sr ?_
  refine sqv (ex_assign (v := .int .i64 0) rfl) ?_
  show C _ _ _ _ _ _
  refine C_block ?_
  refine C_loop (fun nn aa ww => ∃ (m0 : Nat → Value) (k : Nat), nn = xs.length - k ∧ aa = act 46 (upds m0 [(1, s), (2, y), (4, pt b1), (10, v19), (11, .int .i64 (k : Int))]) [] ∧ St [] w0 ww [en20, some (b1, .cells (elA p) 40)] [] ∧ (k ≤ xs.length) ∧ (rFitK p xs ys (min K.toNat xs.length) k)) xs.length ?_ ?_
  ·exact ⟨_, 0, rfl, act_upds ⟨rfl, rfl, rfl, rfl, (congrArg (Value.int .i64) (by first | rfl | omega)), trivial⟩, (St.pick (L := [en20, some (b1, .cells (elA p) 40)]) hS23 [0, 1] (by decide)), (Nat.zero_le _), (fun i h => absurd h (by omega))⟩
  rintro n27 a28 W25 ⟨m24, k, rfl, rfl, hS26, hk, hf⟩
  refine C_seq ?_
  refine C_sr ?_
  refine sqv (ex_move (v := .int .i64 (k : Int)) rfl) ?_
  refine sqv (ex_move (v := s) rfl) ?_
  refine sqv (ex_lenO (f := cI) (k := 1) (r := (xs.length : Int)) (fun _ => rfl) (by decide) (hs_s) rfl sl25 rfl) ?_
  refine sqv (ex_cmp (x := (k : Int)) (y := (xs.length : Int)) (r := decide ((k : Int) < (xs.length : Int))) rfl rfl rfl) ?_
  show C _ _ _ _ _ _
  refine C_dec ((k : Int) < (xs.length : Int)) rfl (fun hc29 => ?_) (fun hc29 => ?_)
  ·refine C_skip ?_
   show C _ _ _ _ _ _
   refine C_seq ?_
   refine C_block ?_
   refine C_seq ?_
   obtain ⟨y30, hy31⟩ := get_lt xs k (by first | omega | (simp only [List.length_set, List.length_replicate, List.length_append, List.length_take, List.length_drop, List.length_cons, List.length_nil, List.length_map]; omega))
   have hky30 := g2 y30 (List.mem_of_getElem? hy31)
   obtain ⟨b32, o33, hI34, hC35⟩ := sl_at (f := cI) (k := 1) (fun _ => rfl) (by decide) (hs_s) hy31
   obtain ⟨y44, hy45⟩ := get_lt ys k (by first | omega | (simp only [List.length_set, List.length_replicate, List.length_append, List.length_take, List.length_drop, List.length_cons, List.length_nil, List.length_map]; omega))
   have hky44 := g3 y44 (List.mem_of_getElem? hy45)
   obtain ⟨b46, o47, hI48, hC49⟩ := sl_at (f := el) (k := 4) (fun _ => rfl) (by decide) (hs_y) hy45
   refine C_draw (p := 15) (l := [(some 31, elV p), (some 32, v19), (some 33, s), (some 34, .int .i64 (k : Int)), (some 35, .pointer (some ⟨b32, o33, none⟩)), (some 36, .int .i64 y30), (some 37, elV ((y30).toNat)), (some 38, elV (rEvl p (rInt p (xs.take (min K.toNat xs.length)) (ys.take (min K.toNat xs.length))) ((y30).toNat))), (some 39, elV p), (some 40, y), (some 41, .int .i64 (k : Int)), (some 42, .pointer (some ⟨b46, o47, none⟩)), (some 43, elV y44), (some 44, elV (rMul p 1 y44)), (some 45, .bool (decide ((rEvl p (rInt p (xs.take (min K.toNat xs.length)) (ys.take (min K.toNat xs.length))) ((y30).toNat)) ≠ (rMul p 1 y44))))]) (G := []) (J := fun w => St [] w0 w [en20, some (b1, .cells (elA p) 40)] []) mixed ?_ (hS26.draw _)
   refine node1 15 [] [] [] (by kernel_rfl) rfl rfl (nd rfl) rfl (by kernel_rfl) ?_ ?_ ?_
   ·intro S wd hSd
    refine ⟨n0 rfl rfl rfl (ex_loads (vs := (el p)) rfl (hSd.at 1 rfl) ag40 rfl rfl) rfl hSd, n0 rfl rfl rfl (ex_move (v := v19) rfl) rfl hSd, n0 rfl rfl rfl (ex_move (v := s) rfl) rfl hSd, n0 rfl rfl rfl (ex_move (v := .int .i64 (k : Int)) rfl) rfl hSd, n2 rfl rfl rfl rfl (fun hq2 hq3 => (ex_sindexO hI34 (evS hq2 rfl rfl) (evS hq3 rfl rfl) sl25 rfl)) rfl hSd, n1 rfl rfl rfl rfl (fun hq4 => (ex_loadC (r := 0) (u := .int .i64 y30) hC35 (hSd.holds0 hZ0) (evS hq4 rfl rfl) on3 rfl rfl)) rfl hSd, ?_, ?_, n0 rfl rfl rfl (ex_loads (vs := (el p)) rfl (hSd.at 1 rfl) ag40 rfl rfl) rfl hSd, n0 rfl rfl rfl (ex_move (v := y) rfl) rfl hSd, n0 rfl rfl rfl (ex_move (v := .int .i64 (k : Int)) rfl) rfl hSd, n2 rfl rfl rfl rfl (fun hq9 hq10 => (ex_sindexO hI48 (evS hq9 rfl rfl) (evS hq10 rfl rfl) sl70 rfl)) rfl hSd, n1 rfl rfl rfl rfl (fun hq11 => (ex_loadsC (r := 0) (vs := (el y44)) hC49 (hSd.holds0 hZ0) (evS hq11 rfl rfl) ag40 rfl rfl rfl)) rfl hSd, ?_, ?_, tt⟩
    ·refine needG rfl ?_
     rintro ⟨hq5, _⟩ hno
     refine dxC (wanted_none rfl) rfl (exe_call (args := #[.int .i64 y30]) en87 (args_of1 (evS hq5 rfl rfl))) (c_Point y30 wd (by assumption)) ?_
     rintro _ W36 ⟨rfl, hT38⟩
     have hS37 := hSd.call hT38
     exact ⟨rfl, hS37⟩
    ·refine needG rfl ?_
     rintro ⟨hq0, hq1, hq6, hq6, _⟩ hno
     refine dxC (wanted_none rfl) rfl (exe_call (args := #[elV p, v19, elV ((y30).toNat)]) en86 (args_of3 (evS hq0 rfl rfl) (evS hq1 rfl rfl) (evS hq6 rfl rfl))) (c_rEval p ((y30).toNat) v19 (rInt p (xs.take (min K.toNat xs.length)) (ys.take (min K.toNat xs.length))) (entF en20) wd (by assumption) (by assumption) (rInt_lt hp0 _ _) (lt_256 g0 (pt_lt (by omega) (by assumption))) (hSd.entH 0 rfl) ((hp21).slF)) ?_
     rintro _ W40 ⟨rfl, hT42⟩
     have hS41 := hSd.call hT42
     exact ⟨rfl, hS41⟩
    ·refine needG rfl ?_
     rintro ⟨hq8, hq12, hq7, _⟩ hno
     refine dxC (wanted_none rfl) rfl (exe_call (args := #[elV p, elV y44]) en21 (args_of2 (evS hq8 rfl rfl) (evS hq12 rfl rfl))) (c_rMod p y44 wd (by assumption) (by assumption) (lt_256 g0 (by assumption))) ?_
     rintro _ W50 ⟨rfl, hT52⟩
     have hS51 := hSd.call hT52
     exact ⟨rfl, hS51⟩
    refine needG rfl ?_
    rintro ⟨hq7, hq13, _⟩ hno
    exact dx (wanted_none rfl) rfl (ex_eqEl (x := (rEvl p (rInt p (xs.take (min K.toNat xs.length)) (ys.take (min K.toNat xs.length))) ((y30).toNat))) (y := (rMul p 1 y44)) (t := decide ((rEvl p (rInt p (xs.take (min K.toNat xs.length)) (ys.take (min K.toNat xs.length))) ((y30).toNat)) ≠ (rMul p 1 y44))) a4_40 (by first | assumption | exact lt_256 g0 (rEvl_lt hp0) | exact lt_256 g0 (rMul_lt hp0)) (by first | assumption | exact lt_256 g0 (rEvl_lt hp0) | exact lt_256 g0 (rMul_lt hp0)) (evS hq7 rfl rfl) (evS hq13 rfl rfl) rfl) ⟨rfl, hSd⟩
   ·exact fun S wd hSd => ⟨True.intro, True.intro, True.intro, True.intro, True.intro, True.intro, True.intro, True.intro, True.intro, True.intro, True.intro, True.intro, True.intro, True.intro, True.intro, True.intro⟩
   intro _ W54 hS55
   show C _ _ _ _ _ _
   refine C_dec ((rEvl p (rInt p (xs.take (min K.toNat xs.length)) (ys.take (min K.toNat xs.length))) ((y30).toNat)) ≠ (rMul p 1 y44)) rfl (fun hc56 => ?_) (fun hc56 => ?_)
   ·refine C_sr ?_
    refine sqv (ex_assign (v := .bool false) rfl) ?_
    show C _ _ _ _ _ _
    refine C_ret ?_
    refine blk_ret ?_
    refine thn_ret ?_
    refine thn_ret ?_
    refine blk_ret ?_
    refine thn_ret ?_
    refine done_1 (v := .bool false) rfl rfl ?_
    exact ⟨congrArg _ (rFit_false hy31 hy45 (by assumption)), (St.pick (L := [en20, some (b1, .cells (elA p) 40)]) hS55 [] (by decide))⟩
   refine C_skip ?_
   refine blk_normal ?_
   show C _ _ _ _ _ _
   refine C_region ?_
   refine sqv (ex_move (v := .int .i64 (k : Int)) rfl) ?_
   refine nm ((k : Int) + 1) fun x57 hx57 => ?_
   refine sqv (ex_add (x := (k : Int)) (y := 1) rfl rfl (w64 hx57 (by omega))) ?_
   refine sqv (ex_assign (v := .int .i64 x57) rfl) ?_
   exact ⟨_, (by omega), ⟨_, (k + 1), rfl, act_upds ⟨rfl, rfl, rfl, rfl, (congrArg (Value.int .i64) (by first | rfl | omega)), trivial⟩, (St.pick (L := [en20, some (b1, .cells (elA p) 40)]) hS55 [0, 1] (by decide)), (by omega), (fit_step hf hy31 hy45 hc56)⟩⟩
  refine C_exit ?_
  refine thn_exit ?_
  refine thn_exit ?_
  refine blk_exit ?_
  show C _ _ _ _ _ _
  refine C_sr ?_
  refine sqv (ex_assign (v := .bool true) rfl) ?_
  show C _ _ _ _ _ _
  refine C_ret ?_
  refine done_1 (v := .bool true) rfl rfl ?_
  obtain rfl : k = xs.length := by omega
  exact ⟨congrArg _ (rFit_true hf), (St.pick (L := [en20, some (b1, .cells (elA p) 40)]) hS26 [] (by decide))⟩
 exact fun h => absurd h (by decide)
end Go.Proofs
end
