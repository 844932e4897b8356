/- AuditEvents holds: the events that the audit records are those of the reference, for all arguments that the statement admits, with no further condition. Part 8 of 12. -/
import Derived.Test.YtfhpmpmmckkgbaaGreatDoorE7
set_option linter.unusedVariables false
set_option linter.unusedSimpArgs false
set_option linter.unusedSectionVars false
section
set_option linter.unusedVariables false
set_option linter.unusedSimpArgs false
set_option maxRecDepth 20000
set_option maxHeartbeats 2000000
namespace Go.Proofs
open Sc
theorem aa167 : arrAgg Tryz.prog 167 = some (2, 14) := by kernel_rfl
theorem ag167 : aggOf Tryz.prog 167 = some 28 := by kernel_rfl
theorem en118 : enters Tryz.prog 118 = true := by kernel_rfl
theorem fi117_0 : fieldOf Tryz.prog 117 0 = some 0 := by kernel_rfl
theorem ze117 : zeroOf Tryz.prog 117 = some #[.int .i64 0, .int .u64 0, .int .u64 0, .int .u64 0, .int .u64 0, .int .u64 0, .int .u64 0, .int .u64 0, .int .u64 0, .int .u64 0, .int .u64 0, .int .u64 0, .int .u64 0, .int .u64 0] := by kernel_rfl
theorem c_Get (F : PrF) (n : Int) (Z0 : List Fact) (w0 : World) (g0 : FOk F) (g1 : n = F.id) (hZ0 : Holds w0 Z0) (hG : Cells Z0 0 0 gC) : Calls Tryz.prog 79 #[.int .i64 n] w0 (Ret fun uu w' => uu = .tuple #[fdV F, .int .i64 0] ∧ St [] w0 w' [] []) := by
 refine calls_of Tryz.func79 rfl Tryz.ntmps79 (Nat.le_of_ble_eq_true rfl) ?_
 have hS0 := St.nil w0
 refine C_sr ?_
 refine sqE (st_alloc hS0 ze117) fun b1 W2 hS3 => ?_
 refine sqv (ex_assign (v := .int .i64 0) rfl) ?_
 show C _ _ _ _ _ _
 refine C_seq ?_
 refine C_sr ?_
 refine sqv (ex_loadsC (r := 0) (vs := gC) hG (hS3.holds0 hZ0) rfl ag167 rfl rfl rfl) ?_
 refine sqv (ex_move (v := .int .i64 0) rfl) ?_
 show C _ _ _ _ _ _
 refine C_block ?_
 refine C_unroll 3 ?_
 show C _ _ _ _ _ _
 refine C_sr ?_
 refine sqv (ex_cmp (x := 0) (y := 2) (r := true) rfl rfl rfl) ?_
 show C _ _ _ _ _ _
 refine C_seq ?_
 refine C_true rfl ?_
 refine C_skip ?_
 show C _ _ _ _ _ _
 refine C_seq ?_
 refine C_block ?_
 refine C_sr ?_
 refine sqv (ex_indexV (f := fdC) (xs := ([F1, F2])) (k := 14) (j := 0) (fun _ => rfl) aa167 rfl rfl (by omega) (by omega) rfl) ?_
 refine sqE (st_alloc hS3 ze117) fun b4 W5 hS6 => ?_
 refine sqUE (st_stores (v := fdV F1) (cs' := (fdA F1)) 0 hS6 rfl rfl rfl ag117 rfl (Nat.le_of_ble_eq_true rfl) (ones_of rfl) rfl) fun W7 hS8 => ?_
 show C _ _ _ _ _ _
 refine C_sr ?_
 refine sqv (ex_field (o' := 0) rfl fi117_0 rfl) ?_
 refine sqv (ex_load (v := .int .i64 F1.id) rfl (hS8.at 0 rfl) on3 rfl) ?_
 refine sqv (ex_move (v := .int .i64 n) rfl) ?_
 refine sqv (ex_cmp (x := F1.id) (y := n) (r := decide (F1.id = n)) rfl rfl rfl) ?_
 show C _ _ _ _ _ _
 refine C_dec (F1.id = n) rfl (fun hc9 => ?_) (fun hc9 => ?_)
 ·refine C_sr ?_
  refine sqv (ex_loads (vs := (fdC F1)) rfl (hS8.at 0 rfl) ag117 rfl rfl) ?_
  refine sqUE (st_stores (v := fdV F1) (cs' := (fdA F1)) 1 hS8 rfl rfl rfl ag117 rfl (Nat.le_of_ble_eq_true rfl) (ones_of rfl) rfl) fun W10 hS11 => ?_
  refine sqv (ex_assign (v := .int .i64 0) rfl) ?_
  show C _ _ _ _ _ _
  refine C_ret ?_
  refine blk_ret ?_
  refine thn_ret ?_
  refine thn_ret ?_
  refine blk_ret ?_
  refine thn_ret ?_
  refine done_2 (v1 := fdV F1) (v2 := .int .i64 0) rfl (res_row rfl (hS11.at 1 rfl) ag117 rfl) rfl ?_
  obtain rfl := fid1 g0 (by omega)
  exact ⟨rfl, hS11.none⟩
 refine C_skip ?_
 refine blk_normal ?_
 show C _ _ _ _ _ _
 refine C_region ?_
 refine sqv (ex_add (x := 0) (y := 1) (r := 1) rfl rfl (by rfl)) ?_
 refine sqv (ex_move (v := .int .i64 1) rfl) ?_
 show C _ _ _ _ _ _
 refine C_sr ?_
 refine sqv (ex_cmp (x := 1) (y := 2) (r := true) rfl rfl rfl) ?_
 show C _ _ _ _ _ _
 refine C_seq ?_
 refine C_true rfl ?_
 refine C_skip ?_
 show C _ _ _ _ _ _
 refine C_seq ?_
 refine C_block ?_
 refine C_sr ?_
 refine sqv (ex_indexV (f := fdC) (xs := ([F1, F2])) (k := 14) (j := 1) (fun _ => rfl) aa167 rfl rfl (by omega) (by omega) rfl) ?_
 refine sqE (st_alloc hS8 ze117) fun b12 W13 hS14 => ?_
 refine sqUE (st_stores (v := fdV F2) (cs' := (fdA F2)) 0 hS14 rfl rfl rfl ag117 rfl (Nat.le_of_ble_eq_true rfl) (ones_of rfl) rfl) fun W15 hS16 => ?_
 show C _ _ _ _ _ _
 refine C_sr ?_
 refine sqv (ex_field (o' := 0) rfl fi117_0 rfl) ?_
 refine sqv (ex_load (v := .int .i64 F2.id) rfl (hS16.at 0 rfl) on3 rfl) ?_
 refine sqv (ex_move (v := .int .i64 n) rfl) ?_
 refine sqv (ex_cmp (x := F2.id) (y := n) (r := decide (F2.id = n)) rfl rfl rfl) ?_
 show C _ _ _ _ _ _
 refine C_dec (F2.id = n) rfl (fun hc17 => ?_) (fun hc17 => ?_)
 ·refine C_sr ?_
  refine sqv (ex_loads (vs := (fdC F2)) rfl (hS16.at 0 rfl) ag117 rfl rfl) ?_
  refine sqUE (st_stores (v := fdV F2) (cs' := (fdA F2)) 2 hS16 rfl rfl rfl ag117 rfl (Nat.le_of_ble_eq_true rfl) (ones_of rfl) rfl) fun W18 hS19 => ?_
  refine sqv (ex_assign (v := .int .i64 0) rfl) ?_
  show C _ _ _ _ _ _
  refine C_ret ?_
  refine blk_ret ?_
  refine thn_ret ?_
  refine thn_ret ?_
  refine blk_ret ?_
  refine thn_ret ?_
  refine done_2 (v1 := fdV F2) (v2 := .int .i64 0) rfl (res_row rfl (hS19.at 2 rfl) ag117 rfl) rfl ?_
  obtain rfl := fid2 g0 (by omega)
  exact ⟨rfl, hS19.none⟩
 refine C_skip ?_
 refine blk_normal ?_
 show C _ _ _ _ _ _
 refine C_region ?_
 refine sqv (ex_add (x := 1) (y := 1) (r := 2) rfl rfl (by rfl)) ?_
 refine sqv (ex_move (v := .int .i64 2) rfl) ?_
 show C _ _ _ _ _ _
 refine C_sr ?_
 refine sqv (ex_cmp (x := 2) (y := 2) (r := false) rfl rfl rfl) ?_
 show C _ _ _ _ _ _
 refine C_seq ?_
 refine C_false rfl ?_
 refine C_exit ?_
 refine thn_exit ?_
 refine thn_exit ?_
 refine blk_exit ?_
 show C _ _ _ _ _ _
 refine C_sr ?_
 refine sqv (ex_build (vs := []) (cells := #[.int .i64 0, .int .u64 0, .int .u64 0, .int .u64 0, .int .u64 0, .int .u64 0, .int .u64 0, .int .u64 0, .int .u64 0, .int .u64 0, .int .u64 0, .int .u64 0, .int .u64 0, .int .u64 0]) rfl (by kernel_rfl)) ?_
 refine sqUE (st_stores (v := .agg #[.int .i64 0, .int .u64 0, .int .u64 0, .int .u64 0, .int .u64 0, .int .u64 0, .int .u64 0, .int .u64 0, .int .u64 0, .int .u64 0, .int .u64 0, .int .u64 0, .int .u64 0, .int .u64 0]) (cs' := #[.int .i64 0, .int .u64 0, .int .u64 0, .int .u64 0, .int .u64 0, .int .u64 0, .int .u64 0, .int .u64 0, .int .u64 0, .int .u64 0, .int .u64 0, .int .u64 0, .int .u64 0, .int .u64 0]) 2 hS16 rfl rfl rfl ag117 rfl (Nat.le_of_ble_eq_true rfl) (ones_of rfl) rfl) fun W20 hS21 => ?_
 refine sqv (ex_assign (v := .int .i64 3) rfl) ?_
 show C _ _ _ _ _ _
 refine C_ret ?_
 refine done_2 (v1 := .agg #[.int .i64 0, .int .u64 0, .int .u64 0, .int .u64 0, .int .u64 0, .int .u64 0, .int .u64 0, .int .u64 0, .int .u64 0, .int .u64 0, .int .u64 0, .int .u64 0, .int .u64 0, .int .u64 0]) (v2 := .int .i64 3) rfl (res_row rfl (hS21.at 2 rfl) ag117 rfl) rfl ?_
 exact absurd (fid_or g0) (by have := f1_id; have := f2_id; omega)
theorem c_Get0 (n : Int) (Z0 : List Fact) (w0 : World) (g0 : ¬ (n = 1 ∨ n = 2)) (hZ0 : Holds w0 Z0) (hG : Cells Z0 0 0 gC) : Calls Tryz.prog 79 #[.int .i64 n] w0 (Ret fun uu w' => uu = .tuple #[.agg #[.int .i64 0, .int .u64 0, .int .u64 0, .int .u64 0, .int .u64 0, .int .u64 0, .int .u64 0, .int .u64 0, .int .u64 0, .int .u64 0, .int .u64 0, .int .u64 0, .int .u64 0, .int .u64 0], .int .i64 3] ∧ St [] w0 w' [] []) := by
 refine calls_of Tryz.func79 rfl Tryz.ntmps79 (Nat.le_of_ble_eq_true rfl) ?_
 have hS0 := St.nil w0
 refine C_sr ?_
 refine sqE (st_alloc hS0 ze117) fun b1 W2 hS3 => ?_
 refine sqv (ex_assign (v := .int .i64 0) rfl) ?_
 show C _ _ _ _ _ _
 refine C_seq ?_
 refine C_sr ?_
 refine sqv (ex_loadsC (r := 0) (vs := gC) hG (hS3.holds0 hZ0) rfl ag167 rfl rfl rfl) ?_
 refine sqv (ex_move (v := .int .i64 0) rfl) ?_
 show C _ _ _ _ _ _
 refine C_block ?_
 refine C_unroll 3 ?_
 show C _ _ _ _ _ _
 refine C_sr ?_
 refine sqv (ex_cmp (x := 0) (y := 2) (r := true) rfl rfl rfl) ?_
 show C _ _ _ _ _ _
 refine C_seq ?_
 refine C_true rfl ?_
 refine C_skip ?_
 show C _ _ _ _ _ _
 refine C_seq ?_
 refine C_block ?_
 refine C_sr ?_
 refine sqv (ex_indexV (f := fdC) (xs := ([F1, F2])) (k := 14) (j := 0) (fun _ => rfl) aa167 rfl rfl (by omega) (by omega) rfl) ?_
 refine sqE (st_alloc hS3 ze117) fun b4 W5 hS6 => ?_
 refine sqUE (st_stores (v := fdV F1) (cs' := (fdA F1)) 0 hS6 rfl rfl rfl ag117 rfl (Nat.le_of_ble_eq_true rfl) (ones_of rfl) rfl) fun W7 hS8 => ?_
 show C _ _ _ _ _ _
 refine C_sr ?_
 refine sqv (ex_field (o' := 0) rfl fi117_0 rfl) ?_
 refine sqv (ex_load (v := .int .i64 F1.id) rfl (hS8.at 0 rfl) on3 rfl) ?_
 refine sqv (ex_move (v := .int .i64 n) rfl) ?_
 refine sqv (ex_cmp (x := F1.id) (y := n) (r := decide (F1.id = n)) rfl rfl rfl) ?_
 show C _ _ _ _ _ _
 refine C_dec (F1.id = n) rfl (fun hc9 => ?_) (fun hc9 => ?_)
 ·refine C_sr ?_
  refine sqv (ex_loads (vs := (fdC F1)) rfl (hS8.at 0 rfl) ag117 rfl rfl) ?_
  refine sqUE (st_stores (v := fdV F1) (cs' := (fdA F1)) 1 hS8 rfl rfl rfl ag117 rfl (Nat.le_of_ble_eq_true rfl) (ones_of rfl) rfl) fun W10 hS11 => ?_
  refine sqv (ex_assign (v := .int .i64 0) rfl) ?_
  show C _ _ _ _ _ _
  refine C_ret ?_
  refine blk_ret ?_
  refine thn_ret ?_
  refine thn_ret ?_
  refine blk_ret ?_
  refine thn_ret ?_
  refine done_2 (v1 := fdV F1) (v2 := .int .i64 0) rfl (res_row rfl (hS11.at 1 rfl) ag117 rfl) rfl ?_
  exact absurd (by have := f1_id; have := f2_id; omega : n = 1 ∨ n = 2) (by omega)
 refine C_skip ?_
 refine blk_normal ?_
 show C _ _ _ _ _ _
 refine C_region ?_
 refine sqv (ex_add (x := 0) (y := 1) (r := 1) rfl rfl (by rfl)) ?_
 refine sqv (ex_move (v := .int .i64 1) rfl) ?_
 show C _ _ _ _ _ _
 refine C_sr ?_
 refine sqv (ex_cmp (x := 1) (y := 2) (r := true) rfl rfl rfl) ?_
 show C _ _ _ _ _ _
 refine C_seq ?_
 refine C_true rfl ?_
 refine C_skip ?_
 show C _ _ _ _ _ _
 refine C_seq ?_
 refine C_block ?_
 refine C_sr ?_
 refine sqv (ex_indexV (f := fdC) (xs := ([F1, F2])) (k := 14) (j := 1) (fun _ => rfl) aa167 rfl rfl (by omega) (by omega) rfl) ?_
 refine sqE (st_alloc hS8 ze117) fun b12 W13 hS14 => ?_
 refine sqUE (st_stores (v := fdV F2) (cs' := (fdA F2)) 0 hS14 rfl rfl rfl ag117 rfl (Nat.le_of_ble_eq_true rfl) (ones_of rfl) rfl) fun W15 hS16 => ?_
 show C _ _ _ _ _ _
 refine C_sr ?_
 refine sqv (ex_field (o' := 0) rfl fi117_0 rfl) ?_
 refine sqv (ex_load (v := .int .i64 F2.id) rfl (hS16.at 0 rfl) on3 rfl) ?_
 refine sqv (ex_move (v := .int .i64 n) rfl) ?_
 refine sqv (ex_cmp (x := F2.id) (y := n) (r := decide (F2.id = n)) rfl rfl rfl) ?_
 show C _ _ _ _ _ _
 refine C_dec (F2.id = n) rfl (fun hc17 => ?_) (fun hc17 => ?_)
 ·refine C_sr ?_
  refine sqv (ex_loads (vs := (fdC F2)) rfl (hS16.at 0 rfl) ag117 rfl rfl) ?_
  refine sqUE (st_stores (v := fdV F2) (cs' := (fdA F2)) 2 hS16 rfl rfl rfl ag117 rfl (Nat.le_of_ble_eq_true rfl) (ones_of rfl) rfl) fun W18 hS19 => ?_
  refine sqv (ex_assign (v := .int .i64 0) rfl) ?_
  show C _ _ _ _ _ _
  refine C_ret ?_
  refine blk_ret ?_
  refine thn_ret ?_
  refine thn_ret ?_
  refine blk_ret ?_
  refine thn_ret ?_
  refine done_2 (v1 := fdV F2) (v2 := .int .i64 0) rfl (res_row rfl (hS19.at 2 rfl) ag117 rfl) rfl ?_
  exact absurd (by have := f1_id; have := f2_id; omega : n = 1 ∨ n = 2) (by omega)
 refine C_skip ?_
 refine blk_normal ?_
 show C _ _ _ _ _ _
 refine C_region ?_
 refine sqv (ex_add (x := 1) (y := 1) (r := 2) rfl rfl (by rfl)) ?_
 refine sqv (ex_move (v := .int .i64 2) rfl) ?_
 show C _ _ _ _ _ _
 refine C_sr ?_
 refine sqv (ex_cmp (x := 2) (y := 2) (r := false) rfl rfl rfl) ?_
 show C _ _ _ _ _ _
 refine C_seq ?_
 refine C_false rfl ?_
 refine C_exit ?_
 refine thn_exit ?_
 refine thn_exit ?_
 refine blk_exit ?_
 show C _ _ _ _ _ _
 refine C_sr ?_
 refine sqv (ex_build (vs := []) (cells := #[.int .i64 0, .int .u64 0, .int .u64 0, .int .u64 0, .int .u64 0, .int .u64 0, .int .u64 0, .int .u64 0, .int .u64 0, .int .u64 0, .int .u64 0, .int .u64 0, .int .u64 0, .int .u64 0]) rfl (by kernel_rfl)) ?_
 refine sqUE (st_stores (v := .agg #[.int .i64 0, .int .u64 0, .int .u64 0, .int .u64 0, .int .u64 0, .int .u64 0, .int .u64 0, .int .u64 0, .int .u64 0, .int .u64 0, .int .u64 0, .int .u64 0, .int .u64 0, .int .u64 0]) (cs' := #[.int .i64 0, .int .u64 0, .int .u64 0, .int .u64 0, .int .u64 0, .int .u64 0, .int .u64 0, .int .u64 0, .int .u64 0, .int .u64 0, .int .u64 0, .int .u64 0, .int .u64 0, .int .u64 0]) 2 hS16 rfl rfl rfl ag117 rfl (Nat.le_of_ble_eq_true rfl) (ones_of rfl) rfl) fun W20 hS21 => ?_
 refine sqv (ex_assign (v := .int .i64 3) rfl) ?_
 show C _ _ _ _ _ _
 refine C_ret ?_
 refine done_2 (v1 := .agg #[.int .i64 0, .int .u64 0, .int .u64 0, .int .u64 0, .int .u64 0, .int .u64 0, .int .u64 0, .int .u64 0, .int .u64 0, .int .u64 0, .int .u64 0, .int .u64 0, .int .u64 0, .int .u64 0]) (v2 := .int .i64 3) rfl (res_row rfl (hS21.at 2 rfl) ag117 rfl) rfl ?_
 exact ⟨rfl, hS21.none⟩
theorem c_valid (x : Int) (w0 : World)  : Calls Tryz.prog 118 #[.int .i64 x] w0 (Ret fun uu w' => uu = .bool (decide (0 ≤ x) && decide (x ≤ 65535)) ∧ St [] w0 w' [] []) := by
 refine calls_of Tryz.func118 rfl Tryz.ntmps118 (Nat.le_of_ble_eq_true rfl) ?_
 have hS0 := St.nil w0
 refine C_sr ?_
 refine sqv (ex_assign (v := .bool false) rfl) ?_
 show C _ _ _ _ _ _
 refine C_sr ?_
 refine sqv (ex_move (v := .int .i64 x) rfl) ?_
 refine nm (decide (0 ≤ x)) fun t1 ht1 => ?_
 refine sqv (ex_cmp (x := x) (y := 0) rfl rfl ht1) ?_
 refine sqv (ex_move (v := .bool t1) rfl) ?_
 rcases bool_cases t1 with hb2 | hb2
 ·subst hb2
  have hb2 := of_decide_eq_true ht1.symm
  refine guard_yes (b := true) rfl rfl ?_
  refine sqv (ex_move (v := .int .i64 x) rfl) ?_
  refine guard_yes (b := true) rfl rfl ?_
  refine nm (decide (x ≤ 65535)) fun t3 ht3 => ?_
  refine sqv (ex_cmp (x := x) (y := 65535) rfl rfl ht3) ?_
  refine sqv (ex_pick (t := true) (v := .bool t3) rfl rfl) ?_
  refine sqv (ex_assign (v := .bool t3) rfl) ?_
  show C _ _ _ _ _ _
  refine C_ret ?_
  refine done_1 (v := .bool t3) rfl rfl ?_
  exact ⟨by simp_all <;> omega, hS0.none⟩
 subst hb2
 have hb2 := of_decide_eq_false ht1.symm
 refine guard_no (b' := false) rfl rfl (by decide) ?_
 refine guard_no (b' := false) rfl rfl (by decide) ?_
 refine sqv (ex_pick (t := false) (v := .bool false) rfl rfl) ?_
 refine sqv (ex_assign (v := .bool false) rfl) ?_
 show C _ _ _ _ _ _
 refine C_ret ?_
 refine done_1 (v := .bool false) rfl rfl ?_
 exact ⟨by simp_all <;> omega, hS0.none⟩
theorem c_Count (n : Int) (w0 : World) (g0 : -1000000 ≤ n ∧ n ≤ 1000000000000) : Calls Tryz.prog 119 #[.int .i64 n] w0 (Ret fun uu w' => uu = .int .i64 (cntI n) ∧ St [] w0 w' [] []) := by
 refine calls_of Tryz.func119 rfl Tryz.ntmps119 (Nat.le_of_ble_eq_true rfl) ?_
 have hS0 := St.nil w0
 refine C_sr ?_
 refine sqv (ex_assign (v := .int .i64 0) rfl) ?_
 show C _ _ _ _ _ _
 refine C_seq ?_
 refine C_sr ?_
 refine sqv (ex_move (v := .int .i64 n) rfl) ?_
 refine sqc (exe_call (args := #[.int .i64 n]) en118 (args_of1 rfl)) (c_valid n w0) ?_
 rintro _ W1 ⟨rfl, hT3⟩
 have hS2 := hS0.call hT3
 refine sqv (ex_not (t := (decide (0 ≤ n) && decide (n ≤ 65535))) rfl) ?_
 rw [show (!(decide (0 ≤ n) && decide (n ≤ 65535))) = decide (¬ (0 ≤ n ∧ n ≤ 65535)) from by rw [Bool.eq_iff_iff]; first | (simp; done) | (simp; omega)]
 show C _ _ _ _ _ _
 refine C_dec (¬ (0 ≤ n ∧ n ≤ 65535)) rfl (fun hc5 => ?_) (fun hc5 => ?_)
 ·refine C_sr ?_
  refine sqv (ex_assign (v := .int .i64 0) rfl) ?_
  show C _ _ _ _ _ _
  refine C_ret ?_
  refine thn_ret ?_
  refine done_1 (v := .int .i64 0) rfl rfl ?_
  exact ⟨by unfold cntI; rw [if_neg (by omega)], hS2.none⟩
 refine C_skip ?_
 show C _ _ _ _ _ _
 refine C_sr ?_
 refine sqv (ex_move (v := .int .i64 n) rfl) ?_
 refine nm (n + 31) fun x6 hx6 => ?_
 refine sqv (ex_add (x := n) (y := 31) rfl rfl (w64 hx6 (by omega))) ?_
 refine nm (x6 - 1) fun x7 hx7 => ?_
 refine sqv (ex_sub (x := x6) (y := 1) rfl rfl (w64 hx7 (by omega))) ?_
 refine nm (x7 / 31) fun x8 hx8 => ?_
 refine sqv (ex_quo (x := x7) (y := 31) rfl rfl (by omega) (w64q (hx8.trans (Int.tdiv_eq_ediv_of_nonneg (by omega)).symm) (by rw [Int.tdiv_eq_ediv_of_nonneg (by omega)]; omega))) ?_
 refine sqv (ex_assign (v := .int .i64 x8) rfl) ?_
 show C _ _ _ _ _ _
 refine C_ret ?_
 refine done_1 (v := .int .i64 x8) rfl rfl ?_
 exact ⟨by unfold cntI; rw [if_pos (by omega)]; congr 1; omega, hS2.none⟩
end Go.Proofs
end
section
set_option linter.unusedVariables false
set_option linter.unusedSimpArgs false
set_option maxRecDepth 20000
set_option maxHeartbeats 2000000
namespace Go.Proofs
open Sc
theorem ag140 : aggOf Tryz.prog 140 = some 3 := by kernel_rfl
theorem en119 : enters Tryz.prog 119 = true := by kernel_rfl
theorem en133 : enters Tryz.prog 133 = true := by kernel_rfl
theorem en79 : enters Tryz.prog 79 = true := by kernel_rfl
theorem en95 : enters Tryz.prog 95 = true := by kernel_rfl
theorem en96 : enters Tryz.prog 96 = true := by kernel_rfl
theorem fi46_0 : fieldOf Tryz.prog 46 0 = some 0 := by kernel_rfl
theorem fi46_1 : fieldOf Tryz.prog 46 1 = some 1 := by kernel_rfl
theorem fi46_3 : fieldOf Tryz.prog 46 3 = some 3 := by kernel_rfl
theorem mi137 : mapInt Tryz.prog 137 = true := by kernel_rfl
theorem mp137 : mapOf Tryz.prog 137 = true := by kernel_rfl
theorem st3_140 : st3 Tryz.prog 140 = true := by kernel_rfl
theorem ze140 : zeroOf Tryz.prog 140 = some #[.int .i64 0, .int .i64 0, .int .i64 0] := by kernel_rfl
theorem c_headerOf  (s : Sh) (Z0 : List Fact) (w0 : World)  (hZ0 : Holds w0 Z0) (hs_s : Sl Z0 49 4 s.v (s.p.flatMap el)) : Calls Tryz.prog 96 #[.agg #[.int .i64 s.f, .int .i64 s.t, .int .i64 s.i, .int .i64 s.n, s.v]] w0 (Ret fun uu w' => uu = .agg #[.int .i64 s.f, .int .i64 s.t, .int .i64 s.n] ∧ St [] w0 w' [] []) := by
 refine calls_of Tryz.func96 rfl Tryz.ntmps96 (Nat.le_of_ble_eq_true rfl) ?_
 have hS0 := St.nil w0
 refine C_sr ?_
 refine sqE (st_box (v := .agg #[.int .i64 s.f, .int .i64 s.t, .int .i64 s.i, .int .i64 s.n, s.v]) (cs := #[.int .i64 s.f, .int .i64 s.t, .int .i64 s.i, .int .i64 s.n, s.v]) hS0 rfl rfl) fun b1 W2 hS3 => ?_
 refine sqE (st_alloc hS3 ze140) fun b4 W5 hS6 => ?_
 show C _ _ _ _ _ _
 refine C_sr ?_
 refine sqv (ex_field (o' := 0) rfl fi46_0 rfl) ?_
 refine sqv (ex_load (v := .int .i64 s.f) rfl (hS6.at 1 rfl) on3 rfl) ?_
 refine sqv (ex_field (o' := 1) rfl fi46_1 rfl) ?_
 refine sqv (ex_load (v := .int .i64 s.t) rfl (hS6.at 1 rfl) on3 rfl) ?_
 refine sqv (ex_field (o' := 3) rfl fi46_3 rfl) ?_
 refine sqv (ex_load (v := .int .i64 s.n) rfl (hS6.at 1 rfl) on3 rfl) ?_
 refine sqv (ex_build (vs := [(0, .int .i64 s.f), (1, .int .i64 s.t), (2, .int .i64 s.n)]) (cells := #[.int .i64 s.f, .int .i64 s.t, .int .i64 s.n]) rfl (by kernel_rfl)) ?_
 refine sqUE (st_stores (v := .agg #[.int .i64 s.f, .int .i64 s.t, .int .i64 s.n]) (cs' := #[.int .i64 s.f, .int .i64 s.t, .int .i64 s.n]) 0 hS6 rfl rfl rfl ag140 rfl (Nat.le_of_ble_eq_true rfl) (ones_of rfl) rfl) fun W7 hS8 => ?_
 show C _ _ _ _ _ _
 refine C_ret ?_
 refine done_1 (v := .agg #[.int .i64 s.f, .int .i64 s.t, .int .i64 s.n]) rfl (res_row rfl (hS8.at 0 rfl) ag140 rfl) ?_
 exact ⟨rfl, hS8.none⟩
theorem c_CheckShare1 (F : PrF) (s : Sh) (Z0 : List Fact) (w0 : World) (g0 : FOk F) (g1 : s.f = F.id) (g2 : ∀ y ∈ s.p, y < B256) (hZ0 : Holds w0 Z0) (hs_s : Sl Z0 49 4 s.v (s.p.flatMap el)) (hG : Cells Z0 0 0 gC) : Calls Tryz.prog 95 #[.agg #[.int .i64 s.f, .int .i64 s.t, .int .i64 s.i, .int .i64 s.n, s.v]] w0 (Ret fun uu w' => uu = .int .i64 (ckSh s) ∧ St [] w0 w' [] []) := by
 have hF := g0
 have hpl := sl_lt (f := el) (k := 4) (fun _ => rfl) (by decide) hs_s
 have hid : s.f = 1 ∨ s.f = 2 := by have := fid_or hF; omega
 refine calls_of Tryz.func95 rfl Tryz.ntmps95 (Nat.le_of_ble_eq_true rfl) ?_
 have hS0 := St.nil w0
 refine C_sr ?_
 refine sqE (st_box (v := .agg #[.int .i64 s.f, .int .i64 s.t, .int .i64 s.i, .int .i64 s.n, s.v]) (cs := #[.int .i64 s.f, .int .i64 s.t, .int .i64 s.i, .int .i64 s.n, s.v]) hS0 rfl rfl) fun b1 W2 hS3 => ?_
 refine sqv (ex_assign (v := .int .i64 0) rfl) ?_
 show C _ _ _ _ _ _
 refine C_sr ?_
 refine sqv (ex_field (o' := 0) rfl fi46_0 rfl) ?_
 refine sqv (ex_load (v := .int .i64 s.f) rfl (hS3.at 0 rfl) on3 rfl) ?_
 refine sqc (exe_call (args := #[.int .i64 s.f]) en79 (args_of1 rfl)) (c_Get F s.f Z0 W2 hF g1 (hS3.holds0 hZ0) (hG)) ?_
 rintro _ W4 ⟨rfl, hT6⟩
 have hS5 := hS3.call hT6
 refine sqv (ex_move (v := .tuple #[fdV F, .int .i64 0]) rfl) ?_
 refine sqv (ex_extract (v := fdV F) rfl rfl) ?_
 refine sqv (ex_extract (v := .int .i64 0) rfl rfl) ?_
 refine sqE (st_alloc hS5 ze117) fun b8 W9 hS10 => ?_
 refine sqUE (st_stores (v := fdV F) (cs' := (fdA F)) 0 hS10 rfl rfl rfl ag117 rfl (Nat.le_of_ble_eq_true rfl) (ones_of rfl) rfl) fun W11 hS12 => ?_
 refine sqv (ex_assign (v := .int .i64 0) rfl) ?_
 show C _ _ _ _ _ _
 refine C_seq ?_
 refine C_block ?_
 refine C_sr ?_
 refine sqv (ex_move (v := .int .i64 0) rfl) ?_
 refine sqv (ex_cmp (x := 0) (y := 0) (r := false) rfl rfl rfl) ?_
 refine sqv (ex_assign (v := .bool false) rfl) ?_
 show C _ _ _ _ _ _
 refine C_false rfl ?_
 refine C_sr ?_
 refine sqv (ex_field (o' := 1) rfl fi46_1 rfl) ?_
 refine sqv (ex_load (v := .int .i64 s.t) rfl (hS12.at 1 rfl) on3 rfl) ?_
 refine sqc (exe_call (args := #[.int .i64 s.t, .int .i64 1, .int .i64 255]) en132 (args_of3 rfl rfl rfl)) (c_between s.t 1 255 W11) ?_
 rintro _ W13 ⟨rfl, hT15⟩
 have hS14 := hS12.call hT15
 refine sqv (ex_not (t := (decide (1 ≤ s.t) && decide (s.t ≤ 255))) rfl) ?_
 rw [show (!(decide (1 ≤ s.t) && decide (s.t ≤ 255))) = decide (¬ (1 ≤ s.t ∧ s.t ≤ 255)) from by rw [Bool.eq_iff_iff]; first | (simp; done) | (simp; omega)]
 refine sqv (ex_assign (v := .bool (decide (¬ (1 ≤ s.t ∧ s.t ≤ 255)))) rfl) ?_
 show C _ _ _ _ _ _
 refine C_dec (¬ (1 ≤ s.t ∧ s.t ≤ 255)) rfl (fun hc17 => ?_) (fun hc17 => ?_)
 ·refine C_sr ?_
  refine sqv (ex_assign (v := .int .i64 4) rfl) ?_
  show C _ _ _ _ _ _
  refine C_ret ?_
  refine blk_ret ?_
  refine thn_ret ?_
  refine done_1 (v := .int .i64 4) rfl rfl ?_
  exact ⟨congrArg _ (show (4 : Int) = ckSh s from (by symm; unfold ckSh; rw [if_neg (by omega), if_pos (by omega)])), hS14.none⟩
 refine C_sr ?_
 refine sqv (ex_field (o' := 2) rfl fi46_2 rfl) ?_
 refine sqv (ex_load (v := .int .i64 s.i) rfl (hS14.at 1 rfl) on3 rfl) ?_
 refine sqc (exe_call (args := #[.int .i64 s.i, .int .i64 1, .int .i64 255]) en132 (args_of3 rfl rfl rfl)) (c_between s.i 1 255 W13) ?_
 rintro _ W18 ⟨rfl, hT20⟩
 have hS19 := hS14.call hT20
 refine sqv (ex_not (t := (decide (1 ≤ s.i) && decide (s.i ≤ 255))) rfl) ?_
 rw [show (!(decide (1 ≤ s.i) && decide (s.i ≤ 255))) = decide (¬ (1 ≤ s.i ∧ s.i ≤ 255)) from by rw [Bool.eq_iff_iff]; first | (simp; done) | (simp; omega)]
 refine sqv (ex_assign (v := .bool (decide (¬ (1 ≤ s.i ∧ s.i ≤ 255)))) rfl) ?_
 show C _ _ _ _ _ _
 refine C_dec (¬ (1 ≤ s.i ∧ s.i ≤ 255)) rfl (fun hc22 => ?_) (fun hc22 => ?_)
 ·refine C_sr ?_
  refine sqv (ex_assign (v := .int .i64 12) rfl) ?_
  show C _ _ _ _ _ _
  refine C_ret ?_
  refine blk_ret ?_
  refine thn_ret ?_
  refine done_1 (v := .int .i64 12) rfl rfl ?_
  exact ⟨congrArg _ (show (12 : Int) = ckSh s from (by symm; unfold ckSh; rw [if_neg (by omega), if_neg (by omega), if_pos (by omega)])), hS19.none⟩
 refine C_sr ?_
 refine sqv (ex_field (o' := 3) rfl fi46_3 rfl) ?_
 refine sqv (ex_load (v := .int .i64 s.n) rfl (hS19.at 1 rfl) on3 rfl) ?_
 refine sqc (exe_call (args := #[.int .i64 s.n, .int .i64 0, .int .i64 65535]) en132 (args_of3 rfl rfl rfl)) (c_between s.n 0 65535 W18) ?_
 rintro _ W23 ⟨rfl, hT25⟩
 have hS24 := hS19.call hT25
 refine sqv (ex_not (t := (decide (0 ≤ s.n) && decide (s.n ≤ 65535))) rfl) ?_
 rw [show (!(decide (0 ≤ s.n) && decide (s.n ≤ 65535))) = decide (¬ (0 ≤ s.n ∧ s.n ≤ 65535)) from by rw [Bool.eq_iff_iff]; first | (simp; done) | (simp; omega)]
 refine sqv (ex_assign (v := .bool (decide (¬ (0 ≤ s.n ∧ s.n ≤ 65535)))) rfl) ?_
 show C _ _ _ _ _ _
 refine C_dec (¬ (0 ≤ s.n ∧ s.n ≤ 65535)) rfl (fun hc27 => ?_) (fun hc27 => ?_)
 ·refine C_sr ?_
  refine sqv (ex_assign (v := .int .i64 6) rfl) ?_
  show C _ _ _ _ _ _
  refine C_ret ?_
  refine blk_ret ?_
  refine thn_ret ?_
  refine done_1 (v := .int .i64 6) rfl rfl ?_
  exact ⟨congrArg _ (show (6 : Int) = ckSh s from (by symm; unfold ckSh; rw [if_neg (by omega), if_neg (by omega), if_neg (by omega), if_pos (by omega)])), hS24.none⟩
 refine C_seq ?_
 refine C_draw (p := 8) (l := [(some 34, .pointer (some ⟨b1, 4, none⟩)), (some 35, s.v), (some 36, .int .i64 (s.p.length : Int)), (some 37, .pointer (some ⟨b1, 3, none⟩)), (some 38, .int .i64 s.n), (some 39, .int .i64 (cntI s.n)), (some 40, .bool (decide ((s.p.length : Int) ≠ (cntI s.n)))), (some 33, .bool (decide ((s.p.length : Int) ≠ (cntI s.n))))]) (G := []) (J := fun w => St [] w0 w [some (b8, .cells (fdA F) 117), some (b1, .cells #[.int .i64 s.f, .int .i64 s.t, .int .i64 s.i, .int .i64 s.n, s.v] 46)] []) mixed ?_ (hS24.draw _)
 refine node1 8 [] [] [] (by kernel_rfl) rfl rfl (nd rfl) rfl (by kernel_rfl) ?_ ?_ ?_
 ·intro S wd hSd
  refine ⟨n0 rfl rfl rfl (ex_field (o' := 4) rfl fi46_4 rfl) rfl hSd, n1 rfl rfl rfl rfl (fun hq0 => (ex_load (v := s.v) (evS hq0 rfl rfl) (hSd.at 1 rfl) on44 rfl)) rfl hSd, n1 rfl rfl rfl rfl (fun hq1 => (ex_lenO (f := el) (k := 4) (r := (s.p.length : Int)) (fun _ => rfl) (by decide) (hs_s) (evS hq1 rfl rfl) sl44 rfl)) rfl hSd, n0 rfl rfl rfl (ex_field (o' := 3) rfl fi46_3 rfl) rfl hSd, n1 rfl rfl rfl rfl (fun hq3 => (ex_load (v := .int .i64 s.n) (evS hq3 rfl rfl) (hSd.at 1 rfl) on3 rfl)) rfl hSd, ?_, n2 rfl rfl rfl rfl (fun hq2 hq5 => (ex_cmp (x := (s.p.length : Int)) (y := (cntI s.n)) (r := decide ((s.p.length : Int) ≠ (cntI s.n))) (evS hq2 rfl rfl) (evS hq5 rfl rfl) rfl)) rfl hSd, ?_, tt⟩
  ·refine needG rfl ?_
   rintro ⟨hq4, _⟩ hno
   refine dxC (wanted_none rfl) rfl (exe_call (args := #[.int .i64 s.n]) en119 (args_of1 (evS hq4 rfl rfl))) (c_Count s.n wd (by omega)) ?_
   rintro _ W28 ⟨rfl, hT30⟩
   have hS29 := hSd.call hT30
   exact ⟨rfl, hS29⟩
  refine needG rfl ?_
  rintro ⟨hq6, hq5, _⟩ hno
  exact dx (wanted_none rfl) rfl (ex_assign (v := .bool (decide ((s.p.length : Int) ≠ (cntI s.n)))) (evS hq6 rfl rfl)) ⟨rfl, hSd⟩
 ·exact fun S wd hSd => ⟨True.intro, True.intro, True.intro, True.intro, True.intro, True.intro, True.intro, True.intro, True.intro⟩
 intro _ W32 hS33
 show C _ _ _ _ _ _
 refine C_dec ((s.p.length : Int) ≠ (cntI s.n)) rfl (fun hc34 => ?_) (fun hc34 => ?_)
 ·refine C_sr ?_
  refine sqv (ex_assign (v := .int .i64 8) rfl) ?_
  show C _ _ _ _ _ _
  refine C_ret ?_
  refine blk_ret ?_
  refine thn_ret ?_
  refine done_1 (v := .int .i64 8) rfl rfl ?_
  exact ⟨congrArg _ (show (8 : Int) = ckSh s from (by symm; unfold ckSh; rw [if_neg (by omega), if_neg (by omega), if_neg (by omega), if_neg (by omega), if_pos (by omega)])), hS33.none⟩
 refine C_skip ?_
 refine blk_normal ?_
 show C _ _ _ _ _ _
 refine C_sr ?_
 refine sqv (ex_loads (vs := (fdC F)) rfl (hS33.at 0 rfl) ag117 rfl rfl) ?_
 refine sqv (ex_build (vs := []) (cells := #[.int .u64 0, .int .u64 0, .int .u64 0, .int .u64 0]) rfl (by kernel_rfl)) ?_
 refine sqc (exe_call (args := #[fdV F, .agg #[.int .u64 0, .int .u64 0, .int .u64 0, .int .u64 0]]) en133 (args_of2 rfl rfl)) (c_Contains F 0 W32 hF (by first | assumption | decide)) ?_
 rintro _ W35 ⟨rfl, hT37⟩
 have hS36 := hS33.call hT37
 refine sqv (ex_assign (v := .int .u64 (mk (decide (0 < F.p)))) rfl) ?_
 show C _ _ _ _ _ _
 refine C_seq ?_
 refine C_sr ?_
 refine sqv (ex_field (o' := 4) rfl fi46_4 rfl) ?_
 refine sqv (ex_load (v := s.v) rfl (hS36.at 1 rfl) on44 rfl) ?_
 refine sqv (ex_lenO (f := el) (k := 4) (r := (s.p.length : Int)) (fun _ => rfl) (by decide) (hs_s) rfl sl44 rfl) ?_
 refine sqv (ex_move (v := .int .i64 0) rfl) ?_
 show C _ _ _ _ _ _
 refine C_block ?_
 refine C_loop (fun nn aa ww => ∃ (m0 : Nat → Value) (k : Nat) (b : Bool), nn = s.p.length - k ∧ aa = act 59 (upds m0 [(2, .int .i64 0), (3, pt b8), (5, .int .u64 (mk b)), (45, s.v), (46, .int .i64 (s.p.length : Int)), (47, .int .i64 (k : Int))]) [] ∧ St [] w0 ww [some (b8, .cells (fdA F) 117), some (b1, .cells #[.int .i64 s.f, .int .i64 s.t, .int .i64 s.i, .int .i64 s.n, s.v] 46)] [] ∧ (k ≤ s.p.length) ∧ (b = (s.p.take k).all fun y => decide (y < F.p))) s.p.length ?_ ?_
 ·exact ⟨_, 0, (decide (0 < F.p)), rfl, act_upds ⟨(congrArg (Value.int .i64) (by first | rfl | omega)), rfl, (congrArg (Value.int .u64) (by first | rfl | omega)), rfl, (congrArg (Value.int .i64) (by first | rfl | omega)), (congrArg (Value.int .i64) (by first | rfl | omega)), trivial⟩, (St.pick (L := [some (b8, .cells (fdA F) 117), some (b1, .cells #[.int .i64 s.f, .int .i64 s.t, .int .i64 s.i, .int .i64 s.n, s.v] 46)]) hS36 [0, 1] (by decide)), (Nat.zero_le _), (by simp [p_pos hF])⟩
 rintro n42 a43 W40 ⟨m39, k, b, rfl, rfl, hS41, hk, hb⟩
 refine C_sr ?_
 refine sqv (ex_cmp (x := (k : Int)) (y := (s.p.length : Int)) (r := decide ((k : Int) < (s.p.length : Int))) rfl rfl rfl) ?_
 show C _ _ _ _ _ _
 refine C_seq ?_
 refine C_dec ((k : Int) < (s.p.length : Int)) rfl (fun hc44 => ?_) (fun hc44 => ?_)
 ·refine C_skip ?_
  show C _ _ _ _ _ _
  refine C_seq ?_
  refine C_block ?_
  refine C_sr ?_
  obtain ⟨y45, hy46⟩ := get_lt s.p k (by first | omega | (simp only [List.length_set, List.length_replicate, List.length_append, List.length_take, List.length_drop, List.length_cons, List.length_nil, List.length_map]; omega))
  have hky45 := g2 y45 (List.mem_of_getElem? hy46)
  obtain ⟨b47, o48, hI49, hC50⟩ := sl_at (f := el) (k := 4) (fun _ => rfl) (by decide) (hs_s) hy46
  refine sqv (ex_sindexO hI49 rfl rfl sl44 rfl) ?_
  refine sqv (ex_loadsC (r := 0) (vs := (el y45)) hC50 (hS41.holds0 hZ0) rfl ag49 rfl rfl rfl) ?_
  refine sqE (st_alloc hS41 ze49) fun b51 W52 hS53 => ?_
  refine sqUE (st_stores (v := elV y45) (cs' := (elA y45)) 0 hS53 rfl rfl rfl ag49 rfl (Nat.le_of_ble_eq_true rfl) (ones_of rfl) rfl) fun W54 hS55 => ?_
  show C _ _ _ _ _ _
  refine C_region ?_
  refine sqv (ex_move (v := .int .u64 (mk b)) rfl) ?_
  refine sqv (ex_loads (vs := (fdC F)) rfl (hS55.at 1 rfl) ag117 rfl rfl) ?_
  refine sqv (ex_loads (vs := (el y45)) rfl (hS55.at 0 rfl) ag49 rfl rfl) ?_
  refine sqc (exe_call (args := #[fdV F, elV y45]) en133 (args_of2 rfl rfl)) (c_Contains F y45 W54 hF (by first | assumption | decide)) ?_
  rintro _ W56 ⟨rfl, hT58⟩
  have hS57 := hS55.call hT58
  refine sqv (ex_bit (x := (mk b)) (y := (mk (decide (y45 < F.p)))) (r := mk (b && (decide (y45 < F.p)))) rfl rfl (mk_and b (decide (y45 < F.p))).symm) ?_
  refine sqv (ex_assign (v := .int .u64 (mk (b && (decide (y45 < F.p))))) rfl) ?_
  refine blk_normal ?_
  show C _ _ _ _ _ _
  refine C_region ?_
  refine nm ((k : Int) + 1) fun x60 hx60 => ?_
  refine sqv (ex_add (x := (k : Int)) (y := 1) rfl rfl (w64 hx60 (by omega))) ?_
  refine sqv (ex_move (v := .int .i64 x60) rfl) ?_
  exact ⟨_, (by omega), ⟨_, (k + 1), (b && (decide (y45 < F.p))), rfl, act_upds ⟨(congrArg (Value.int .i64) (by first | rfl | omega)), rfl, (congrArg (Value.int .u64) (by first | rfl | omega)), rfl, (congrArg (Value.int .i64) (by first | rfl | omega)), (congrArg (Value.int .i64) (by first | rfl | omega)), trivial⟩, (St.pick (L := [some (b51, .cells (elA y45) 49), some (b8, .cells (fdA F) 117), some (b1, .cells #[.int .i64 s.f, .int .i64 s.t, .int .i64 s.i, .int .i64 s.n, s.v] 46)]) hS57 [1, 2] (by decide)), (by omega), (by rw [take_snoc hy46, List.all_append, hb]; simp)⟩⟩
 refine C_exit ?_
 refine thn_exit ?_
 refine thn_exit ?_
 refine blk_exit ?_
 show C _ _ _ _ _ _
 refine C_seq ?_
 refine C_sr ?_
 refine sqv (ex_move (v := .int .u64 (mk b)) rfl) ?_
 refine sqv (ex_cmp (x := (mk b)) (y := 0) (r := decide ((mk b) = 0)) rfl rfl rfl) ?_
 show C _ _ _ _ _ _
 refine C_dec ((mk b) = 0) rfl (fun hc61 => ?_) (fun hc61 => ?_)
 ·refine C_sr ?_
  refine sqv (ex_assign (v := .int .i64 9) rfl) ?_
  show C _ _ _ _ _ _
  refine C_ret ?_
  refine thn_ret ?_
  refine done_1 (v := .int .i64 9) rfl rfl ?_
  obtain rfl : k = s.p.length := by omega
  rw [List.take_length, ← fieldOf'_eq hF g1] at hb
  have hcb := ckSh_9 (by omega) (by omega) (by omega) (by omega) (by omega) hb
  obtain rfl : b = false := mk_zero.1 (by assumption)
  exact ⟨congrArg _ (show (9 : Int) = ckSh s from hcb.symm), hS41.none⟩
 refine C_skip ?_
 show C _ _ _ _ _ _
 refine C_sr ?_
 refine sqv (ex_assign (v := .int .i64 0) rfl) ?_
 show C _ _ _ _ _ _
 refine C_ret ?_
 refine done_1 (v := .int .i64 0) rfl rfl ?_
 obtain rfl : k = s.p.length := by omega
 rw [List.take_length, ← fieldOf'_eq hF g1] at hb
 have hcb := ckSh_9 (by omega) (by omega) (by omega) (by omega) (by omega) hb
 have hbt : b = true := by cases b; exact absurd (mk_zero.2 rfl) (by assumption); rfl
 rw [hbt] at hcb
 exact ⟨congrArg _ (show (0 : Int) = ckSh s from hcb.symm), hS41.none⟩
theorem c_CheckShare0  (s : Sh) (Z0 : List Fact) (w0 : World) (g0 : ¬ (s.f = 1 ∨ s.f = 2)) (hZ0 : Holds w0 Z0) (hs_s : Sl Z0 49 4 s.v (s.p.flatMap el)) (hG : Cells Z0 0 0 gC) : Calls Tryz.prog 95 #[.agg #[.int .i64 s.f, .int .i64 s.t, .int .i64 s.i, .int .i64 s.n, s.v]] w0 (Ret fun uu w' => uu = .int .i64 (ckSh s) ∧ St [] w0 w' [] []) := by
 refine calls_of Tryz.func95 rfl Tryz.ntmps95 (Nat.le_of_ble_eq_true rfl) ?_
 have hS0 := St.nil w0
 refine C_sr ?_
 refine sqE (st_box (v := .agg #[.int .i64 s.f, .int .i64 s.t, .int .i64 s.i, .int .i64 s.n, s.v]) (cs := #[.int .i64 s.f, .int .i64 s.t, .int .i64 s.i, .int .i64 s.n, s.v]) hS0 rfl rfl) fun b1 W2 hS3 => ?_
 refine sqv (ex_assign (v := .int .i64 0) rfl) ?_
 show C _ _ _ _ _ _
 refine C_sr ?_
 refine sqv (ex_field (o' := 0) rfl fi46_0 rfl) ?_
 refine sqv (ex_load (v := .int .i64 s.f) rfl (hS3.at 0 rfl) on3 rfl) ?_
 refine sqc (exe_call (args := #[.int .i64 s.f]) en79 (args_of1 rfl)) (c_Get0 s.f Z0 W2 g0 (hS3.holds0 hZ0) (hG)) ?_
 rintro _ W4 ⟨rfl, hT6⟩
 have hS5 := hS3.call hT6
 refine sqv (ex_move (v := .tuple #[.agg #[.int .i64 0, .int .u64 0, .int .u64 0, .int .u64 0, .int .u64 0, .int .u64 0, .int .u64 0, .int .u64 0, .int .u64 0, .int .u64 0, .int .u64 0, .int .u64 0, .int .u64 0, .int .u64 0], .int .i64 3]) rfl) ?_
 refine sqv (ex_extract (v := .agg #[.int .i64 0, .int .u64 0, .int .u64 0, .int .u64 0, .int .u64 0, .int .u64 0, .int .u64 0, .int .u64 0, .int .u64 0, .int .u64 0, .int .u64 0, .int .u64 0, .int .u64 0, .int .u64 0]) rfl rfl) ?_
 refine sqv (ex_extract (v := .int .i64 3) rfl rfl) ?_
 refine sqE (st_alloc hS5 ze117) fun b8 W9 hS10 => ?_
 refine sqUE (st_stores (v := .agg #[.int .i64 0, .int .u64 0, .int .u64 0, .int .u64 0, .int .u64 0, .int .u64 0, .int .u64 0, .int .u64 0, .int .u64 0, .int .u64 0, .int .u64 0, .int .u64 0, .int .u64 0, .int .u64 0]) (cs' := #[.int .i64 0, .int .u64 0, .int .u64 0, .int .u64 0, .int .u64 0, .int .u64 0, .int .u64 0, .int .u64 0, .int .u64 0, .int .u64 0, .int .u64 0, .int .u64 0, .int .u64 0, .int .u64 0]) 0 hS10 rfl rfl rfl ag117 rfl (Nat.le_of_ble_eq_true rfl) (ones_of rfl) rfl) fun W11 hS12 => ?_
 refine sqv (ex_assign (v := .int .i64 3) rfl) ?_
 show C _ _ _ _ _ _
 refine C_seq ?_
 refine C_block ?_
 refine C_sr ?_
 refine sqv (ex_move (v := .int .i64 3) rfl) ?_
 refine sqv (ex_cmp (x := 3) (y := 0) (r := true) rfl rfl rfl) ?_
 refine sqv (ex_assign (v := .bool true) rfl) ?_
 show C _ _ _ _ _ _
 refine C_true rfl ?_
 refine C_sr ?_
 refine sqv (ex_move (v := .int .i64 3) rfl) ?_
 refine sqv (ex_assign (v := .int .i64 3) rfl) ?_
 show C _ _ _ _ _ _
 refine C_ret ?_
 refine blk_ret ?_
 refine thn_ret ?_
 refine done_1 (v := .int .i64 3) rfl rfl ?_
 exact ⟨congrArg _ (show (3 : Int) = ckSh s from by unfold ckSh; rw [if_pos g0]), hS12.none⟩
theorem c_CheckShare  (s : Sh) (Z0 : List Fact) (w0 : World) (g0 : ∀ y ∈ s.p, y < B256) (hZ0 : Holds w0 Z0) (hs_s : Sl Z0 49 4 s.v (s.p.flatMap el)) (hG : Cells Z0 0 0 gC) : Calls Tryz.prog 95 #[.agg #[.int .i64 s.f, .int .i64 s.t, .int .i64 s.i, .int .i64 s.n, s.v]] w0 (Ret fun uu w' => uu = .int .i64 (ckSh s) ∧ St [] w0 w' [] []) := by
 by_cases h : s.f = 1 ∨ s.f = 2
 ·exact c_CheckShare1 (fieldOf' s.f) s Z0 w0 (fieldOf'_ok _) (fieldOf'_id h) g0 hZ0 hs_s hG
 exact c_CheckShare0 s Z0 w0 h hZ0 hs_s hG
theorem c_CheckShares  (s : Value) (l : List Sh) (Z0 : List Fact) (w0 : World) (g0 : ∀ s ∈ l, ∀ y ∈ s.p, y < B256) (g1 : l.length < 1000000) (hZ0 : Holds w0 Z0) (hs_s : Shs Z0 46 49 s l) (hG : Cells Z0 0 0 gC) : Calls Tryz.prog 51 #[s] w0 (Ret fun uu w' => uu = .int .i64 (ckShs l) ∧ St [] w0 w' [] []) := by
 refine calls_of Tryz.func51 rfl Tryz.ntmps51 (Nat.le_of_ble_eq_true rfl) ?_
 have hS0 := St.nil w0
 refine C_sr ?_
 refine sqv (ex_assign (v := .int .i64 0) rfl) ?_
 show C _ _ _ _ _ _
 refine C_sr ?_
 refine sqE (st_makeMap hS0) fun b1 W2 hS3 => ?_
 refine sqv (ex_assign (v := .map (some b1)) rfl) ?_
 show C _ _ _ _ _ _
 refine C_sr ?_
 refine sqv (ex_assign (v := .bool false) rfl) ?_
 show C _ _ _ _ _ _
 refine C_seq ?_
 refine C_sr ?_
 refine sqv (ex_move (v := s) rfl) ?_
 refine sqv (ex_lenO (f := cS) (k := 5) (r := (l.length : Int)) (fun _ => rfl) (by decide) ((hs_s).1) rfl sl22 rfl) ?_
 refine sqv (ex_move (v := .int .i64 0) rfl) ?_
 show C _ _ _ _ _ _
 refine C_block ?_
 refine C_loop (fun nn aa ww => ∃ (m0 : Nat → Value) (k : Nat) (mx : Bool) (o : Obj) (ks : List Int), nn = l.length - k ∧ aa = act 57 (upds m0 [(0, s), (3, .map (some b1)), (4, .bool mx), (9, s), (10, .int .i64 (l.length : Int)), (11, .int .i64 (k : Int))]) [] ∧ St [] w0 ww [some (b1, o)] [] ∧ (k ≤ l.length) ∧ (mx = mixH (l.take k)) ∧ (IMap (leV (k : Int)) ks o) ∧ (ks = keysOf' ((l.take k).map (·.i))) ∧ (ckEach (l.take k) = 0)) l.length ?_ ?_
 ·exact ⟨_, 0, false, (.map #[] 0), [], rfl, act_upds ⟨rfl, rfl, rfl, rfl, (congrArg (Value.int .i64) (by first | rfl | omega)), (congrArg (Value.int .i64) (by first | rfl | omega)), trivial⟩, (St.pick (L := [some (b1, .map #[] 0)]) hS3 [0] (by decide)), (Nat.zero_le _), rfl, (IMap.nil _), rfl, rfl⟩
 rintro n7 a8 W5 ⟨m4, k, mx, o, ks, rfl, rfl, hS6, hk, hmx, hM, hks, hE⟩
 refine C_sr ?_
 refine sqv (ex_cmp (x := (k : Int)) (y := (l.length : Int)) (r := decide ((k : Int) < (l.length : Int))) rfl rfl rfl) ?_
 show C _ _ _ _ _ _
 refine C_seq ?_
 refine C_dec ((k : Int) < (l.length : Int)) rfl (fun hc9 => ?_) (fun hc9 => ?_)
 ·refine C_skip ?_
  show C _ _ _ _ _ _
  refine C_seq ?_
  refine C_block ?_
  refine C_sr ?_
  obtain ⟨y10, hy11⟩ := get_lt l k (by first | omega | (simp only [List.length_set, List.length_replicate, List.length_append, List.length_take, List.length_drop, List.length_cons, List.length_nil, List.length_map]; omega))
  have hky10 := g0 y10 (List.mem_of_getElem? hy11)
  obtain ⟨b12, o13, hI14, hC15⟩ := sl_at (f := cS) (k := 5) (fun _ => rfl) (by decide) ((hs_s).1) hy11
  refine sqv (ex_sindexO hI14 rfl rfl sl22 rfl) ?_
  refine sqv (ex_loadsC (r := 0) (vs := [.int .i64 y10.f, .int .i64 y10.t, .int .i64 y10.i, .int .i64 y10.n, y10.v]) hC15 (hS6.holds0 hZ0) rfl ag46 rfl rfl rfl) ?_
  refine sqE (st_alloc hS6 ze46) fun b16 W17 hS18 => ?_
  refine sqUE (st_stores (v := .agg #[.int .i64 y10.f, .int .i64 y10.t, .int .i64 y10.i, .int .i64 y10.n, y10.v]) (cs' := #[.int .i64 y10.f, .int .i64 y10.t, .int .i64 y10.i, .int .i64 y10.n, y10.v]) 0 hS18 rfl rfl rfl ag46 rfl (Nat.le_of_ble_eq_true rfl) (ones_cons rfl (ones_cons rfl (ones_cons rfl (ones_cons rfl (ones_cons (sl_1 ((hs_s).2 y10 (List.mem_of_getElem? hy11))).2 ones_nil))))) rfl) fun W19 hS20 => ?_
  show C _ _ _ _ _ _
  refine C_seq ?_
  refine C_sr ?_
  refine sqv (ex_loads (vs := [.int .i64 y10.f, .int .i64 y10.t, .int .i64 y10.i, .int .i64 y10.n, y10.v]) rfl (hS20.at 0 rfl) ag46 rfl rfl) ?_
  refine sqc (exe_call (args := #[.agg #[.int .i64 y10.f, .int .i64 y10.t, .int .i64 y10.i, .int .i64 y10.n, y10.v]]) en95 (args_of1 rfl)) (c_CheckShare y10 Z0 W19 (by assumption) (hS20.holds0 hZ0) ((hs_s).2 y10 (List.mem_of_getElem? hy11)) (hG)) ?_
  rintro _ W21 ⟨rfl, hT23⟩
  have hS22 := hS20.call hT23
  refine sqv (ex_assign (v := .int .i64 (ckSh y10)) rfl) ?_
  show C _ _ _ _ _ _
  refine C_sr ?_
  refine sqv (ex_move (v := .int .i64 (ckSh y10)) rfl) ?_
  refine sqv (ex_cmp (x := (ckSh y10)) (y := 0) (r := decide ((ckSh y10) ≠ 0)) rfl rfl rfl) ?_
  show C _ _ _ _ _ _
  refine C_dec ((ckSh y10) ≠ 0) rfl (fun hc25 => ?_) (fun hc25 => ?_)
  ·refine C_sr ?_
   refine sqv (ex_move (v := .int .i64 (ckSh y10)) rfl) ?_
   refine sqv (ex_assign (v := .int .i64 (ckSh y10)) rfl) ?_
   show C _ _ _ _ _ _
   refine C_ret ?_
   refine thn_ret ?_
   refine blk_ret ?_
   refine thn_ret ?_
   refine thn_ret ?_
   refine blk_ret ?_
   refine thn_ret ?_
   refine done_1 (v := .int .i64 (ckSh y10)) rfl rfl ?_
   exact ⟨congrArg _ (ckShs_each hy11 hE (by omega)), (St.pick (L := [some (b16, .cells #[.int .i64 y10.f, .int .i64 y10.t, .int .i64 y10.i, .int .i64 y10.n, y10.v] 46), some (b1, o)]) hS22 [] (by decide))⟩
  refine C_skip ?_
  show C _ _ _ _ _ _
  refine C_seq ?_
  rcases bool_cases mx with hb26 | hb26
  ·subst hb26
   refine C_draw (p := 10) (l := [(some 20, .bool true), (some 21, .bool true), (some 22, undef), (some 23, undef), (some 24, undef), (some 25, undef), (some 26, undef), (some 27, undef), (some 28, undef), (some 29, .bool true)]) (G := []) (J := fun w => St [] w0 w [some (b16, .cells #[.int .i64 y10.f, .int .i64 y10.t, .int .i64 y10.i, .int .i64 y10.n, y10.v] 46), some (b1, o)] []) mixed ?_ (hS22.draw _)
   refine node1 10 [] [] [] (by kernel_rfl) rfl rfl (nd rfl) rfl (by kernel_rfl) ?_ ?_ ?_
   ·intro S wd hSd
    refine ⟨n0 rfl rfl rfl (ex_move (v := .bool true) rfl) rfl hSd, n1 rfl rfl rfl rfl (fun hq0 => (ex_move (v := .bool true) (evS hq0 rfl rfl))) rfl hSd, ?_, ?_, ?_, ?_, ?_, ?_, ?_, ?_, tt⟩
    ·refine needG rfl ?_
     rintro ⟨hq1, _⟩ hno
     exact dxS (wanted_no (b' := true) rfl rfl (evS hq1 rfl rfl) (by decide)) ⟨rfl, hSd⟩
    ·refine needG rfl ?_
     rintro ⟨hq2, hq1, hq1, _⟩ hno
     exact dxS (wanted_no (b' := true) rfl rfl (evS hq1 rfl rfl) (by decide)) ⟨rfl, hSd⟩
    ·refine needG rfl ?_
     rintro ⟨hq1, _⟩ hno
     exact dxS (wanted_no (b' := true) rfl rfl (evS hq1 rfl rfl) (by decide)) ⟨rfl, hSd⟩
    ·refine needG rfl ?_
     rintro ⟨hq4, hq1, _⟩ hno
     exact dxS (wanted_no (b' := true) rfl rfl (evS hq1 rfl rfl) (by decide)) ⟨rfl, hSd⟩
    ·refine needG rfl ?_
     rintro ⟨hq5, hq1, _⟩ hno
     exact dxS (wanted_no (b' := true) rfl rfl (evS hq1 rfl rfl) (by decide)) ⟨rfl, hSd⟩
    ·refine needG rfl ?_
     rintro ⟨hq6, hq3, hq1, _⟩ hno
     exact dxS (wanted_no (b' := true) rfl rfl (evS hq1 rfl rfl) (by decide)) ⟨rfl, hSd⟩
    ·refine needG rfl ?_
     rintro ⟨hq3, hq7, hq1, _⟩ hno
     exact dxS (wanted_no (b' := true) rfl rfl (evS hq1 rfl rfl) (by decide)) ⟨rfl, hSd⟩
    refine needG rfl ?_
    rintro ⟨hq1, hq8, _⟩ hno
    exact dx (wanted_none rfl) rfl (ex_pickT (v := .bool true) (evS hq1 rfl rfl) rfl) ⟨rfl, hSd⟩
   ·exact fun S wd hSd => ⟨True.intro, True.intro, True.intro, True.intro, True.intro, True.intro, True.intro, True.intro, True.intro, True.intro, True.intro⟩
   intro _ W27 hS28
   refine sqv (ex_assign (v := .bool true) rfl) ?_
   show C _ _ _ _ _ _
   refine C_region ?_
   refine sqv (ex_move (v := .map (some b1)) rfl) ?_
   refine sqv (ex_field (o' := 2) rfl fi46_2 rfl) ?_
   refine sqv (ex_load (v := .int .i64 y10.i) rfl (hS28.at 0 rfl) on3 rfl) ?_
   obtain ⟨x29, hl30, hl31, hl32⟩ := look_le hM y10.i (by omega)
   refine sqv (ex_lookupE 1 hS28 rfl hM hl30 mi137 rfl rfl) ?_
   refine nm (x29 + 1) fun x33 hx33 => ?_
   refine sqv (ex_add (x := x29) (y := 1) rfl rfl (w64 hx33 (by omega))) ?_
   refine sqUE (st_mapSet 1 hS28 rfl (hM.mono (V' := leV ((k : Int) + 1)) fun v h => h.mono (by omega)) mp137 ⟨_, rfl, by omega, by omega⟩ rfl rfl rfl) fun W34 ⟨o36, hS35, hM37⟩ => ?_
   refine blk_normal ?_
   show C _ _ _ _ _ _
   refine C_region ?_
   refine nm ((k : Int) + 1) fun x38 hx38 => ?_
   refine sqv (ex_add (x := (k : Int)) (y := 1) rfl rfl (w64 hx38 (by omega))) ?_
   refine sqv (ex_move (v := .int .i64 x38) rfl) ?_
   obtain ⟨yz, hyz⟩ := get_lt l 0 (by omega)
   exact ⟨_, (by omega), ⟨_, (k + 1), true, o36, (addKey ks y10.i), rfl, act_upds ⟨rfl, rfl, rfl, rfl, (congrArg (Value.int .i64) (by first | rfl | omega)), (congrArg (Value.int .i64) (by first | rfl | omega)), trivial⟩, (St.pick (L := [some (b16, .cells #[.int .i64 y10.f, .int .i64 y10.t, .int .i64 y10.i, .int .i64 y10.n, y10.v] 46), some (b1, o36)]) hS35 [1] (by decide)), (by omega), (by rw [mixH_take hy11 hyz, ← hmx]; first | rfl | (simp [sameH]; omega)), hM37, (by rw [take_snoc hy11, List.map_append, hks]; exact (keysOf'_snoc _ _).symm), (by rw [ckEach_take hy11 hE]; omega)⟩⟩
  subst hb26
  obtain ⟨y43, hy44⟩ := get_lt l 0 (by first | omega | (simp only [List.length_set, List.length_replicate, List.length_append, List.length_take, List.length_drop, List.length_cons, List.length_nil, List.length_map]; omega))
  have hky43 := g0 y43 (List.mem_of_getElem? hy44)
  obtain ⟨b45, o46, hI47, hC48⟩ := sl_at (f := cS) (k := 5) (fun _ => rfl) (by decide) ((hs_s).1) hy44
  refine nm (decide (¬ (y10.f = y43.f ∧ y10.t = y43.t ∧ y10.n = y43.n))) fun t53 ht53 => ?_
  refine C_draw (p := 10) (l := [(some 20, .bool false), (some 21, .bool false), (some 22, .agg #[.int .i64 y10.f, .int .i64 y10.t, .int .i64 y10.i, .int .i64 y10.n, y10.v]), (some 23, .agg #[.int .i64 y10.f, .int .i64 y10.t, .int .i64 y10.n]), (some 24, s), (some 25, .pointer (some ⟨b45, o46, none⟩)), (some 26, .agg #[.int .i64 y43.f, .int .i64 y43.t, .int .i64 y43.i, .int .i64 y43.n, y43.v]), (some 27, .agg #[.int .i64 y43.f, .int .i64 y43.t, .int .i64 y43.n]), (some 28, .bool t53), (some 29, .bool t53)]) (G := []) (J := fun w => St [] w0 w [some (b16, .cells #[.int .i64 y10.f, .int .i64 y10.t, .int .i64 y10.i, .int .i64 y10.n, y10.v] 46), some (b1, o)] []) mixed ?_ (hS22.draw _)
  refine node1 10 [] [] [] (by kernel_rfl) rfl rfl (nd rfl) rfl (by kernel_rfl) ?_ ?_ ?_
  ·intro S wd hSd
   refine ⟨n0 rfl rfl rfl (ex_move (v := .bool false) rfl) rfl hSd, n1 rfl rfl rfl rfl (fun hq0 => (ex_move (v := .bool false) (evS hq0 rfl rfl))) rfl hSd, ?_, ?_, ?_, ?_, ?_, ?_, ?_, ?_, tt⟩
   ·refine needG rfl ?_
    rintro ⟨hq1, _⟩ hno
    exact dx (wanted_yes rfl rfl (evS hq1 rfl rfl)) rfl (ex_loads (vs := [.int .i64 y10.f, .int .i64 y10.t, .int .i64 y10.i, .int .i64 y10.n, y10.v]) rfl (hSd.at 0 rfl) ag46 rfl rfl) ⟨rfl, hSd⟩
   ·refine needG rfl ?_
    rintro ⟨hq2, hq1, hq1, _⟩ hno
    refine dxC (wanted_yes rfl rfl (evS hq1 rfl rfl)) rfl (exe_call (args := #[.agg #[.int .i64 y10.f, .int .i64 y10.t, .int .i64 y10.i, .int .i64 y10.n, y10.v]]) en96 (args_of1 (evS hq2 rfl rfl))) (c_headerOf y10 Z0 wd (hSd.holds0 hZ0) ((hs_s).2 y10 (List.mem_of_getElem? hy11))) ?_
    rintro _ W39 ⟨rfl, hT41⟩
    have hS40 := hSd.call hT41
    exact ⟨rfl, hS40⟩
   ·refine needG rfl ?_
    rintro ⟨hq1, _⟩ hno
    exact dx (wanted_yes rfl rfl (evS hq1 rfl rfl)) rfl (ex_move (v := s) rfl) ⟨rfl, hSd⟩
   ·refine needG rfl ?_
    rintro ⟨hq4, hq1, _⟩ hno
    exact dx (wanted_yes rfl rfl (evS hq1 rfl rfl)) rfl (ex_sindexO hI47 (evS hq4 rfl rfl) rfl sl22 (by omega)) ⟨rfl, hSd⟩
   ·refine needG rfl ?_
    rintro ⟨hq5, hq1, _⟩ hno
    exact dx (wanted_yes rfl rfl (evS hq1 rfl rfl)) rfl (ex_loadsC (r := 0) (vs := [.int .i64 y43.f, .int .i64 y43.t, .int .i64 y43.i, .int .i64 y43.n, y43.v]) hC48 (hSd.holds0 hZ0) (evS hq5 rfl rfl) ag46 rfl rfl rfl) ⟨rfl, hSd⟩
   ·refine needG rfl ?_
    rintro ⟨hq6, hq3, hq1, _⟩ hno
    refine dxC (wanted_yes rfl rfl (evS hq1 rfl rfl)) rfl (exe_call (args := #[.agg #[.int .i64 y43.f, .int .i64 y43.t, .int .i64 y43.i, .int .i64 y43.n, y43.v]]) en96 (args_of1 (evS hq6 rfl rfl))) (c_headerOf y43 Z0 wd (hSd.holds0 hZ0) ((hs_s).2 y43 (List.mem_of_getElem? hy44))) ?_
    rintro _ W49 ⟨rfl, hT51⟩
    have hS50 := hSd.call hT51
    exact ⟨rfl, hS50⟩
   ·refine needG rfl ?_
    rintro ⟨hq3, hq7, hq1, _⟩ hno
    exact dx (wanted_yes rfl rfl (evS hq1 rfl rfl)) rfl (ex_eq3 st3_140 (evS hq3 rfl rfl) (evS hq7 rfl rfl) ht53) ⟨rfl, hSd⟩
   refine needG rfl ?_
   rintro ⟨hq1, hq8, _⟩ hno
   exact dx (wanted_none rfl) rfl (ex_pickF (v := .bool t53) (evS hq1 rfl rfl) (evS hq8 rfl rfl)) ⟨rfl, hSd⟩
  ·exact fun S wd hSd => ⟨True.intro, True.intro, True.intro, True.intro, True.intro, True.intro, True.intro, True.intro, True.intro, True.intro, True.intro⟩
  intro _ W54 hS55
  refine sqv (ex_assign (v := .bool t53) rfl) ?_
  show C _ _ _ _ _ _
  refine C_region ?_
  refine sqv (ex_move (v := .map (some b1)) rfl) ?_
  refine sqv (ex_field (o' := 2) rfl fi46_2 rfl) ?_
  refine sqv (ex_load (v := .int .i64 y10.i) rfl (hS55.at 0 rfl) on3 rfl) ?_
  obtain ⟨x56, hl57, hl58, hl59⟩ := look_le hM y10.i (by omega)
  refine sqv (ex_lookupE 1 hS55 rfl hM hl57 mi137 rfl rfl) ?_
  refine nm (x56 + 1) fun x60 hx60 => ?_
  refine sqv (ex_add (x := x56) (y := 1) rfl rfl (w64 hx60 (by omega))) ?_
  refine sqUE (st_mapSet 1 hS55 rfl (hM.mono (V' := leV ((k : Int) + 1)) fun v h => h.mono (by omega)) mp137 ⟨_, rfl, by omega, by omega⟩ rfl rfl rfl) fun W61 ⟨o63, hS62, hM64⟩ => ?_
  refine blk_normal ?_
  show C _ _ _ _ _ _
  refine C_region ?_
  refine nm ((k : Int) + 1) fun x65 hx65 => ?_
  refine sqv (ex_add (x := (k : Int)) (y := 1) rfl rfl (w64 hx65 (by omega))) ?_
  refine sqv (ex_move (v := .int .i64 x65) rfl) ?_
  exact ⟨_, (by omega), ⟨_, (k + 1), t53, o63, (addKey ks y10.i), rfl, act_upds ⟨rfl, rfl, rfl, rfl, (congrArg (Value.int .i64) (by first | rfl | omega)), (congrArg (Value.int .i64) (by first | rfl | omega)), trivial⟩, (St.pick (L := [some (b16, .cells #[.int .i64 y10.f, .int .i64 y10.t, .int .i64 y10.i, .int .i64 y10.n, y10.v] 46), some (b1, o63)]) hS62 [1] (by decide)), (by omega), (by rw [mixH_take hy11 hy44, ← hmx, ht53, sameH, Bool.false_or, decide_not]), hM64, (by rw [take_snoc hy11, List.map_append, hks]; exact (keysOf'_snoc _ _).symm), (by rw [ckEach_take hy11 hE]; omega)⟩⟩
 refine C_exit ?_
 refine thn_exit ?_
 refine thn_exit ?_
 refine blk_exit ?_
 show C _ _ _ _ _ _
 refine C_seq ?_
 refine C_block ?_
 refine C_sr ?_
 refine sqv (ex_move (v := .bool mx) rfl) ?_
 refine sqv (ex_assign (v := .bool mx) rfl) ?_
 show C _ _ _ _ _ _
 refine C_if (t := mx) rfl (fun hc66 => ?_) (fun hc66 => ?_)
 ·refine C_sr ?_
  refine sqv (ex_assign (v := .int .i64 14) rfl) ?_
  show C _ _ _ _ _ _
  refine C_ret ?_
  refine blk_ret ?_
  refine thn_ret ?_
  refine done_1 (v := .int .i64 14) rfl rfl ?_
  obtain rfl : k = l.length := by omega
  rw [List.take_length] at hmx hks hE
  exact ⟨congrArg _ (ckShs_14 hE ((by assumption : mx = true).symm.trans hmx)), (St.pick (L := [some (b1, o)]) hS6 [] (by decide))⟩
 refine C_sr ?_
 refine sqv (ex_move (v := .map (some b1)) rfl) ?_
 refine sqv (ex_lenMap (r := (ks.length : Int)) 0 hS6 rfl hM mp137 rfl rfl) ?_
 refine sqv (ex_move (v := s) rfl) ?_
 refine sqv (ex_lenO (f := cS) (k := 5) (r := (l.length : Int)) (fun _ => rfl) (by decide) ((hs_s).1) rfl sl22 rfl) ?_
 refine sqv (ex_cmp (x := (ks.length : Int)) (y := (l.length : Int)) (r := decide ((ks.length : Int) < (l.length : Int))) rfl rfl rfl) ?_
 refine sqv (ex_assign (v := .bool (decide ((ks.length : Int) < (l.length : Int)))) rfl) ?_
 show C _ _ _ _ _ _
 refine C_dec ((ks.length : Int) < (l.length : Int)) rfl (fun hc67 => ?_) (fun hc67 => ?_)
 ·refine C_sr ?_
  refine sqv (ex_assign (v := .int .i64 15) rfl) ?_
  show C _ _ _ _ _ _
  refine C_ret ?_
  refine blk_ret ?_
  refine thn_ret ?_
  refine done_1 (v := .int .i64 15) rfl rfl ?_
  obtain rfl : k = l.length := by omega
  rw [List.take_length] at hmx hks hE
  exact ⟨congrArg _ (ckShs_15 hE ((by assumption : mx = false).symm.trans hmx) (by rw [← hks]; omega)), (St.pick (L := [some (b1, o)]) hS6 [] (by decide))⟩
 refine C_sr ?_
 refine sqv (ex_move (v := s) rfl) ?_
 refine sqv (ex_lenO (f := cS) (k := 5) (r := (l.length : Int)) (fun _ => rfl) (by decide) ((hs_s).1) rfl sl22 rfl) ?_
 refine nm (decide ((l.length : Int) = 0)) fun t68 ht68 => ?_
 refine sqv (ex_cmp (x := (l.length : Int)) (y := 0) rfl rfl ht68) ?_
 refine sqv (ex_move (v := .bool t68) rfl) ?_
 rcases bool_cases t68 with hb69 | hb69
 ·subst hb69
  have hb69 := of_decide_eq_true ht68.symm
  refine guard_no (b' := true) rfl rfl (by decide) ?_
  refine guard_no (b' := true) rfl rfl (by decide) ?_
  refine guard_no (b' := true) rfl rfl (by decide) ?_
  refine guard_no (b' := true) rfl rfl (by decide) ?_
  refine guard_no (b' := true) rfl rfl (by decide) ?_
  refine guard_no (b' := true) rfl rfl (by decide) ?_
  refine guard_no (b' := true) rfl rfl (by decide) ?_
  refine sqv (ex_pick (t := true) (v := .bool true) rfl rfl) ?_
  refine sqv (ex_assign (v := .bool true) rfl) ?_
  show C _ _ _ _ _ _
  refine C_true rfl ?_
  refine C_sr ?_
  refine sqv (ex_assign (v := .int .i64 16) rfl) ?_
  show C _ _ _ _ _ _
  refine C_ret ?_
  refine blk_ret ?_
  refine thn_ret ?_
  refine done_1 (v := .int .i64 16) rfl rfl ?_
  obtain rfl : k = l.length := by omega
  rw [List.take_length] at hmx hks hE
  exact ⟨congrArg _ (ckShs_16a hE ((by assumption : mx = false).symm.trans hmx) (by rw [← hks]; omega) (by omega)), (St.pick (L := [some (b1, o)]) hS6 [] (by decide))⟩
 subst hb69
 have hb69 := of_decide_eq_false ht68.symm
 refine guard_yes (b := false) rfl rfl ?_
 refine sqv (ex_move (v := s) rfl) ?_
 refine guard_yes (b := false) rfl rfl ?_
 refine sqv (ex_lenO (f := cS) (k := 5) (r := (l.length : Int)) (fun _ => rfl) (by decide) ((hs_s).1) rfl sl22 rfl) ?_
 refine guard_yes (b := false) rfl rfl ?_
 refine sqv (ex_move (v := s) rfl) ?_
 refine guard_yes (b := false) rfl rfl ?_
 obtain ⟨y70, hy71⟩ := get_lt l 0 (by first | omega | (simp only [List.length_set, List.length_replicate, List.length_append, List.length_take, List.length_drop, List.length_cons, List.length_nil, List.length_map]; omega))
 have hky70 := g0 y70 (List.mem_of_getElem? hy71)
 obtain ⟨b72, o73, hI74, hC75⟩ := sl_at (f := cS) (k := 5) (fun _ => rfl) (by decide) ((hs_s).1) hy71
 refine sqv (ex_sindexO hI74 rfl rfl sl22 (by omega)) ?_
 refine guard_yes (b := false) rfl rfl ?_
 refine sqv (ex_field (o' := (o73 + 1)) rfl fi46_1 rfl) ?_
 refine guard_yes (b := false) rfl rfl ?_
 refine sqv (ex_loadC (r := 1) (u := .int .i64 y70.t) hC75 (hS6.holds0 hZ0) rfl on3 rfl rfl) ?_
 refine guard_yes (b := false) rfl rfl ?_
 refine nm (decide ((l.length : Int) < y70.t)) fun t76 ht76 => ?_
 refine sqv (ex_cmp (x := (l.length : Int)) (y := y70.t) rfl rfl ht76) ?_
 refine sqv (ex_pick (t := false) (v := .bool t76) rfl rfl) ?_
 refine sqv (ex_assign (v := .bool t76) rfl) ?_
 show C _ _ _ _ _ _
 refine C_if (t := t76) rfl (fun hc77 => ?_) (fun hc77 => ?_)
 ·have hc77' := of_decide_eq_true (ht76.symm.trans hc77)
  refine C_sr ?_
  refine sqv (ex_assign (v := .int .i64 16) rfl) ?_
  show C _ _ _ _ _ _
  refine C_ret ?_
  refine blk_ret ?_
  refine thn_ret ?_
  refine done_1 (v := .int .i64 16) rfl rfl ?_
  obtain rfl : k = l.length := by omega
  rw [List.take_length] at hmx hks hE
  exact ⟨congrArg _ (ckShs_16b hE ((by assumption : mx = false).symm.trans hmx) (by rw [← hks]; omega) hy71 (by omega)), (St.pick (L := [some (b1, o)]) hS6 [] (by decide))⟩
 have hc77' := of_decide_eq_false (ht76.symm.trans hc77)
 refine C_skip ?_
 refine blk_normal ?_
 show C _ _ _ _ _ _
 refine C_sr ?_
 refine sqv (ex_assign (v := .int .i64 0) rfl) ?_
 show C _ _ _ _ _ _
 refine C_ret ?_
 refine done_1 (v := .int .i64 0) rfl rfl ?_
 obtain rfl : k = l.length := by omega
 rw [List.take_length] at hmx hks hE
 exact ⟨congrArg _ (ckShs_0 hE ((by assumption : mx = false).symm.trans hmx) (by rw [← hks]; omega) hy71 (by omega)), (St.pick (L := [some (b1, o)]) hS6 [] (by decide))⟩
end Go.Proofs
end
section
set_option linter.unusedVariables false
set_option linter.unusedSimpArgs false
set_option maxRecDepth 20000
set_option maxHeartbeats 2000000
namespace Go.Proofs
open Sc
theorem en138 : enters Tryz.prog 138 = true := by kernel_rfl
theorem en84 : enters Tryz.prog 84 = true := by kernel_rfl
structure Acc (F : PrF) (l : List Sh) (s0 : Sh) : Prop where
  ok : FOk F
  h0 : l[0]? = some s0
  ck : ckShs l = 0
  hd : ∀ s ∈ l, s.f = F.id ∧ s.t = s0.t ∧ s.n = s0.n ∧ s.p.length = s0.p.length
  chk : chkL (idxL l) = 0
  lt : ∀ s ∈ l, ∀ y ∈ s.p, y < F.p
  t1 : 1 ≤ s0.t ∧ s0.t ≤ 255 ∧ s0.t ≤ l.length
  cnt : (s0.p.length : Int) = cntI s0.n
theorem ckSh_0 {s : Sh} (h : ckSh s = 0) : (s.f = 1 ∨ s.f = 2) ∧ (1 ≤ s.t ∧ s.t ≤ 255) ∧ (1 ≤ s.i ∧ s.i ≤ 255) ∧ (0 ≤ s.n ∧ s.n ≤ 65535) ∧ (s.p.length : Int) = cntI s.n ∧ ∀ y ∈ s.p, y < (fieldOf' s.f).p := by
 unfold ckSh at h
 by_cases h1 : s.f = 1 ∨ s.f = 2
 ·rw [if_neg (fun g => g h1)] at h
  by_cases h2 : 1 ≤ s.t ∧ s.t ≤ 255
  ·rw [if_neg (fun g => g h2)] at h
   by_cases h3 : 1 ≤ s.i ∧ s.i ≤ 255
   ·rw [if_neg (fun g => g h3)] at h
    by_cases h4 : 0 ≤ s.n ∧ s.n ≤ 65535
    ·rw [if_neg (fun g => g h4)] at h
     by_cases h5 : (s.p.length : Int) = cntI s.n
     ·rw [if_neg (fun g => g h5)] at h
      by_cases h6 : (s.p.all fun y => decide (y < (fieldOf' s.f).p)) = true
      ·exact ⟨h1, h2, h3, h4, h5, fun y hy => by simpa using List.all_eq_true.1 h6 y hy⟩
      rw [if_neg h6] at h; omega
     rw [if_pos h5] at h; omega
    rw [if_pos h4] at h; omega
   rw [if_pos h3] at h; omega
  rw [if_pos h2] at h; omega
 rw [if_pos h1] at h; omega
theorem ckEach_all : ∀ {l : List Sh}, ckEach l = 0 → ∀ s ∈ l, ckSh s = 0
  | [], _, s, h => by simp at h
  | a :: l, h, s, hs => by
    simp only [ckEach] at h
    split at h
    · contradiction
    · rename_i h1
      rcases List.mem_cons.1 hs with rfl | hs
      · simpa using h1
      · exact ckEach_all h s hs
theorem acc_of {l : List Sh} (h : ckShs l = 0) : ∃ s0, Acc (fieldOf' s0.f) l s0 := by
 have hE : ckEach l = 0 := by
   unfold ckShs at h
   split at h
   · contradiction
   · omega
 have hM : mixH l = false := by
   unfold ckShs at h
   rw [if_neg (by omega)] at h
   split at h
   · contradiction
   · rename_i hm
     simpa using hm
 unfold ckShs at h
 rw [if_neg (by omega), if_neg (by simp [hM])] at h
 split at h
 ·contradiction
 rename_i hK
 have ha := ckEach_all hE
 cases l with
 | nil => simp at h
 | cons s0 l =>
   simp only at h
   split at h
   · contradiction
   rename_i ht
   have hhd : ∀ s ∈ s0 :: l, s.f = s0.f ∧ s.t = s0.t ∧ s.n = s0.n := by
     intro s hs
     rcases List.mem_cons.1 hs with rfl | hs
     · exact ⟨rfl, rfl, rfl⟩
     · have := List.any_eq_false.1 (show (l.any fun t => !sameH t s0) = false from hM) s hs
       simpa [sameH] using this
   have h00 := ckSh_0 (ha s0 List.mem_cons_self)
   refine ⟨s0, fieldOf'_ok _, rfl, ?_, fun s hs => ?_, ?_, fun s hs y hy => ?_, ⟨h00.2.1.1, h00.2.1.2, by omega⟩, h00.2.2.2.2.1⟩
   · unfold ckShs
     rw [if_neg (by omega), if_neg (by simp [hM]), if_neg hK]; simp only; rw [if_neg ht]
   · have h1 := hhd s hs
     have h2 := ckSh_0 (ha s hs)
     refine ⟨h1.1.trans (fieldOf'_id h00.1), h1.2.1, h1.2.2, ?_⟩
     have h3 := h2.2.2.2.2.1
     have h4 := h00.2.2.2.2.1
     rw [h1.2.2] at h3
     omega
   · unfold chkL
     rw [if_pos]
     · exact if_neg (by rw [idxL_len]; exact hK)
     · refine List.all_eq_true.2 fun x hx => ?_
       obtain ⟨s, hs, rfl⟩ := List.mem_map.1 hx
       have := (ckSh_0 (ha s hs)).2.2.1
       simpa using this
   · have h1 := (ckSh_0 (ha s hs)).2.2.2.2.2 y hy
     rwa [(hhd s hs).1] at h1
theorem c_Fits (F : PrF) (K : Int) (s : Value) (xs : List Int) (y : Value) (ys : List Nat) (Z0 : List Fact) (t : Value) (ev : List Ev) (Lt : List Ent) (w0 : World) (g0 : FOk F) (g1 : chkL xs = 0) (g2 : ∀ y ∈ ys, y < F.p) (g3 : xs.length = ys.length) (g4 : xs.length < 900) (g5 : 0 ≤ K) (g6 : ev.length + 1999000 < 1099511627776) (hZ0 : Holds w0 Z0) (hO0 : Off (bks Lt) Z0) (hs_s : Sl Z0 3 1 s (xs.flatMap cI)) (hs_y : Sl Z0 49 4 y (ys.flatMap el)) (hT : Tp t ev Lt) (hL0 : St (bks Lt) w0 w0 Lt []) : Calls Tryz.prog 105 #[t, fdV F, s, y, .int .i64 K] w0 (Ret fun uu w' => ∃ (Lt' : List Ent), uu = .tuple #[.int .u64 (mk (fitB F xs ys K)), .int .i64 0] ∧ Tp t (ev ++ (fEv (xs).length K)) Lt' ∧ St (bks Lt) w0 w' ([] ++ Lt') []) := by
 have hF := g0
 have hq9 := sq_900 g4
 refine calls_of Tryz.func105 rfl Tryz.ntmps105 (Nat.le_of_ble_eq_true rfl) ?_
 have hS0 := hL0
 refine C_sr ?_
 refine sqE (st_box (v := fdV F) (cs := (fdA F)) hS0 rfl rfl) fun b1 W2 hS3 => ?_
 refine sqv (ex_assign (v := .int .u64 0) rfl) ?_
 refine sqv (ex_assign (v := .int .i64 0) rfl) ?_
 show C _ _ _ _ _ _
 refine C_sr ?_
 refine sqv (ex_move (v := t) rfl) ?_
 refine sqv (ex_loads (vs := (fdC F)) rfl (hS3.at 0 rfl) ag117 rfl rfl) ?_
 refine sqv (ex_move (v := s) rfl) ?_
 refine sqv (ex_move (v := y) rfl) ?_
 refine sqc (exe_call (args := #[t, fdV F, s, y]) en84 (args_of4 rfl rfl rfl rfl)) (c_Interp F s xs y ys Z0 t ev Lt W2 hF (by omega) g2 g3 g4 (by omega) (hS3.holdsA hZ0 hO0) (St.off0 (Lf := [some (b1, .cells (fdA F) 117)]) hS3 hZ0 hO0) (hs_s) (hs_y) hT (St.lend (Lf := [some (b1, .cells (fdA F) 117)]) hS3)) ?_
 rintro _ W4 ⟨v8, en9, Lt11, rfl, hp10, hU12, hT6⟩
 have hS5 := St.callS (Lf := [some (b1, .cells (fdA F) 117)]) (Ln := [en9]) hS3 hT6
 refine sqv (ex_move (v := .tuple #[v8, .int .i64 0]) rfl) ?_
 refine sqv (ex_extract (v := v8) rfl rfl) ?_
 refine sqv (ex_extract (v := .int .i64 0) rfl rfl) ?_
 refine sqv (ex_assign (v := v8) rfl) ?_
 refine sqv (ex_assign (v := .int .i64 0) rfl) ?_
 show C _ _ _ _ _ _
 refine C_seq ?_
 refine C_sr ?_
 refine sqv (ex_move (v := .int .i64 0) rfl) ?_
 refine sqv (ex_cmp (x := 0) (y := 0) (r := false) rfl rfl rfl) ?_
 show C _ _ _ _ _ _
 refine C_false rfl ?_
 refine C_skip ?_
 show C _ _ _ _ _ _
 refine C_sr ?_
 refine sqv (ex_move (v := t) rfl) ?_
 refine sqv (ex_move (v := v8) rfl) ?_
 refine sqv (ex_move (v := .int .i64 K) rfl) ?_
 refine sqc (exe_call (args := #[t, v8, .int .i64 K]) en138 (args_of3 rfl rfl rfl)) (c_Below K v8 (intL F (ptsL F xs) ys) (entF en9) t (ev ++ (iEv (xs).length)) Lt11 W4 (by omega) (fun y hy => Nat.lt_trans (intL_lt hF _ _ y hy) (f_lt hF)) (by have h1 := iEv_len g4; rw [intL_len, pts_len, List.length_append]; omega) (hS5.entH 0 rfl) (St.offE (Lf := [en9, some (b1, .cells (fdA F) 117)]) hS5 0 rfl) ((hp10).slF) hU12 (St.lend (Lf := [en9, some (b1, .cells (fdA F) 117)]) hS5)) ?_
 rintro _ W13 ⟨Lt17, rfl, hU18, hT15⟩
 have hS14 := St.callS (Lf := [en9, some (b1, .cells (fdA F) 117)]) (Ln := []) hS5 hT15
 refine sqv (ex_assign (v := .int .u64 (mk ((((intL F (ptsL F xs) ys)).drop (K).toNat).all fun y => decide (y = 0)))) rfl) ?_
 refine sqv (ex_assign (v := .int .i64 0) rfl) ?_
 show C _ _ _ _ _ _
 refine C_ret ?_
 refine done_2 (v1 := .int .u64 (mk ((((intL F (ptsL F xs) ys)).drop (K).toNat).all fun y => decide (y = 0)))) (v2 := .int .i64 0) rfl rfl rfl ?_
 exact ⟨_, rfl, (by rw [fEv, ← List.append_assoc]; simpa only [intL_len, pts_len] using hU18), (St.pickB (Lf := [en9, some (b1, .cells (fdA F) 117)]) hS14 [] (by decide) rfl).less (fun _ h => absurd h (by simp))⟩
end Go.Proofs
end
section
set_option linter.unusedVariables false
set_option linter.unusedSimpArgs false
set_option maxRecDepth 20000
set_option maxHeartbeats 2000000
namespace Go.Proofs
open Sc
theorem en104 : enters Tryz.prog 104 = true := by kernel_rfl
theorem en105 : enters Tryz.prog 105 = true := by kernel_rfl
theorem en106 : enters Tryz.prog 106 = true := by kernel_rfl
theorem en51 : enters Tryz.prog 51 = true := by kernel_rfl
theorem en74 : enters Tryz.prog 74 = true := by kernel_rfl
theorem on100 : oneOf Tryz.prog 100 = true := by kernel_rfl
theorem on22 : oneOf Tryz.prog 22 = true := by kernel_rfl
theorem on25 : oneOf Tryz.prog 25 = true := by kernel_rfl
theorem ze100 : zeroOf Tryz.prog 100 = some #[.slice none 0 0] := by kernel_rfl
theorem ze25 : zeroOf Tryz.prog 25 = some #[.slice none 0 0] := by kernel_rfl
theorem col_lt {F : PrF} {l : List Sh} {s0 : Sh} (h : Acc F l s0) {c : Nat} (hc : c < s0.p.length) : ∀ y ∈ colL l c, y < F.p := by
 intro y hy
 obtain ⟨s, hs, rfl⟩ := List.mem_map.1 hy
 have h1 := (h.hd s hs).2.2.2
 rw [List.getD_eq_getElem?_getD, List.getElem?_eq_getElem (by omega)]
 exact h.lt s hs _ (List.getElem_mem _)
theorem c_masks (F : PrF) (s0 : Sh) (s : Value) (l : List Sh) (Z0 : List Fact) (t : Value) (ev : List Ev) (Lt : List Ent) (w0 : World) (g0 : Acc F l s0) (g1 : ∀ s ∈ l, ∀ y ∈ s.p, y < B256) (g2 : l.length < 900) (g3 : ev.length + 2000000 * s0.p.length < 1099511627776) (hZ0 : Holds w0 Z0) (hO0 : Off (bks Lt) Z0) (hs_s : Shs Z0 46 49 s l) (hG : Cells Z0 0 0 gC) (hT : Tp t ev Lt) (hL0 : St (bks Lt) w0 w0 Lt []) : Calls Tryz.prog 62 #[t, s] w0 (Ret fun uu w' => ∃ (v : Value), ∃ (en : Ent), ∃ (Lt' : List Ent), uu = .tuple #[v, .int .i64 0] ∧ (Own 39 1 cU v (mskL F l s0.t s0.p.length) en) ∧ Tp t (ev ++ (aEv (l).length s0.t s0.p.length)) Lt' ∧ St (bks Lt) w0 w' ([en] ++ Lt') []) := by
 have hF := g0.ok
 have hlen := sl_lt (f := cS) (k := 5) (fun _ => rfl) (by decide) hs_s.1
 have hl0 : 0 < l.length := (List.getElem?_eq_some_iff.1 g0.h0).1
 have hs0 := (List.getElem?_eq_some_iff.1 g0.h0).2
 have h0m : s0 ∈ l := List.mem_of_getElem? g0.h0
 have h0f := (g0.hd s0 h0m).1
 have hpl0 := sl_lt (f := el) (k := 4) (fun _ => rfl) (by decide) (hs_s.2 s0 h0m)
 refine calls_of Tryz.func62 rfl Tryz.ntmps62 (Nat.le_of_ble_eq_true rfl) ?_
 have hS0 := hL0
 refine C_sr ?_
 refine sqE (st_box (v := t) (cs := #[t]) hS0 rfl (tape_1 hT).1) fun b1 W2 hS3 => ?_
 refine sqE (st_box (v := s) (cs := #[s]) hS3 rfl (sl_1 ((hs_s).1)).1) fun b4 W5 hS6 => ?_
 refine sqv (ex_assign (v := .slice none 0 0) rfl) ?_
 refine sqv (ex_assign (v := .int .i64 0) rfl) ?_
 show C _ _ _ _ _ _
 refine C_seq ?_
 refine C_sr ?_
 refine sqv (ex_load (v := s) rfl (hS6.at 0 rfl) on22 rfl) ?_
 refine sqc (exe_call (args := #[s]) en51 (args_of1 rfl)) (c_CheckShares s l Z0 W5 g1 (by omega) (hS6.holdsA hZ0 hO0) (hs_s) (hG)) ?_
 rintro _ W7 ⟨rfl, hT9⟩
 have hS8 := hS6.call hT9
 refine sqv (ex_assign (v := .int .i64 (ckShs l)) rfl) ?_
 show C _ _ _ _ _ _
 refine C_sr ?_
 refine sqv (ex_move (v := .int .i64 (ckShs l)) rfl) ?_
 refine sqv (ex_cmp (x := (ckShs l)) (y := 0) (r := decide ((ckShs l) ≠ 0)) rfl rfl rfl) ?_
 show C _ _ _ _ _ _
 refine C_dec ((ckShs l) ≠ 0) rfl (fun hc11 => ?_) (fun hc11 => ?_)
 ·exact absurd g0.ck (by assumption)
 refine C_skip ?_
 show C _ _ _ _ _ _
 refine C_sr ?_
 refine sqv (ex_load (v := s) rfl (hS8.at 0 rfl) on22 rfl) ?_
 obtain ⟨b12, o13, hI14, hC15⟩ := sl_at (f := cS) (k := 5) (fun _ => rfl) (by decide) ((hs_s).1) g0.h0
 refine sqv (ex_sindexO hI14 rfl rfl sl22 (by omega)) ?_
 refine sqv (ex_field (o' := o13) rfl fi46_0 rfl) ?_
 refine sqv (ex_loadC (r := 0) (u := .int .i64 s0.f) hC15 (hS8.holdsA hZ0 hO0) rfl on3 rfl rfl) ?_
 refine sqc (exe_call (args := #[.int .i64 s0.f]) en79 (args_of1 rfl)) (c_Get F s0.f Z0 W7 hF h0f (hS8.holdsA hZ0 hO0) (hG)) ?_
 rintro _ W16 ⟨rfl, hT18⟩
 have hS17 := hS8.call hT18
 refine sqv (ex_move (v := .tuple #[fdV F, .int .i64 0]) rfl) ?_
 refine sqv (ex_extract (v := fdV F) rfl rfl) ?_
 refine sqv (ex_extract (v := .int .i64 0) rfl rfl) ?_
 refine sqE (st_alloc hS17 ze117) fun b20 W21 hS22 => ?_
 refine sqUE (st_stores (v := fdV F) (cs' := (fdA F)) 0 hS22 rfl rfl rfl ag117 rfl (Nat.le_of_ble_eq_true rfl) (ones_of rfl) rfl) fun W23 hS24 => ?_
 refine sqv (ex_assign (v := .int .i64 0) rfl) ?_
 show C _ _ _ _ _ _
 refine C_sr ?_
 refine sqv (ex_load (v := s) rfl (hS24.at 1 rfl) on22 rfl) ?_
 refine sqc (exe_call (args := #[s]) en74 (args_of1 rfl)) (c_Indices s l Z0 W23 (by omega) (hS24.holdsA hZ0 hO0) (hs_s)) ?_
 rintro v29 W25 ⟨_, en30, rfl, hp31, hT27⟩
 have hS26 := hS24.call hT27
 refine sqE (st_alloc hS26 ze25) fun b32 W33 hS34 => ?_
 refine sqUE (st_store (v := v29) (cs' := #[v29]) 0 hS34 rfl rfl rfl on25 (own_1 hp31).1 (Nat.le_of_ble_eq_true rfl) (own_1 hp31).2 rfl) fun W35 hS36 => ?_
 show C _ _ _ _ _ _
 refine C_sr ?_
 refine sqE (st_alloc hS36 ze100) fun b37 W38 hS39 => ?_
 show C _ _ _ _ _ _
 refine C_sr ?_
 refine sqv (ex_func (a := #[]) (b := #[pt b1, pt b20, pt b32, pt b4, pt b37]) args_of0 (args_of5 rfl rfl rfl rfl rfl)) ?_
 refine sqv (ex_assign (v := .func (.func 104) #[] #[pt b1, pt b20, pt b32, pt b4, pt b37]) rfl) ?_
 show C _ _ _ _ _ _
 refine C_seq ?_
 refine C_sr ?_
 refine sqv (ex_load (v := s) rfl (hS39.at 4 rfl) on22 rfl) ?_
 obtain ⟨b40, o41, hI42, hC43⟩ := sl_at (f := cS) (k := 5) (fun _ => rfl) (by decide) ((hs_s).1) g0.h0
 refine sqv (ex_sindexO hI42 rfl rfl sl22 (by omega)) ?_
 refine sqv (ex_field (o' := (o41 + 4)) rfl fi46_4 rfl) ?_
 refine sqv (ex_loadC (r := 4) (u := s0.v) hC43 (hS39.holdsA hZ0 hO0) rfl on44 rfl rfl) ?_
 refine sqv (ex_lenO (f := el) (k := 4) (r := (s0.p.length : Int)) (fun _ => rfl) (by decide) ((hs_s).2 s0 (List.mem_of_getElem? g0.h0)) rfl sl44 rfl) ?_
 refine sqv (ex_move (v := .int .i64 0) rfl) ?_
 show C _ _ _ _ _ _
 refine C_block ?_
 have hS44 := St.non hS39
 refine C_loop (fun nn aa ww => ∃ (m0 : Nat → Value) (k : Nat) (v : Value) (en : Ent) (o : List Int) (Lu : List Ent), nn = s0.p.length - k ∧ aa = act 46 (upds m0 [(10, pt b37), (11, .func (.func 104) #[] #[pt b1, pt b20, pt b32, pt b4, pt b37]), (34, .int .i64 (s0.p.length : Int)), (35, .int .i64 (k : Int))]) [] ∧ St (bks Lt) w0 ww ([some (b37, .cells #[v] 100), some (b32, .cells #[v29] 25), en30, some (b20, .cells (fdA F) 117), some (b4, .cells #[s] 22), some (b1, .cells #[t] 58), en] ++ Lu) [] ∧ (k ≤ s0.p.length) ∧ (Own 39 1 cU v o en) ∧ (o = mskL F l s0.t k) ∧ (Tp t (ev ++ aEv l.length s0.t k) Lu)) s0.p.length ?_ ?_
 ·exact ⟨_, 0, (.slice none 0 0), none, [], Lt, rfl, act_upds ⟨rfl, rfl, (congrArg (Value.int .i64) (by first | rfl | omega)), (congrArg (Value.int .i64) (by first | rfl | omega)), trivial⟩, (St.pickB (Lf := [none, some (b37, .cells #[.slice none 0 0] 100), some (b32, .cells #[v29] 25), en30, some (b20, .cells (fdA F) 117), some (b4, .cells #[s] 22), some (b1, .cells #[t] 58)]) hS44 [1, 2, 3, 4, 5, 6, 0] (by decide) rfl), (Nat.zero_le _), (Own.nil _ _ _), rfl, (by rw [show ∀ n K, aEv n K 0 = [] from fun _ _ => rfl, List.append_nil]; exact hT)⟩
 rintro n48 a49 W46 ⟨m45, k, v, en, o, Lu, rfl, rfl, hS47, hk, hO, ho, hUu⟩
 have hol : o.length = k := by rw [ho, mskL_len]
 refine C_sr ?_
 refine sqv (ex_cmp (x := (k : Int)) (y := (s0.p.length : Int)) (r := decide ((k : Int) < (s0.p.length : Int))) rfl rfl rfl) ?_
 show C _ _ _ _ _ _
 refine C_seq ?_
 refine C_dec ((k : Int) < (s0.p.length : Int)) rfl (fun hc50 => ?_) (fun hc50 => ?_)
 ·refine C_skip ?_
  show C _ _ _ _ _ _
  refine C_seq ?_
  refine C_block ?_
  refine C_sr ?_
  refine sqv (ex_move (v := .int .i64 (k : Int)) rfl) ?_
  refine sqv (ex_assign (v := .int .i64 (k : Int)) rfl) ?_
  show C _ _ _ _ _ _
  refine C_sr ?_
  refine sqv (ex_move (v := .func (.func 104) #[] #[pt b1, pt b20, pt b32, pt b4, pt b37]) rfl) ?_
  refine sqv (ex_move (v := .int .i64 (k : Int)) rfl) ?_
  refine sqc_in (exe_closure (args := #[.int .i64 (k : Int), pt b1, pt b20, pt b32, pt b4, pt b37]) rfl en104 (clo (args_of1 rfl))) fun R51 hR52 => ?_
  refine calls_of Tryz.func104 rfl Tryz.ntmps104 (Nat.le_of_ble_eq_true rfl) ?_
  refine C_sr ?_
  refine sqv (ex_assign (v := .int .i64 0) rfl) ?_
  show C _ _ _ _ _ _
  refine C_sr ?_
  refine sqv (ex_load (v := t) rfl (hS47.at 5 rfl) on58 rfl) ?_
  refine sqv (ex_move (v := .int .i64 (k : Int)) rfl) ?_
  refine sqc (exe_call (args := #[t, .int .i64 4, .int .i64 (k : Int), .int .i64 0]) en52 (args_of4 rfl rfl rfl rfl)) (c_Note 4 (k : Int) 0 t (ev ++ aEv l.length s0.t k) Lu W46 (by have := aEv_len (n := l.length) (by omega) s0.t k; simp only [List.length_append, List.length_cons, List.length_nil]; omega) hUu (St.lend (Lf := [some (b37, .cells #[v] 100), some (b32, .cells #[v29] 25), en30, some (b20, .cells (fdA F) 117), some (b4, .cells #[s] 22), some (b1, .cells #[t] 58), en]) hS47)) ?_
  rintro _ W53 ⟨Lt57, rfl, hU58, hT55⟩
  have hS54 := St.callS (Lf := [some (b37, .cells #[v] 100), some (b32, .cells #[v29] 25), en30, some (b20, .cells (fdA F) 117), some (b4, .cells #[s] 22), some (b1, .cells #[t] 58), en]) (Ln := []) hS47 hT55
  show C _ _ _ _ _ _
  refine C_seq ?_
  obtain ⟨b59, o60, hI61, hC62⟩ := sl_at (f := cS) (k := 5) (fun _ => rfl) (by decide) ((hs_s).1) g0.h0
  refine C_draw (p := 15) (l := [(some 14, t), (some 15, fdV F), (some 16, v29), (some 17, s), (some 18, .int .i64 (k : Int)), (some 19, undef), (some 20, s), (some 21, .pointer (some ⟨b59, o60, none⟩)), (some 22, .pointer (some ⟨b59, o60 + 1, none⟩)), (some 23, .int .i64 s0.t), (some 24, undef), (some 13, undef), (some 25, undef), (some 26, undef), (some 8, undef)]) (G := [5, 10]) (J := fun w => St (bks Lt) w0 w ([some (b37, .cells #[v] 100), some (b32, .cells #[v29] 25), en30, some (b20, .cells (fdA F) 117), some (b4, .cells #[s] 22), some (b1, .cells #[t] 58), en] ++ Lt57) []) mixed ?_ (hS54.draw _)
  refine node1 15 [5, 10] [] [10, 11, 12, 13, 14] (by kernel_rfl) rfl rfl (nd rfl) rfl (by kernel_rfl) ?_ ?_ ?_
  ·intro S wd hSd
   exact ⟨n0 rfl rfl rfl (ex_load (v := t) rfl (hSd.at 5 rfl) on58 rfl) rfl hSd, n0 rfl rfl rfl (ex_loads (vs := (fdC F)) rfl (hSd.at 3 rfl) ag117 rfl rfl) rfl hSd, n0 rfl rfl rfl (ex_load (v := v29) rfl (hSd.at 1 rfl) on25 rfl) rfl hSd, n0 rfl rfl rfl (ex_load (v := s) rfl (hSd.at 4 rfl) on22 rfl) rfl hSd, n0 rfl rfl rfl (ex_move (v := .int .i64 (k : Int)) rfl) rfl hSd, sG rfl, n0 rfl rfl rfl (ex_load (v := s) rfl (hSd.at 4 rfl) on22 rfl) rfl hSd, n1 rfl rfl rfl rfl (fun hq6 => (ex_sindexO hI61 (evS hq6 rfl rfl) rfl sl22 (by omega))) rfl hSd, n1 rfl rfl rfl rfl (fun hq7 => (ex_field (o' := (o60 + 1)) (evS hq7 rfl rfl) fi46_1 rfl)) rfl hSd, n1 rfl rfl rfl rfl (fun hq8 => (ex_loadC (r := 1) (u := .int .i64 s0.t) hC62 (hSd.holdsA hZ0 hO0) (evS hq8 rfl rfl) on3 rfl rfl)) rfl hSd, sG rfl, sG rfl, sG rfl, sG rfl, sG rfl, tt⟩
  ·intro S wd hSd
   refine ⟨tt, tt, tt, tt, tt, ?_, tt, tt, tt, tt, tt, tt, tt, tt, tt, tt⟩
   refine needH rfl ?_
   rintro ⟨hq3, hq4, _⟩ hno
   refine dxC (wanted_none rfl) rfl (exe_call (args := #[s, .int .i64 (k : Int)]) en106 (args_of2 (evS hq3 rfl rfl) (evS hq4 rfl rfl))) (c_Column (k : Int) s l Z0 wd (by omega) (by omega) (fun s hs => by have := (g0.hd s hs).2.2.2; omega) (hSd.holdsA hZ0 hO0) (hs_s)) ?_
   rintro v67 W63 ⟨_, en68, rfl, hp69, hT65⟩
   have hS64 := hSd.call hT65
   refine ⟨fun w => St (bks Lt) w0 w ([en68, some (b37, .cells #[v] 100), some (b32, .cells #[v29] 25), en30, some (b20, .cells (fdA F) 117), some (b4, .cells #[s] 22), some (b1, .cells #[t] 58), en] ++ Lt57) [], [(some 14, t), (some 15, fdV F), (some 16, v29), (some 17, s), (some 18, .int .i64 (k : Int)), (some 19, v67), (some 20, s), (some 21, .pointer (some ⟨b59, o60, none⟩)), (some 22, .pointer (some ⟨b59, o60 + 1, none⟩)), (some 23, .int .i64 s0.t), (some 24, undef), (some 13, undef), (some 25, undef), (some 26, undef), (some 8, undef)], [10, 11, 12, 13, 14], hS64, by kernel_rfl, ⟨rfl, rfl, rfl, rfl, rfl, rfl, rfl, rfl, rfl, rfl, rfl, True.intro, rfl, rfl, rfl, rfl, rfl, rfl, rfl, rfl, rfl, True.intro, rfl, True.intro, rfl, True.intro, rfl, True.intro, rfl, True.intro, True.intro⟩, rfl, ?_⟩
   show Sc.Node _ _ _ _ _ _ _ 15 [(some 14, t), (some 15, fdV F), (some 16, v29), (some 17, s), (some 18, .int .i64 (k : Int)), (some 19, v67), (some 20, s), (some 21, .pointer (some ⟨b59, o60, none⟩)), (some 22, .pointer (some ⟨b59, o60 + 1, none⟩)), (some 23, .int .i64 s0.t), (some 24, undef), (some 13, undef), (some 25, undef), (some 26, undef), (some 8, undef)] [10] [5] _
   refine node1 15 [10] [5] [11, 12, 13, 14] (by kernel_rfl) rfl rfl (nd rfl) rfl (by kernel_rfl) ?_ ?_ ?_
   ·intro S wd hSd
    exact ⟨n0 rfl rfl rfl (ex_load (v := t) rfl (hSd.at 6 rfl) on58 rfl) rfl hSd, n0 rfl rfl rfl (ex_loads (vs := (fdC F)) rfl (hSd.at 4 rfl) ag117 rfl rfl) rfl hSd, n0 rfl rfl rfl (ex_load (v := v29) rfl (hSd.at 2 rfl) on25 rfl) rfl hSd, n0 rfl rfl rfl (ex_load (v := s) rfl (hSd.at 5 rfl) on22 rfl) rfl hSd, n0 rfl rfl rfl (ex_move (v := .int .i64 (k : Int)) rfl) rfl hSd, sG rfl, n0 rfl rfl rfl (ex_load (v := s) rfl (hSd.at 5 rfl) on22 rfl) rfl hSd, n1 rfl rfl rfl rfl (fun hq6 => (ex_sindexO hI61 (evS hq6 rfl rfl) rfl sl22 (by omega))) rfl hSd, n1 rfl rfl rfl rfl (fun hq7 => (ex_field (o' := (o60 + 1)) (evS hq7 rfl rfl) fi46_1 rfl)) rfl hSd, n1 rfl rfl rfl rfl (fun hq8 => (ex_loadC (r := 1) (u := .int .i64 s0.t) hC62 (hSd.holdsA hZ0 hO0) (evS hq8 rfl rfl) on3 rfl rfl)) rfl hSd, sG rfl, sG rfl, sG rfl, sG rfl, sG rfl, tt⟩
   ·intro S wd hSd
    refine ⟨tt, tt, tt, tt, tt, tt, tt, tt, tt, tt, ?_, tt, tt, tt, tt, tt⟩
    refine needH rfl ?_
    rintro ⟨hq0, hq1, hq2, hq5, hq9, hq5, _⟩ hno
    refine dxC (wanted_none rfl) rfl (exe_call (args := #[t, fdV F, v29, v67, .int .i64 s0.t]) en105 (args_of5 (evS hq0 rfl rfl) (evS hq1 rfl rfl) (evS hq2 rfl rfl) (evS hq5 rfl rfl) (evS hq9 rfl rfl))) (c_Fits F s0.t v29 (idxL l) v67 (colL l ((k : Int)).toNat) ((entF en30) ++ (entF en68)) t ((ev ++ aEv l.length s0.t k) ++ ([⟨4, (k : Int), 0⟩])) Lt57 wd hF g0.chk (fun y hy => col_lt g0 (by omega) y hy) (by rw [idxL_len, colL_len]) (by rw [idxL_len]; omega) (by have := g0.t1; omega) (by have := aEv_len (n := l.length) (by omega) s0.t k; simp only [List.length_append, List.length_cons, List.length_nil]; omega) (Holds.app (hSd.entH 3 rfl) (hSd.entH 0 rfl)) (Off.app (St.offE (Lf := [en68, some (b37, .cells #[v] 100), some (b32, .cells #[v29] 25), en30, some (b20, .cells (fdA F) 117), some (b4, .cells #[s] 22), some (b1, .cells #[t] 58), en]) hSd 3 rfl) (St.offE (Lf := [en68, some (b37, .cells #[v] 100), some (b32, .cells #[v29] 25), en30, some (b20, .cells (fdA F) 117), some (b4, .cells #[s] 22), some (b1, .cells #[t] 58), en]) hSd 0 rfl)) (Sl.mono ((hp31).slF) fun _ hp => (List.mem_append_left _ hp)) (Sl.mono ((hp69).slF) fun _ hp => (List.mem_append_right _ hp)) hU58 (St.lend (Lf := [en68, some (b37, .cells #[v] 100), some (b32, .cells #[v29] 25), en30, some (b20, .cells (fdA F) 117), some (b4, .cells #[s] 22), some (b1, .cells #[t] 58), en]) hSd)) ?_
    rintro _ W70 ⟨Lt74, rfl, hU75, hT72⟩
    have hS71 := St.callS (Lf := [en68, some (b37, .cells #[v] 100), some (b32, .cells #[v29] 25), en30, some (b20, .cells (fdA F) 117), some (b4, .cells #[s] 22), some (b1, .cells #[t] 58), en]) (Ln := []) hSd hT72
    refine ⟨fun w => St (bks Lt) w0 w ([en68, some (b37, .cells #[v] 100), some (b32, .cells #[v29] 25), en30, some (b20, .cells (fdA F) 117), some (b4, .cells #[s] 22), some (b1, .cells #[t] 58), en] ++ Lt74) [], [(some 14, t), (some 15, fdV F), (some 16, v29), (some 17, s), (some 18, .int .i64 (k : Int)), (some 19, v67), (some 20, s), (some 21, .pointer (some ⟨b59, o60, none⟩)), (some 22, .pointer (some ⟨b59, o60 + 1, none⟩)), (some 23, .int .i64 s0.t), (some 24, .tuple #[.int .u64 (mk (fitB F (idxL l) (colL l ((k : Int)).toNat) s0.t)), .int .i64 0]), (some 13, .tuple #[.int .u64 (mk (fitB F (idxL l) (colL l ((k : Int)).toNat) s0.t)), .int .i64 0]), (some 25, .int .u64 (mk (fitB F (idxL l) (colL l ((k : Int)).toNat) s0.t))), (some 26, .int .i64 0), (some 8, .int .u64 (mk (fitB F (idxL l) (colL l ((k : Int)).toNat) s0.t)))], [11, 12, 13, 14], hS71, by kernel_rfl, ⟨rfl, rfl, rfl, rfl, rfl, rfl, rfl, rfl, rfl, rfl, rfl, rfl, rfl, rfl, rfl, rfl, rfl, rfl, rfl, rfl, rfl, True.intro, rfl, True.intro, rfl, True.intro, rfl, True.intro, rfl, True.intro, True.intro⟩, rfl, ?_⟩
    show Sc.Node _ _ _ _ _ _ _ 15 [(some 14, t), (some 15, fdV F), (some 16, v29), (some 17, s), (some 18, .int .i64 (k : Int)), (some 19, v67), (some 20, s), (some 21, .pointer (some ⟨b59, o60, none⟩)), (some 22, .pointer (some ⟨b59, o60 + 1, none⟩)), (some 23, .int .i64 s0.t), (some 24, .tuple #[.int .u64 (mk (fitB F (idxL l) (colL l ((k : Int)).toNat) s0.t)), .int .i64 0]), (some 13, .tuple #[.int .u64 (mk (fitB F (idxL l) (colL l ((k : Int)).toNat) s0.t)), .int .i64 0]), (some 25, .int .u64 (mk (fitB F (idxL l) (colL l ((k : Int)).toNat) s0.t))), (some 26, .int .i64 0), (some 8, .int .u64 (mk (fitB F (idxL l) (colL l ((k : Int)).toNat) s0.t)))] [] [10, 5] _
    refine node1 15 [] [10, 5] [] (by kernel_rfl) rfl rfl (nd rfl) rfl (by kernel_rfl) ?_ ?_ ?_
    ·intro S wd hSd
     refine ⟨n0 rfl rfl rfl (ex_load (v := t) rfl (hSd.at 6 rfl) on58 rfl) rfl hSd, n0 rfl rfl rfl (ex_loads (vs := (fdC F)) rfl (hSd.at 4 rfl) ag117 rfl rfl) rfl hSd, n0 rfl rfl rfl (ex_load (v := v29) rfl (hSd.at 2 rfl) on25 rfl) rfl hSd, n0 rfl rfl rfl (ex_load (v := s) rfl (hSd.at 5 rfl) on22 rfl) rfl hSd, n0 rfl rfl rfl (ex_move (v := .int .i64 (k : Int)) rfl) rfl hSd, sG rfl, n0 rfl rfl rfl (ex_load (v := s) rfl (hSd.at 5 rfl) on22 rfl) rfl hSd, n1 rfl rfl rfl rfl (fun hq6 => (ex_sindexO hI61 (evS hq6 rfl rfl) rfl sl22 (by omega))) rfl hSd, n1 rfl rfl rfl rfl (fun hq7 => (ex_field (o' := (o60 + 1)) (evS hq7 rfl rfl) fi46_1 rfl)) rfl hSd, n1 rfl rfl rfl rfl (fun hq8 => (ex_loadC (r := 1) (u := .int .i64 s0.t) hC62 (hSd.holdsA hZ0 hO0) (evS hq8 rfl rfl) on3 rfl rfl)) rfl hSd, sG rfl, n1 rfl rfl rfl rfl (fun hq10 => (ex_move (v := .tuple #[.int .u64 (mk (fitB F (idxL l) (colL l ((k : Int)).toNat) s0.t)), .int .i64 0]) (evS hq10 rfl rfl))) rfl hSd, n1 rfl rfl rfl rfl (fun hq11 => (ex_extract (v := .int .u64 (mk (fitB F (idxL l) (colL l ((k : Int)).toNat) s0.t))) (evS hq11 rfl rfl) rfl)) rfl hSd, n1 rfl rfl rfl rfl (fun hq11 => (ex_extract (v := .int .i64 0) (evS hq11 rfl rfl) rfl)) rfl hSd, ?_, tt⟩
     refine needG rfl ?_
     rintro ⟨hq12, hq10, hq0, hq1, hq2, hq3, hq4, hq5, hq6, hq7, hq8, hq9, hq10, hq11, hq12, _⟩ hno
     exact dx (wanted_none rfl) rfl (ex_assign (v := .int .u64 (mk (fitB F (idxL l) (colL l ((k : Int)).toNat) s0.t))) (evS hq12 rfl rfl)) ⟨rfl, hSd⟩
    ·exact fun S wd hSd => ⟨True.intro, True.intro, True.intro, True.intro, True.intro, True.intro, True.intro, True.intro, True.intro, True.intro, True.intro, True.intro, True.intro, True.intro, True.intro, True.intro⟩
    intro _ W76 hS77
    refine sqv (ex_assign (v := .int .i64 0) rfl) ?_
    show C _ _ _ _ _ _
    refine C_sr ?_
    refine sqv (ex_load (v := v) rfl (hS77.at 1 rfl) on100 rfl) ?_
    refine sqv (ex_move (v := .int .u64 (mk (fitB F (idxL l) (colL l ((k : Int)).toNat) s0.t))) rfl) ?_
    refine sqE (st_bslice (vs := [.int .u64 (mk (fitB F (idxL l) (colL l ((k : Int)).toNat) s0.t))]) hS77 sl100 ze39 rfl (by simp [Value.cells]) rfl (by decide)) fun b78 W79 hS80 => ?_
    refine sqA (st_appendM (f := cU) (k := 1) (xs := o) (ys := [mk (fitB F (idxL l) (colL l ((k : Int)).toNat) s0.t)]) (fun _ => rfl) (fun _ => ones_of rfl) (by decide) 8 hS80 (hO) ((sl_row (f := cU) (k := 1) (t := 39) (b := b78) (n := 1) (cs := #[.int .u64 (mk (fitB F (idxL l) (colL l ((k : Int)).toNat) s0.t))]) (ys := [mk (fitB F (idxL l) (colL l ((k : Int)).toNat) s0.t)]) (fun _ => rfl) rfl (Nat.le_of_ble_eq_true rfl) rfl)) (hS80.entH 0 rfl) rfl rfl rfl sl100 ze39 rfl (by simp only [List.length_append, List.length_cons, List.length_nil, maxLen]; omega) (by simp only [List.length_append, List.length_cons, List.length_nil, maxLen]; omega)) fun u81 en82 W83 ⟨hS84, ho85⟩ => ?_
    refine sqUE (st_store (v := u81) (cs' := #[u81]) 2 hS84 rfl rfl rfl on100 (own_1 ho85).1 (Nat.le_of_ble_eq_true rfl) (own_1 ho85).2 rfl) fun W86 hS87 => ?_
    show C _ _ _ _ _ _
    refine C_sr ?_
    refine sqv (ex_move (v := .int .i64 0) rfl) ?_
    refine sqv (ex_assign (v := .int .i64 0) rfl) ?_
    show C _ _ _ _ _ _
    refine C_ret ?_
    refine done_1 (v := .int .i64 0) rfl rfl ?_
    refine hR52 _ _ ?_
    refine sqv (ex_assign (v := .int .i64 0) rfl) ?_
    show C _ _ _ _ _ _
    refine C_sr ?_
    refine sqv (ex_move (v := .int .i64 0) rfl) ?_
    refine sqv (ex_cmp (x := 0) (y := 0) (r := false) rfl rfl rfl) ?_
    show C _ _ _ _ _ _
    refine C_false rfl ?_
    refine C_skip ?_
    refine blk_normal ?_
    show C _ _ _ _ _ _
    refine C_region ?_
    refine nm ((k : Int) + 1) fun x88 hx88 => ?_
    refine sqv (ex_add (x := (k : Int)) (y := 1) rfl rfl (w64 hx88 (by omega))) ?_
    refine sqv (ex_move (v := .int .i64 x88) rfl) ?_
    exact ⟨_, (by omega), ⟨_, (k + 1), u81, en82, (o ++ ([mk (fitB F (idxL l) (colL l ((k : Int)).toNat) s0.t)])), Lt74, rfl, act_upds ⟨rfl, rfl, (congrArg (Value.int .i64) (by first | rfl | omega)), (congrArg (Value.int .i64) (by first | rfl | omega)), trivial⟩, (St.pickB (Lf := [some (b78, .cells #[.int .u64 (mk (fitB F (idxL l) (colL l ((k : Int)).toNat) s0.t))] 39), en68, some (b37, .cells #[u81] 100), some (b32, .cells #[v29] 25), en30, some (b20, .cells (fdA F) 117), some (b4, .cells #[s] 22), some (b1, .cells #[t] 58), en82]) hS87 [2, 3, 4, 5, 6, 7, 8] (by decide) rfl), (by omega), ho85, (by rw [ho, mskL]; rfl), (by rw [aEv]; simpa only [List.append_assoc, idxL_len, List.cons_append, List.nil_append] using hU75)⟩⟩
   exact fun h => absurd h (by decide)
  exact fun h => absurd h (by decide)
 refine C_exit ?_
 refine thn_exit ?_
 refine thn_exit ?_
 refine blk_exit ?_
 show C _ _ _ _ _ _
 refine C_sr ?_
 refine sqv (ex_load (v := v) rfl (hS47.at 0 rfl) on100 rfl) ?_
 refine sqv (ex_assign (v := v) rfl) ?_
 refine sqv (ex_assign (v := .int .i64 0) rfl) ?_
 show C _ _ _ _ _ _
 refine C_ret ?_
 refine done_2 (v1 := v) (v2 := .int .i64 0) rfl rfl rfl ?_
 obtain rfl : k = s0.p.length := by omega
 exact ⟨_, _, _, rfl, by rw [← ho]; exact hO, hUu, (St.pickB (Lf := [some (b37, .cells #[v] 100), some (b32, .cells #[v29] 25), en30, some (b20, .cells (fdA F) 117), some (b4, .cells #[s] 22), some (b1, .cells #[t] 58), en]) hS47 [6] (by decide) rfl).less (fun _ h => absurd h (by simp))⟩
end Go.Proofs
end
section
set_option linter.unusedVariables false
set_option linter.unusedSimpArgs false
set_option maxRecDepth 20000
set_option maxHeartbeats 2000000
namespace Go.Proofs
open Sc
theorem en62 : enters Tryz.prog 62 = true := by kernel_rfl
theorem on4 : oneOf Tryz.prog 4 = true := by kernel_rfl
theorem sl53 : sliceOf Tryz.prog 53 = some (4, 1, 1) := by kernel_rfl
theorem ze4 : zeroOf Tryz.prog 4 = some #[.bool false] := by kernel_rfl
theorem con_step {F : PrF} {l : List Sh} {K : Int} {k : Nat} {b : Bool} (h : b = conB F l K k) : (b && fitB F (idxL l) (colL l k) K) = conB F l K (k + 1) := by
 rw [h, conB, conB, List.range_succ, List.all_append]; simp
theorem chu_all {F : PrF} {l : List Sh} {K : Int} {o : List Bool} {m : Nat} (hl : o.length = m) (h : ∀ j, j < m → o[j]? = some (fitB F (idxL l) (colL l j) K)) : chuL F l K m = o := by
 apply List.ext_getElem?
 intro j
 by_cases hj : j < m
 ·rw [h j hj, chuL, List.getElem?_map, List.getElem?_range hj]; rfl
 rw [List.getElem?_eq_none (by simp [chuL]; omega), List.getElem?_eq_none (by omega)]
theorem set_belowB {q : List Bool} {j : Nat} {v : Bool} {f : Nat → Bool} (hq : ∀ i, i < j → q[i]? = some (f i)) (hl : j < q.length) (hv : v = f j) : ∀ i, i < j + 1 → (q.set j v)[i]? = some (f i) := by
 intro i hi
 rw [List.getElem?_set]
 by_cases h : j = i
 ·subst h; rw [if_pos rfl, if_pos hl, hv]
 rw [if_neg h]; exact hq i (by omega)
theorem ne_mk (b : Bool) : decide (mk b ≠ 0) = b := by cases b <;> decide
theorem c_Consistent (F : PrF) (s0 : Sh) (s : Value) (l : List Sh) (Z0 : List Fact) (t : Value) (ev : List Ev) (Lt : List Ent) (w0 : World) (g0 : Acc F l s0) (g1 : ∀ s ∈ l, ∀ y ∈ s.p, y < B256) (g2 : l.length < 900) (g3 : ev.length + 2000000 * s0.p.length < 1099511627776) (hZ0 : Holds w0 Z0) (hO0 : Off (bks Lt) Z0) (hs_s : Shs Z0 46 49 s l) (hG : Cells Z0 0 0 gC) (hT : Tp t ev Lt) (hL0 : St (bks Lt) w0 w0 Lt []) : Calls Tryz.prog 23 #[t, s] w0 (Ret fun uu w' => ∃ (Lt' : List Ent), uu = .tuple #[.bool (conB F l s0.t s0.p.length), .int .i64 0] ∧ Tp t (ev ++ (aEv (l).length s0.t s0.p.length)) Lt' ∧ St (bks Lt) w0 w' ([] ++ Lt') []) := by
 have hF := g0.ok
 have hlen := sl_lt (f := cS) (k := 5) (fun _ => rfl) (by decide) hs_s.1
 have hl0 : 0 < l.length := (List.getElem?_eq_some_iff.1 g0.h0).1
 have hs0 := (List.getElem?_eq_some_iff.1 g0.h0).2
 have h0m : s0 ∈ l := List.mem_of_getElem? g0.h0
 have h0f := (g0.hd s0 h0m).1
 have hpl0 := sl_lt (f := el) (k := 4) (fun _ => rfl) (by decide) (hs_s.2 s0 h0m)
 have hml := mskL_len F l s0.t s0.p.length
 refine calls_of Tryz.func23 rfl Tryz.ntmps23 (Nat.le_of_ble_eq_true rfl) ?_
 have hS0 := hL0
 refine C_sr ?_
 refine sqv (ex_assign (v := .bool false) rfl) ?_
 refine sqv (ex_assign (v := .int .i64 0) rfl) ?_
 show C _ _ _ _ _ _
 refine C_sr ?_
 refine sqv (ex_move (v := t) rfl) ?_
 refine sqv (ex_move (v := s) rfl) ?_
 refine sqc (exe_call (args := #[t, s]) en62 (args_of2 rfl rfl)) (c_masks F s0 s l Z0 t ev Lt w0 g0 g1 g2 (by omega) (hS0.holdsA hZ0 hO0) (St.off0 (Lf := []) hS0 hZ0 hO0) (hs_s) (hG) hT (St.lend (Lf := []) hS0)) ?_
 rintro _ W1 ⟨v5, en6, Lt8, rfl, hp7, hU9, hT3⟩
 have hS2 := St.callS (Lf := []) (Ln := [en6]) hS0 hT3
 refine sqv (ex_move (v := .tuple #[v5, .int .i64 0]) rfl) ?_
 refine sqv (ex_extract (v := v5) rfl rfl) ?_
 refine sqv (ex_extract (v := .int .i64 0) rfl rfl) ?_
 refine sqv (ex_assign (v := v5) rfl) ?_
 refine sqv (ex_assign (v := .int .i64 0) rfl) ?_
 show C _ _ _ _ _ _
 refine C_seq ?_
 refine C_sr ?_
 refine sqv (ex_move (v := .int .i64 0) rfl) ?_
 refine sqv (ex_cmp (x := 0) (y := 0) (r := false) rfl rfl rfl) ?_
 show C _ _ _ _ _ _
 refine C_false rfl ?_
 refine C_skip ?_
 show C _ _ _ _ _ _
 refine C_sr ?_
 refine sqv (ex_assign (v := .int .u64 18446744073709551615) rfl) ?_
 show C _ _ _ _ _ _
 refine C_seq ?_
 refine C_sr ?_
 refine sqv (ex_move (v := v5) rfl) ?_
 refine sqv (ex_lenW (r := ((mskL F l s0.t s0.p.length).length : Int)) hp7 rfl sl100 rfl) ?_
 refine sqv (ex_move (v := .int .i64 0) rfl) ?_
 show C _ _ _ _ _ _
 refine C_block ?_
 refine C_loop (fun nn aa ww => ∃ (m0 : Nat → Value) (k : Nat) (b : Bool) (Lu : List Ent), nn = s0.p.length - k ∧ aa = act 32 (upds m0 [(4, .bool false), (5, .int .i64 0), (8, .int .u64 (mk b)), (20, v5), (21, .int .i64 ((mskL F l s0.t s0.p.length).length : Int)), (22, .int .i64 (k : Int))]) [] ∧ St (bks Lt) w0 ww ([en6] ++ Lu) [] ∧ (k ≤ s0.p.length) ∧ (b = conB F l s0.t k) ∧ (Tp t (ev ++ aEv l.length s0.t s0.p.length) Lu)) s0.p.length ?_ ?_
 ·exact ⟨_, 0, true, Lt8, rfl, act_upds ⟨rfl, (congrArg (Value.int .i64) (by first | rfl | omega)), (congrArg (Value.int .u64) (by first | rfl | omega)), rfl, (congrArg (Value.int .i64) (by first | rfl | omega)), (congrArg (Value.int .i64) (by first | rfl | omega)), trivial⟩, (St.pickB (Lf := [en6]) hS2 [0] (by decide) rfl), (Nat.zero_le _), rfl, hU9⟩
 rintro n13 a14 W11 ⟨m10, k, b, Lu, rfl, rfl, hS12, hk, hb, hUu⟩
 refine C_sr ?_
 refine sqv (ex_cmp (x := (k : Int)) (y := ((mskL F l s0.t s0.p.length).length : Int)) (r := decide ((k : Int) < ((mskL F l s0.t s0.p.length).length : Int))) rfl rfl rfl) ?_
 show C _ _ _ _ _ _
 refine C_seq ?_
 refine C_dec ((k : Int) < ((mskL F l s0.t s0.p.length).length : Int)) rfl (fun hc15 => ?_) (fun hc15 => ?_)
 ·refine C_skip ?_
  show C _ _ _ _ _ _
  refine C_seq ?_
  refine C_block ?_
  refine C_sr ?_
  obtain ⟨y16, hy17⟩ := get_lt (mskL F l s0.t s0.p.length) k (by first | omega | (simp only [List.length_set, List.length_replicate, List.length_append, List.length_take, List.length_drop, List.length_cons, List.length_nil, List.length_map]; omega))
  obtain ⟨b18, o19, hI20, hC21⟩ := sl_at (f := cU) (k := 1) (fun _ => rfl) (by decide) ((hp7).slF) hy17
  refine sqv (ex_sindexO hI20 rfl rfl sl100 rfl) ?_
  refine sqv (ex_loadC (r := 0) (u := .int .u64 y16) hC21 (hS12.entH 0 rfl) rfl on39 rfl rfl) ?_
  obtain rfl : y16 = mk (fitB F (idxL l) (colL l k) s0.t) := Option.some.inj (hy17.symm.trans (mskL_get (by omega)))
  refine sqv (ex_assign (v := .int .u64 (mk (fitB F (idxL l) (colL l k) s0.t))) rfl) ?_
  show C _ _ _ _ _ _
  refine C_region ?_
  refine sqv (ex_move (v := .int .u64 (mk b)) rfl) ?_
  refine sqv (ex_move (v := .int .u64 (mk (fitB F (idxL l) (colL l k) s0.t))) rfl) ?_
  refine sqv (ex_bit (x := (mk b)) (y := (mk (fitB F (idxL l) (colL l k) s0.t))) (r := mk (b && (fitB F (idxL l) (colL l k) s0.t))) rfl rfl (mk_and b (fitB F (idxL l) (colL l k) s0.t)).symm) ?_
  refine sqv (ex_assign (v := .int .u64 (mk (b && (fitB F (idxL l) (colL l k) s0.t)))) rfl) ?_
  refine blk_normal ?_
  show C _ _ _ _ _ _
  refine C_region ?_
  refine nm ((k : Int) + 1) fun x22 hx22 => ?_
  refine sqv (ex_add (x := (k : Int)) (y := 1) rfl rfl (w64 hx22 (by omega))) ?_
  refine sqv (ex_move (v := .int .i64 x22) rfl) ?_
  exact ⟨_, (by omega), ⟨_, (k + 1), (b && (fitB F (idxL l) (colL l k) s0.t)), Lu, rfl, act_upds ⟨rfl, (congrArg (Value.int .i64) (by first | rfl | omega)), (congrArg (Value.int .u64) (by first | rfl | omega)), rfl, (congrArg (Value.int .i64) (by first | rfl | omega)), (congrArg (Value.int .i64) (by first | rfl | omega)), trivial⟩, (St.pickB (Lf := [en6]) hS12 [0] (by decide) rfl), (by omega), (con_step hb), hUu⟩⟩
 refine C_exit ?_
 refine thn_exit ?_
 refine thn_exit ?_
 refine blk_exit ?_
 show C _ _ _ _ _ _
 refine C_sr ?_
 refine sqv (ex_move (v := .int .u64 (mk b)) rfl) ?_
 refine sqv (ex_cmp (x := (mk b)) (y := 0) (r := decide ((mk b) ≠ 0)) rfl rfl rfl) ?_
 refine sqv (ex_assign (v := .bool (decide ((mk b) ≠ 0))) rfl) ?_
 refine sqv (ex_assign (v := .int .i64 0) rfl) ?_
 show C _ _ _ _ _ _
 refine C_ret ?_
 refine done_2 (v1 := .bool (decide ((mk b) ≠ 0))) (v2 := .int .i64 0) rfl rfl rfl ?_
 obtain rfl : k = s0.p.length := by omega
 exact ⟨_, by rw [ne_mk, hb], hUu, (St.pickB (Lf := [en6]) hS12 [] (by decide) rfl).less (fun _ h => absurd h (by simp))⟩
theorem c_Chunks (F : PrF) (s0 : Sh) (s : Value) (l : List Sh) (Z0 : List Fact) (t : Value) (ev : List Ev) (Lt : List Ent) (w0 : World) (g0 : Acc F l s0) (g1 : ∀ s ∈ l, ∀ y ∈ s.p, y < B256) (g2 : l.length < 900) (g3 : ev.length + 2000000 * s0.p.length < 1099511627776) (g4 : s0.p.length < 1000000) (hZ0 : Holds w0 Z0) (hO0 : Off (bks Lt) Z0) (hs_s : Shs Z0 46 49 s l) (hG : Cells Z0 0 0 gC) (hT : Tp t ev Lt) (hL0 : St (bks Lt) w0 w0 Lt []) : Calls Tryz.prog 24 #[t, s] w0 (Ret fun uu w' => ∃ (v : Value), ∃ (en : Ent), ∃ (Lt' : List Ent), uu = .tuple #[v, .int .i64 0] ∧ (Own 4 1 cT v (chuL F l s0.t s0.p.length) en) ∧ Tp t (ev ++ (aEv (l).length s0.t s0.p.length)) Lt' ∧ St (bks Lt) w0 w' ([en] ++ Lt') []) := by
 have hF := g0.ok
 have hlen := sl_lt (f := cS) (k := 5) (fun _ => rfl) (by decide) hs_s.1
 have hl0 : 0 < l.length := (List.getElem?_eq_some_iff.1 g0.h0).1
 have hs0 := (List.getElem?_eq_some_iff.1 g0.h0).2
 have h0m : s0 ∈ l := List.mem_of_getElem? g0.h0
 have h0f := (g0.hd s0 h0m).1
 have hpl0 := sl_lt (f := el) (k := 4) (fun _ => rfl) (by decide) (hs_s.2 s0 h0m)
 have hml := mskL_len F l s0.t s0.p.length
 refine calls_of Tryz.func24 rfl Tryz.ntmps24 (Nat.le_of_ble_eq_true rfl) ?_
 have hS0 := hL0
 refine C_sr ?_
 refine sqv (ex_assign (v := .slice none 0 0) rfl) ?_
 refine sqv (ex_assign (v := .int .i64 0) rfl) ?_
 show C _ _ _ _ _ _
 refine C_sr ?_
 refine sqv (ex_move (v := t) rfl) ?_
 refine sqv (ex_move (v := s) rfl) ?_
 refine sqc (exe_call (args := #[t, s]) en62 (args_of2 rfl rfl)) (c_masks F s0 s l Z0 t ev Lt w0 g0 g1 g2 (by omega) (hS0.holdsA hZ0 hO0) (St.off0 (Lf := []) hS0 hZ0 hO0) (hs_s) (hG) hT (St.lend (Lf := []) hS0)) ?_
 rintro _ W1 ⟨v5, en6, Lt8, rfl, hp7, hU9, hT3⟩
 have hS2 := St.callS (Lf := []) (Ln := [en6]) hS0 hT3
 refine sqv (ex_move (v := .tuple #[v5, .int .i64 0]) rfl) ?_
 refine sqv (ex_extract (v := v5) rfl rfl) ?_
 refine sqv (ex_extract (v := .int .i64 0) rfl rfl) ?_
 refine sqv (ex_assign (v := v5) rfl) ?_
 refine sqv (ex_assign (v := .int .i64 0) rfl) ?_
 show C _ _ _ _ _ _
 refine C_seq ?_
 refine C_sr ?_
 refine sqv (ex_move (v := .int .i64 0) rfl) ?_
 refine sqv (ex_cmp (x := 0) (y := 0) (r := false) rfl rfl rfl) ?_
 show C _ _ _ _ _ _
 refine C_false rfl ?_
 refine C_skip ?_
 show C _ _ _ _ _ _
 refine C_sr ?_
 refine sqv (ex_move (v := v5) rfl) ?_
 refine sqv (ex_lenW (r := ((mskL F l s0.t s0.p.length).length : Int)) hp7 rfl sl100 rfl) ?_
 refine sqE (st_makeM (f := cT) (k := 1) false ((mskL F l s0.t s0.p.length).length) hS2 sl53 ze4 (by rfl) rfl (by decide) rfl rfl rfl (by omega) (by omega)) fun b10 W11 hS12 => ?_
 refine sqv (ex_assign (v := .slice (so b10) ((mskL F l s0.t s0.p.length).length) ((mskL F l s0.t s0.p.length).length)) rfl) ?_
 show C _ _ _ _ _ _
 refine C_seq ?_
 refine C_sr ?_
 refine sqv (ex_move (v := v5) rfl) ?_
 refine sqv (ex_lenW (r := ((mskL F l s0.t s0.p.length).length : Int)) hp7 rfl sl100 rfl) ?_
 refine sqv (ex_move (v := .int .i64 0) rfl) ?_
 show C _ _ _ _ _ _
 refine C_block ?_
 refine C_loop (fun nn aa ww => ∃ (m0 : Nat → Value) (k : Nat) (o : List Bool) (Lu : List Ent), nn = s0.p.length - k ∧ aa = act 37 (upds m0 [(4, .slice none 0 0), (5, .int .i64 0), (8, .slice (so b10) ((mskL F l s0.t s0.p.length).length) ((mskL F l s0.t s0.p.length).length)), (23, v5), (24, .int .i64 ((mskL F l s0.t s0.p.length).length : Int)), (25, .int .i64 (k : Int))]) [] ∧ St (bks Lt) w0 ww ([some (b10, .cells (o.flatMap cT).toArray 4), en6] ++ Lu) [] ∧ (k ≤ s0.p.length) ∧ (o.length = s0.p.length) ∧ (∀ j, j < k → o[j]? = some (fitB F (idxL l) (colL l j) s0.t)) ∧ (Tp t (ev ++ aEv l.length s0.t s0.p.length) Lu)) s0.p.length ?_ ?_
 ·exact ⟨_, 0, (List.replicate ((mskL F l s0.t s0.p.length).length) false), Lt8, rfl, act_upds ⟨rfl, (congrArg (Value.int .i64) (by first | rfl | omega)), rfl, rfl, (congrArg (Value.int .i64) (by first | rfl | omega)), (congrArg (Value.int .i64) (by first | rfl | omega)), trivial⟩, (St.pickB (Lf := [some (b10, .cells ((List.replicate ((mskL F l s0.t s0.p.length).length) false).flatMap cT).toArray 4), en6]) hS12 [0, 1] (by decide) rfl), (Nat.zero_le _), (by simp [mskL_len]), (fun j h => absurd h (by omega)), hU9⟩
 rintro n16 a17 W14 ⟨m13, k, o, Lu, rfl, rfl, hS15, hk, hol, ho, hUu⟩
 refine C_sr ?_
 refine sqv (ex_cmp (x := (k : Int)) (y := ((mskL F l s0.t s0.p.length).length : Int)) (r := decide ((k : Int) < ((mskL F l s0.t s0.p.length).length : Int))) rfl rfl rfl) ?_
 show C _ _ _ _ _ _
 refine C_seq ?_
 refine C_dec ((k : Int) < ((mskL F l s0.t s0.p.length).length : Int)) rfl (fun hc18 => ?_) (fun hc18 => ?_)
 ·refine C_skip ?_
  show C _ _ _ _ _ _
  refine C_seq ?_
  refine C_block ?_
  refine C_sr ?_
  refine sqv (ex_move (v := .int .i64 (k : Int)) rfl) ?_
  obtain ⟨y19, hy20⟩ := get_lt (mskL F l s0.t s0.p.length) k (by first | omega | (simp only [List.length_set, List.length_replicate, List.length_append, List.length_take, List.length_drop, List.length_cons, List.length_nil, List.length_map]; omega))
  obtain ⟨b21, o22, hI23, hC24⟩ := sl_at (f := cU) (k := 1) (fun _ => rfl) (by decide) ((hp7).slF) hy20
  refine sqv (ex_sindexO hI23 rfl rfl sl100 rfl) ?_
  refine sqv (ex_loadC (r := 0) (u := .int .u64 y19) hC24 (hS15.entH 1 rfl) rfl on39 rfl rfl) ?_
  obtain rfl : y19 = mk (fitB F (idxL l) (colL l k) s0.t) := Option.some.inj (hy20.symm.trans (mskL_get (by omega)))
  refine sqv (ex_assign (v := .int .i64 (k : Int)) rfl) ?_
  refine sqv (ex_assign (v := .int .u64 (mk (fitB F (idxL l) (colL l k) s0.t))) rfl) ?_
  show C _ _ _ _ _ _
  refine C_region ?_
  refine sqv (ex_move (v := .slice (so b10) ((mskL F l s0.t s0.p.length).length) ((mskL F l s0.t s0.p.length).length)) rfl) ?_
  refine sqv (ex_move (v := .int .i64 (k : Int)) rfl) ?_
  refine sqv (ex_move (v := .int .u64 (mk (fitB F (idxL l) (colL l k) s0.t))) rfl) ?_
  refine sqv (ex_cmp (x := (mk (fitB F (idxL l) (colL l k) s0.t))) (y := 0) (r := decide ((mk (fitB F (idxL l) (colL l k) s0.t)) ≠ 0)) rfl rfl rfl) ?_
  refine sqv (ex_sindex (j := (k : Int)) (o' := k * 1) rfl rfl sl53 (by omega) (by omega) (by omega)) ?_
  refine sqUE (st_storeM (f := cT) (z := decide ((mk (fitB F (idxL l) (colL l k) s0.t)) ≠ 0)) (i' := k) (fun _ => rfl) 0 hS15 rfl rfl rfl on4 rfl (by first | omega | (simp only [List.length_set, List.length_replicate, List.length_append, List.length_take, List.length_drop]; omega)) rfl rfl rfl) fun W25 hS26 => ?_
  refine blk_normal ?_
  show C _ _ _ _ _ _
  refine C_region ?_
  refine nm ((k : Int) + 1) fun x27 hx27 => ?_
  refine sqv (ex_add (x := (k : Int)) (y := 1) rfl rfl (w64 hx27 (by omega))) ?_
  refine sqv (ex_move (v := .int .i64 x27) rfl) ?_
  exact ⟨_, (by omega), ⟨_, (k + 1), (o.set k (decide ((mk (fitB F (idxL l) (colL l k) s0.t)) ≠ 0))), Lu, rfl, act_upds ⟨rfl, (congrArg (Value.int .i64) (by first | rfl | omega)), rfl, rfl, (congrArg (Value.int .i64) (by first | rfl | omega)), (congrArg (Value.int .i64) (by first | rfl | omega)), trivial⟩, (St.pickB (Lf := [some (b10, .cells ((o.set k (decide ((mk (fitB F (idxL l) (colL l k) s0.t)) ≠ 0))).flatMap cT).toArray 4), en6]) hS26 [0, 1] (by decide) rfl), (by omega), (by rw [List.length_set]; exact hol), (set_belowB ho (by omega) (ne_mk _)), hUu⟩⟩
 refine C_exit ?_
 refine thn_exit ?_
 refine thn_exit ?_
 refine blk_exit ?_
 show C _ _ _ _ _ _
 refine C_sr ?_
 refine sqv (ex_move (v := .slice (so b10) ((mskL F l s0.t s0.p.length).length) ((mskL F l s0.t s0.p.length).length)) rfl) ?_
 refine sqv (ex_assign (v := .slice (so b10) ((mskL F l s0.t s0.p.length).length) ((mskL F l s0.t s0.p.length).length)) rfl) ?_
 refine sqv (ex_assign (v := .int .i64 0) rfl) ?_
 show C _ _ _ _ _ _
 refine C_ret ?_
 refine done_2 (v1 := .slice (so b10) ((mskL F l s0.t s0.p.length).length) ((mskL F l s0.t s0.p.length).length)) (v2 := .int .i64 0) rfl rfl rfl ?_
 obtain rfl : k = s0.p.length := by omega
 exact ⟨_, _, _, rfl, by rw [chu_all hol ho]; exact Own.of (fun _ => rfl) (by omega) rfl (by simp only [maxLen]; omega), hUu, (St.pickB (Lf := [some (b10, .cells (o.flatMap cT).toArray 4), en6]) hS15 [0] (by decide) rfl).less (fun _ h => absurd h (by simp))⟩
theorem c_masksE  (s : Value) (l : List Sh) (Z0 : List Fact) (t : Value) (ev : List Ev) (Lt : List Ent) (w0 : World) (g0 : ckShs l ≠ 0) (g1 : ∀ s ∈ l, ∀ y ∈ s.p, y < B256) (g2 : l.length < 900) (hZ0 : Holds w0 Z0) (hO0 : Off (bks Lt) Z0) (hs_s : Shs Z0 46 49 s l) (hG : Cells Z0 0 0 gC) (hT : Tp t ev Lt) (hL0 : St (bks Lt) w0 w0 Lt []) : Calls Tryz.prog 62 #[t, s] w0 (Ret fun uu w' => ∃ (Lt' : List Ent), uu = .tuple #[.slice none 0 0, .int .i64 (ckShs l)] ∧ Tp t (ev ++ ([])) Lt' ∧ St (bks Lt) w0 w' ([] ++ Lt') []) := by
 refine calls_of Tryz.func62 rfl Tryz.ntmps62 (Nat.le_of_ble_eq_true rfl) ?_
 have hS0 := hL0
 refine C_sr ?_
 refine sqE (st_box (v := t) (cs := #[t]) hS0 rfl (tape_1 hT).1) fun b1 W2 hS3 => ?_
 refine sqE (st_box (v := s) (cs := #[s]) hS3 rfl (sl_1 ((hs_s).1)).1) fun b4 W5 hS6 => ?_
 refine sqv (ex_assign (v := .slice none 0 0) rfl) ?_
 refine sqv (ex_assign (v := .int .i64 0) rfl) ?_
 show C _ _ _ _ _ _
 refine C_seq ?_
 refine C_sr ?_
 refine sqv (ex_load (v := s) rfl (hS6.at 0 rfl) on22 rfl) ?_
 refine sqc (exe_call (args := #[s]) en51 (args_of1 rfl)) (c_CheckShares s l Z0 W5 g1 (by omega) (hS6.holdsA hZ0 hO0) (hs_s) (hG)) ?_
 rintro _ W7 ⟨rfl, hT9⟩
 have hS8 := hS6.call hT9
 refine sqv (ex_assign (v := .int .i64 (ckShs l)) rfl) ?_
 show C _ _ _ _ _ _
 refine C_sr ?_
 refine sqv (ex_move (v := .int .i64 (ckShs l)) rfl) ?_
 refine sqv (ex_cmp (x := (ckShs l)) (y := 0) (r := decide ((ckShs l) ≠ 0)) rfl rfl rfl) ?_
 show C _ _ _ _ _ _
 refine C_dec ((ckShs l) ≠ 0) rfl (fun hc11 => ?_) (fun hc11 => ?_)
 ·refine C_sr ?_
  refine sqv (ex_move (v := .int .i64 (ckShs l)) rfl) ?_
  refine sqv (ex_assign (v := .slice none 0 0) rfl) ?_
  refine sqv (ex_assign (v := .int .i64 (ckShs l)) rfl) ?_
  show C _ _ _ _ _ _
  refine C_ret ?_
  refine thn_ret ?_
  refine done_2 (v1 := .slice none 0 0) (v2 := .int .i64 (ckShs l)) rfl rfl rfl ?_
  exact ⟨_, rfl, (by simpa only [List.append_nil, List.nil_append] using hT), (St.pickB (Lf := [some (b4, .cells #[s] 22), some (b1, .cells #[t] 58)]) hS8 [] (by decide) rfl).less (fun _ h => absurd h (by simp))⟩
 exact absurd g0 (by assumption)
theorem c_ConsistentE  (s : Value) (l : List Sh) (Z0 : List Fact) (t : Value) (ev : List Ev) (Lt : List Ent) (w0 : World) (g0 : ckShs l ≠ 0) (g1 : ∀ s ∈ l, ∀ y ∈ s.p, y < B256) (g2 : l.length < 900) (hZ0 : Holds w0 Z0) (hO0 : Off (bks Lt) Z0) (hs_s : Shs Z0 46 49 s l) (hG : Cells Z0 0 0 gC) (hT : Tp t ev Lt) (hL0 : St (bks Lt) w0 w0 Lt []) : Calls Tryz.prog 23 #[t, s] w0 (Ret fun uu w' => ∃ (Lt' : List Ent), uu = .tuple #[.bool false, .int .i64 (ckShs l)] ∧ Tp t (ev ++ ([])) Lt' ∧ St (bks Lt) w0 w' ([] ++ Lt') []) := by
 refine calls_of Tryz.func23 rfl Tryz.ntmps23 (Nat.le_of_ble_eq_true rfl) ?_
 have hS0 := hL0
 refine C_sr ?_
 refine sqv (ex_assign (v := .bool false) rfl) ?_
 refine sqv (ex_assign (v := .int .i64 0) rfl) ?_
 show C _ _ _ _ _ _
 refine C_sr ?_
 refine sqv (ex_move (v := t) rfl) ?_
 refine sqv (ex_move (v := s) rfl) ?_
 refine sqc (exe_call (args := #[t, s]) en62 (args_of2 rfl rfl)) (c_masksE s l Z0 t ev Lt w0 g0 g1 g2 (hS0.holdsA hZ0 hO0) (St.off0 (Lf := []) hS0 hZ0 hO0) (hs_s) (hG) hT (St.lend (Lf := []) hS0)) ?_
 rintro _ W1 ⟨Lt5, rfl, hU6, hT3⟩
 have hS2 := St.callS (Lf := []) (Ln := []) hS0 hT3
 refine sqv (ex_move (v := .tuple #[.slice none 0 0, .int .i64 (ckShs l)]) rfl) ?_
 refine sqv (ex_extract (v := .slice none 0 0) rfl rfl) ?_
 refine sqv (ex_extract (v := .int .i64 (ckShs l)) rfl rfl) ?_
 refine sqv (ex_assign (v := .slice none 0 0) rfl) ?_
 refine sqv (ex_assign (v := .int .i64 (ckShs l)) rfl) ?_
 show C _ _ _ _ _ _
 refine C_seq ?_
 refine C_sr ?_
 refine sqv (ex_move (v := .int .i64 (ckShs l)) rfl) ?_
 refine sqv (ex_cmp (x := (ckShs l)) (y := 0) (r := decide ((ckShs l) ≠ 0)) rfl rfl rfl) ?_
 show C _ _ _ _ _ _
 refine C_dec ((ckShs l) ≠ 0) rfl (fun hc7 => ?_) (fun hc7 => ?_)
 ·refine C_sr ?_
  refine sqv (ex_move (v := .int .i64 (ckShs l)) rfl) ?_
  refine sqv (ex_assign (v := .bool false) rfl) ?_
  refine sqv (ex_assign (v := .int .i64 (ckShs l)) rfl) ?_
  show C _ _ _ _ _ _
  refine C_ret ?_
  refine thn_ret ?_
  refine done_2 (v1 := .bool false) (v2 := .int .i64 (ckShs l)) rfl rfl rfl ?_
  exact ⟨_, rfl, (by simpa only [List.append_nil, List.nil_append] using hU6), (St.pickB (Lf := []) hS2 [] (by decide) rfl).less (fun _ h => absurd h (by simp))⟩
 exact absurd g0 (by assumption)
theorem c_ChunksE  (s : Value) (l : List Sh) (Z0 : List Fact) (t : Value) (ev : List Ev) (Lt : List Ent) (w0 : World) (g0 : ckShs l ≠ 0) (g1 : ∀ s ∈ l, ∀ y ∈ s.p, y < B256) (g2 : l.length < 900) (hZ0 : Holds w0 Z0) (hO0 : Off (bks Lt) Z0) (hs_s : Shs Z0 46 49 s l) (hG : Cells Z0 0 0 gC) (hT : Tp t ev Lt) (hL0 : St (bks Lt) w0 w0 Lt []) : Calls Tryz.prog 24 #[t, s] w0 (Ret fun uu w' => ∃ (Lt' : List Ent), uu = .tuple #[.slice none 0 0, .int .i64 (ckShs l)] ∧ Tp t (ev ++ ([])) Lt' ∧ St (bks Lt) w0 w' ([] ++ Lt') []) := by
 refine calls_of Tryz.func24 rfl Tryz.ntmps24 (Nat.le_of_ble_eq_true rfl) ?_
 have hS0 := hL0
 refine C_sr ?_
 refine sqv (ex_assign (v := .slice none 0 0) rfl) ?_
 refine sqv (ex_assign (v := .int .i64 0) rfl) ?_
 show C _ _ _ _ _ _
 refine C_sr ?_
 refine sqv (ex_move (v := t) rfl) ?_
 refine sqv (ex_move (v := s) rfl) ?_
 refine sqc (exe_call (args := #[t, s]) en62 (args_of2 rfl rfl)) (c_masksE s l Z0 t ev Lt w0 g0 g1 g2 (hS0.holdsA hZ0 hO0) (St.off0 (Lf := []) hS0 hZ0 hO0) (hs_s) (hG) hT (St.lend (Lf := []) hS0)) ?_
 rintro _ W1 ⟨Lt5, rfl, hU6, hT3⟩
 have hS2 := St.callS (Lf := []) (Ln := []) hS0 hT3
 refine sqv (ex_move (v := .tuple #[.slice none 0 0, .int .i64 (ckShs l)]) rfl) ?_
 refine sqv (ex_extract (v := .slice none 0 0) rfl rfl) ?_
 refine sqv (ex_extract (v := .int .i64 (ckShs l)) rfl rfl) ?_
 refine sqv (ex_assign (v := .slice none 0 0) rfl) ?_
 refine sqv (ex_assign (v := .int .i64 (ckShs l)) rfl) ?_
 show C _ _ _ _ _ _
 refine C_seq ?_
 refine C_sr ?_
 refine sqv (ex_move (v := .int .i64 (ckShs l)) rfl) ?_
 refine sqv (ex_cmp (x := (ckShs l)) (y := 0) (r := decide ((ckShs l) ≠ 0)) rfl rfl rfl) ?_
 show C _ _ _ _ _ _
 refine C_dec ((ckShs l) ≠ 0) rfl (fun hc7 => ?_) (fun hc7 => ?_)
 ·refine C_sr ?_
  refine sqv (ex_move (v := .int .i64 (ckShs l)) rfl) ?_
  refine sqv (ex_assign (v := .slice none 0 0) rfl) ?_
  refine sqv (ex_assign (v := .int .i64 (ckShs l)) rfl) ?_
  show C _ _ _ _ _ _
  refine C_ret ?_
  refine thn_ret ?_
  refine done_2 (v1 := .slice none 0 0) (v2 := .int .i64 (ckShs l)) rfl rfl rfl ?_
  exact ⟨_, rfl, (by simpa only [List.append_nil, List.nil_append] using hU6), (St.pickB (Lf := []) hS2 [] (by decide) rfl).less (fun _ h => absurd h (by simp))⟩
 exact absurd g0 (by assumption)
theorem c_SuspectsE  (s : Value) (l : List Sh) (Z0 : List Fact) (t : Value) (ev : List Ev) (Lt : List Ent) (w0 : World) (g0 : ckShs l ≠ 0) (g1 : ∀ s ∈ l, ∀ y ∈ s.p, y < B256) (g2 : l.length < 900) (hZ0 : Holds w0 Z0) (hO0 : Off (bks Lt) Z0) (hs_s : Shs Z0 46 49 s l) (hG : Cells Z0 0 0 gC) (hT : Tp t ev Lt) (hL0 : St (bks Lt) w0 w0 Lt []) : Calls Tryz.prog 15 #[t, s] w0 (Ret fun uu w' => ∃ (Lt' : List Ent), uu = .tuple #[.slice none 0 0, .int .i64 (ckShs l)] ∧ Tp t (ev ++ ([])) Lt' ∧ St (bks Lt) w0 w' ([] ++ Lt') []) := by
 refine calls_of Tryz.func15 rfl Tryz.ntmps15 (Nat.le_of_ble_eq_true rfl) ?_
 have hS0 := hL0
 refine C_sr ?_
 refine sqv (ex_assign (v := .slice none 0 0) rfl) ?_
 refine sqv (ex_assign (v := .int .i64 0) rfl) ?_
 show C _ _ _ _ _ _
 refine C_seq ?_
 refine C_sr ?_
 refine sqv (ex_move (v := s) rfl) ?_
 refine sqc (exe_call (args := #[s]) en51 (args_of1 rfl)) (c_CheckShares s l Z0 w0 g1 (by omega) (hS0.holdsA hZ0 hO0) (hs_s) (hG)) ?_
 rintro _ W1 ⟨rfl, hT3⟩
 have hS2 := hS0.call hT3
 refine sqv (ex_assign (v := .int .i64 (ckShs l)) rfl) ?_
 show C _ _ _ _ _ _
 refine C_sr ?_
 refine sqv (ex_move (v := .int .i64 (ckShs l)) rfl) ?_
 refine sqv (ex_cmp (x := (ckShs l)) (y := 0) (r := decide ((ckShs l) ≠ 0)) rfl rfl rfl) ?_
 show C _ _ _ _ _ _
 refine C_dec ((ckShs l) ≠ 0) rfl (fun hc5 => ?_) (fun hc5 => ?_)
 ·refine C_sr ?_
  refine sqv (ex_move (v := .int .i64 (ckShs l)) rfl) ?_
  refine sqv (ex_assign (v := .slice none 0 0) rfl) ?_
  refine sqv (ex_assign (v := .int .i64 (ckShs l)) rfl) ?_
  show C _ _ _ _ _ _
  refine C_ret ?_
  refine thn_ret ?_
  refine done_2 (v1 := .slice none 0 0) (v2 := .int .i64 (ckShs l)) rfl rfl rfl ?_
  exact ⟨_, rfl, (by simpa only [List.append_nil, List.nil_append] using hT), (St.pickB (Lf := []) hS2 [] (by decide) rfl).less (fun _ h => absurd h (by simp))⟩
 exact absurd g0 (by assumption)
end Go.Proofs
end
