/- AuditEvents holds: the events that the audit records are those of the reference, for all arguments that the statement admits, with no further condition. Part 6 of 12. -/
import Derived.Test.YtfhpmpmmckkgbaaGreatDoorE5
set_option linter.unusedVariables false
set_option linter.unusedSimpArgs false
set_option linter.unusedSectionVars false
section
set_option linter.unusedVariables false
set_option linter.unusedSimpArgs false
set_option maxRecDepth 20000
set_option maxHeartbeats 2000000
namespace Go.Proofs
open Sc
theorem en115 : enters Tryz.prog 115 = true := by kernel_rfl
theorem en153 : enters Tryz.prog 153 = true := by kernel_rfl
theorem en177 : enters Tryz.prog 177 = true := by kernel_rfl
theorem sl100 : sliceOf Tryz.prog 100 = some (39, 1, 8) := by kernel_rfl
theorem ze39 : zeroOf Tryz.prog 39 = some #[.int .u64 0] := by kernel_rfl
theorem c_mIsZero  (l : Value) (xs : List Int) (Z0 : List Fact) (w0 : World) (g0 : ∀ y ∈ xs, 0 ≤ y ∧ y < 18446744073709551616) (hZ0 : Holds w0 Z0) (hs_l : Sl Z0 39 1 l (xs.flatMap cU)) : Calls Tryz.prog 153 #[l] w0 (Ret fun uu w' => uu = .int .u64 (mk ((xs).all fun y => decide (y = 0))) ∧ St [] w0 w' [] []) := by
 have hlen := sl_lt (f := cU) (k := 1) (fun _ => rfl) (by decide) hs_l
 refine calls_of Tryz.func153 rfl Tryz.ntmps153 (Nat.le_of_ble_eq_true rfl) ?_
 have hS0 := St.nil w0
 refine C_sr ?_
 refine sqv (ex_assign (v := .int .u64 0) rfl) ?_
 show C _ _ _ _ _ _
 refine C_sr ?_
 refine sqv (ex_assign (v := .int .u64 0) rfl) ?_
 show C _ _ _ _ _ _
 refine C_seq ?_
 refine C_sr ?_
 refine sqv (ex_move (v := l) rfl) ?_
 refine sqv (ex_lenO (f := cU) (k := 1) (r := (xs.length : Int)) (fun _ => rfl) (by decide) (hs_l) rfl sl100 rfl) ?_
 refine sqv (ex_move (v := .int .i64 0) rfl) ?_
 show C _ _ _ _ _ _
 refine C_block ?_
 refine C_loop (fun nn aa ww => ∃ (m0 : Nat → Value) (k : Nat) (u : Int), nn = xs.length - k ∧ aa = act 23 (upds m0 [(2, .int .u64 0), (3, .int .u64 u), (6, l), (7, .int .i64 (xs.length : Int)), (8, .int .i64 (k : Int))]) [] ∧ St [] w0 ww [] [] ∧ (k ≤ xs.length) ∧ (0 ≤ u ∧ u < 18446744073709551616) ∧ (u = 0 ↔ ∀ z ∈ xs.take k, z = 0)) xs.length ?_ ?_
 ·exact ⟨_, 0, 0, rfl, act_upds ⟨(congrArg (Value.int .u64) (by first | rfl | omega)), (congrArg (Value.int .u64) (by first | rfl | omega)), rfl, (congrArg (Value.int .i64) (by first | rfl | omega)), (congrArg (Value.int .i64) (by first | rfl | omega)), trivial⟩, (St.pick (L := []) hS0 [] (by decide)), (Nat.zero_le _), (by decide), (by simp)⟩
 rintro n4 a5 W2 ⟨m1, k, u, rfl, rfl, hS3, hk, hu, hz⟩
 refine C_sr ?_
 refine sqv (ex_cmp (x := (k : Int)) (y := (xs.length : Int)) (r := decide ((k : Int) < (xs.length : Int))) rfl rfl rfl) ?_
 show C _ _ _ _ _ _
 refine C_seq ?_
 refine C_dec ((k : Int) < (xs.length : Int)) rfl (fun hc6 => ?_) (fun hc6 => ?_)
 ·refine C_skip ?_
  show C _ _ _ _ _ _
  refine C_seq ?_
  refine C_block ?_
  refine C_sr ?_
  obtain ⟨y7, hy8⟩ := get_lt xs k (by first | omega | (simp only [List.length_set, List.length_replicate, List.length_append, List.length_take, List.length_drop, List.length_cons, List.length_nil, List.length_map]; omega))
  obtain ⟨b9, o10, hI11, hC12⟩ := sl_at (f := cU) (k := 1) (fun _ => rfl) (by decide) (hs_l) hy8
  refine sqv (ex_sindexO hI11 rfl rfl sl100 rfl) ?_
  refine sqv (ex_loadC (r := 0) (u := .int .u64 y7) hC12 (hS3.holds0 hZ0) rfl on39 rfl rfl) ?_
  refine sqv (ex_assign (v := .int .u64 y7) rfl) ?_
  show C _ _ _ _ _ _
  refine C_region ?_
  refine sqv (ex_move (v := .int .u64 u) rfl) ?_
  refine sqv (ex_move (v := .int .u64 y7) rfl) ?_
  refine nm (bitv .or .u64 u y7) fun x13 hx13 => ?_
  refine sqv (ex_bit (x := u) (y := y7) rfl rfl hx13) ?_
  refine sqv (ex_assign (v := .int .u64 x13) rfl) ?_
  refine blk_normal ?_
  show C _ _ _ _ _ _
  refine C_region ?_
  refine nm ((k : Int) + 1) fun x14 hx14 => ?_
  refine sqv (ex_add (x := (k : Int)) (y := 1) rfl rfl (w64 hx14 (by omega))) ?_
  refine sqv (ex_move (v := .int .i64 x14) rfl) ?_
  have ho := or_all hy8 hu (g0 _ (List.mem_of_getElem? hy8)) hz hx13
  exact ⟨_, (by omega), ⟨_, (k + 1), x13, rfl, act_upds ⟨(congrArg (Value.int .u64) (by first | rfl | omega)), (congrArg (Value.int .u64) (by first | rfl | omega)), rfl, (congrArg (Value.int .i64) (by first | rfl | omega)), (congrArg (Value.int .i64) (by first | rfl | omega)), trivial⟩, (St.pick (L := []) hS3 [] (by decide)), (by omega), ho.1, ho.2⟩⟩
 refine C_exit ?_
 refine thn_exit ?_
 refine thn_exit ?_
 refine blk_exit ?_
 show C _ _ _ _ _ _
 refine C_sr ?_
 refine sqv (ex_move (v := .int .u64 u) rfl) ?_
 refine sqv (ex_move (v := .int .u64 u) rfl) ?_
 refine nm ((0 - u) % 18446744073709551616) fun x15 hx15 => ?_
 refine sqv (ex_neg (x := u) rfl (wu64 hx15)) ?_
 refine nm (bitv .or .u64 u x15) fun x16 hx16 => ?_
 refine sqv (ex_bit (x := u) (y := x15) rfl rfl hx16) ?_
 refine nm (bitv .xor .u64 (if IntKind.signed .u64 = true then -1 else IntKind.max .u64) x16) fun x17 hx17 => ?_
 refine sqv (ex_com (x := x16) rfl hx17) ?_
 refine nm (Int.fdiv x17 (2 ^ (min (Int.toNat 63) (IntKind.bits .u64)))) fun x18 hx18 => ?_
 refine sqv (ex_shr (x := x17) (y := 63) rfl rfl (by omega) hx18) ?_
 obtain rfl : x18 = bI (decide (u = 0)) := zt_bI hu hx15 hx16 hx17 hx18
 refine sqc (exe_call (args := #[.int .u64 (bI (decide (u = 0)))]) en160 (args_of1 rfl)) (c_FromBit_b (decide (u = 0)) W2) ?_
 rintro _ W19 ⟨rfl, hT21⟩
 have hS20 := hS3.call hT21
 refine sqv (ex_assign (v := .int .u64 (mk (decide (u = 0)))) rfl) ?_
 show C _ _ _ _ _ _
 refine C_ret ?_
 refine done_1 (v := .int .u64 (mk (decide (u = 0)))) rfl rfl ?_
 obtain rfl : k = xs.length := by omega
 rw [List.take_length] at hz
 exact ⟨by rw [all_dec hz], hS20.none⟩
theorem c_mEqual (a : Int) (b : Int) (w0 : World) (g0 : 0 ≤ a ∧ a < 18446744073709551616) (g1 : 0 ≤ b ∧ b < 18446744073709551616) : Calls Tryz.prog 183 #[.int .u64 a, .int .u64 b] w0 (Ret fun uu w' => uu = .int .u64 (mk (decide (a = b))) ∧ St [] w0 w' [] []) := by
 refine calls_of Tryz.func183 rfl Tryz.ntmps183 (Nat.le_of_ble_eq_true rfl) ?_
 have hS0 := St.nil w0
 refine C_sr ?_
 refine sqv (ex_assign (v := .int .u64 0) rfl) ?_
 show C _ _ _ _ _ _
 refine C_sr ?_
 refine sqv (ex_move (v := .int .u64 a) rfl) ?_
 refine sqv (ex_move (v := .int .u64 b) rfl) ?_
 refine nm (bitv .xor .u64 a b) fun x1 hx1 => ?_
 refine sqv (ex_bit (x := a) (y := b) rfl rfl hx1) ?_
 refine sqE (st_bslice (vs := [.int .u64 x1]) hS0 sl100 ze39 rfl (by simp [Value.cells]) rfl (by decide)) fun b2 W3 hS4 => ?_
 refine sqc (exe_call (args := #[.slice (so b2) 1 1]) en153 (args_of1 rfl)) (c_mIsZero (.slice (so b2) 1 1) ([x1]) (entF (some (b2, .cells #[.int .u64 x1] 39))) W3 (by intro y hy; simp at hy; subst hy; rw [hx1]; exact bv_range .xor (by simp) _ _) (hS4.entH 0 rfl) ((sl_row (f := cU) (k := 1) (t := 39) (b := b2) (n := 1) (cs := #[.int .u64 x1]) (ys := [x1]) (fun _ => rfl) rfl (Nat.le_of_ble_eq_true rfl) rfl))) ?_
 rintro _ W5 ⟨rfl, hT7⟩
 have hS6 := hS4.call hT7
 refine sqv (ex_assign (v := .int .u64 (mk ((([x1])).all fun y => decide (y = 0)))) rfl) ?_
 show C _ _ _ _ _ _
 refine C_ret ?_
 refine done_1 (v := .int .u64 (mk ((([x1])).all fun y => decide (y = 0)))) rfl rfl ?_
 exact ⟨congrArg (Value.int .u64) (congrArg mk (by rw [Bool.eq_iff_iff]; simp [hx1, xor_zero' g0 g1])), (hS6.pick [] (by decide)).less (fun _ h => absurd h (by simp))⟩
theorem c_lIsZero (a : Nat) (w0 : World) (g0 : a < B256) : Calls Tryz.prog 177 #[elV a] w0 (Ret fun uu w' => uu = .int .u64 (mk (decide (a = 0))) ∧ St [] w0 w' [] []) := by
 refine calls_of Tryz.func177 rfl Tryz.ntmps177 (Nat.le_of_ble_eq_true rfl) ?_
 have hS0 := St.nil w0
 refine C_sr ?_
 refine sqE (st_box (v := elV a) (cs := (elA a)) hS0 rfl rfl) fun b1 W2 hS3 => ?_
 refine sqv (ex_assign (v := .int .u64 0) rfl) ?_
 show C _ _ _ _ _ _
 refine C_sr ?_
 refine sqv (ex_arrall (b := b1) rfl ar40) ?_
 refine sqc (exe_call (args := #[.slice (so b1) 4 4]) en153 (args_of1 rfl)) (c_mIsZero (.slice (so b1) 4 4) ([limb a 0, limb a 1, limb a 2, limb a 3]) (entF (some (b1, .cells (elA a) 40))) W2 (by intro y hy; simp at hy; rcases hy with rfl | rfl | rfl | rfl <;> exact ⟨limb_nonneg _ _, limb_lt _ _⟩) (hS3.entH 0 rfl) ((sl_row (f := cU) (k := 1) (t := 40) (b := b1) (n := 4) (cs := (elA a)) (ys := [limb a 0, limb a 1, limb a 2, limb a 3]) (fun _ => rfl) rfl (Nat.le_of_ble_eq_true rfl) rfl))) ?_
 rintro _ W4 ⟨rfl, hT6⟩
 have hS5 := hS3.call hT6
 refine sqv (ex_assign (v := .int .u64 (mk ((([limb a 0, limb a 1, limb a 2, limb a 3])).all fun y => decide (y = 0)))) rfl) ?_
 show C _ _ _ _ _ _
 refine C_ret ?_
 refine done_1 (v := .int .u64 (mk ((([limb a 0, limb a 1, limb a 2, limb a 3])).all fun y => decide (y = 0)))) rfl rfl ?_
 exact ⟨by rw [limbs_zero g0], hS5.none⟩
theorem c_mtIsZero (a : Nat) (w0 : World) (g0 : a < B256) : Calls Tryz.prog 164 #[elV a] w0 (Ret fun uu w' => uu = .int .u64 (mk (decide (a = 0))) ∧ St [] w0 w' [] []) := by
 refine calls_of Tryz.func164 rfl Tryz.ntmps164 (Nat.le_of_ble_eq_true rfl) ?_
 have hS0 := St.nil w0
 refine C_sr ?_
 refine sqE (st_box (v := elV a) (cs := (elA a)) hS0 rfl rfl) fun b1 W2 hS3 => ?_
 refine sqv (ex_assign (v := .int .u64 0) rfl) ?_
 show C _ _ _ _ _ _
 refine C_sr ?_
 refine sqv (ex_loads (vs := (el a)) rfl (hS3.at 0 rfl) ag49 rfl rfl) ?_
 refine sqc (exe_call (args := #[elV a]) en177 (args_of1 rfl)) (c_lIsZero a W2 g0) ?_
 rintro _ W4 ⟨rfl, hT6⟩
 have hS5 := hS3.call hT6
 refine sqv (ex_assign (v := .int .u64 (mk (decide (a = 0)))) rfl) ?_
 show C _ _ _ _ _ _
 refine C_ret ?_
 refine done_1 (v := .int .u64 (mk (decide (a = 0)))) rfl rfl ?_
 exact ⟨by subst_vars; rfl, hS5.none⟩
end Go.Proofs
end
section
set_option linter.unusedVariables false
set_option linter.unusedSimpArgs false
set_option maxRecDepth 20000
set_option maxHeartbeats 2000000
namespace Go.Proofs
open Sc
theorem en143 : enters Tryz.prog 143 = true := by kernel_rfl
theorem en144 : enters Tryz.prog 144 = true := by kernel_rfl
theorem en82 : enters Tryz.prog 82 = true := by kernel_rfl
theorem fi117_3 : fieldOf Tryz.prog 117 3 = some 6 := by kernel_rfl
theorem ik3 : intOf Tryz.prog 3 = some .i64 := by kernel_rfl
theorem ik39 : intOf Tryz.prog 39 = some .u64 := by kernel_rfl
theorem sl25 : sliceOf Tryz.prog 25 = some (3, 1, 8) := by kernel_rfl
theorem c_pMul (F : PrF) (a : Value) (as_ : List Nat) (b : Value) (bs : List Nat) (Z0 : List Fact) (w0 : World) (g0 : FOk F) (g1 : ∀ y ∈ as_, y < F.p) (g2 : ∀ y ∈ bs, y < F.p) (g3 : as_.length + bs.length < 1000000) (hZ0 : Holds w0 Z0) (hs_a : Sl Z0 49 4 a (as_.flatMap el)) (hs_b : Sl Z0 49 4 b (bs.flatMap el)) : Calls Tryz.prog 143 #[.pointer none, fdV F, a, b] w0 (Ret fun uu w' => ∃ (v : Value), ∃ (en : Ent), uu = v ∧ (Own 49 4 el v (pMul F as_ bs) en) ∧ St [] w0 w' [en] []) := by
 have hF := g0
 refine calls_of Tryz.func143 rfl Tryz.ntmps143 (Nat.le_of_ble_eq_true rfl) ?_
 have hS0 := St.nil w0
 refine C_sr ?_
 refine sqE (st_box (v := fdV F) (cs := (fdA F)) hS0 rfl rfl) fun b1 W2 hS3 => ?_
 refine sqv (ex_assign (v := .slice none 0 0) rfl) ?_
 show C _ _ _ _ _ _
 refine C_seq ?_
 refine C_sr ?_
 refine sqv (ex_move (v := a) rfl) ?_
 refine sqv (ex_lenO (f := el) (k := 4) (r := (as_.length : Int)) (fun _ => rfl) (by decide) (hs_a) rfl sl44 rfl) ?_
 refine nm (decide ((as_.length : Int) = 0)) fun t4 ht4 => ?_
 refine sqv (ex_cmp (x := (as_.length : Int)) (y := 0) rfl rfl ht4) ?_
 refine sqv (ex_move (v := .bool t4) rfl) ?_
 rcases bool_cases t4 with hb5 | hb5
 ·subst hb5
  have hb5 := of_decide_eq_true ht4.symm
  refine guard_no (b' := true) rfl rfl (by decide) ?_
  refine guard_no (b' := true) rfl rfl (by decide) ?_
  refine guard_no (b' := true) rfl rfl (by decide) ?_
  refine sqv (ex_pick (t := true) (v := .bool true) rfl rfl) ?_
  show C _ _ _ _ _ _
  refine C_true rfl ?_
  refine C_sr ?_
  refine sqv (ex_assign (v := .slice none 0 0) rfl) ?_
  show C _ _ _ _ _ _
  refine C_ret ?_
  refine thn_ret ?_
  refine done_1 (v := .slice none 0 0) rfl rfl ?_
  exact ⟨_, none, rfl, by rw [show pMul F as_ bs = [] from by unfold pMul; rw [if_pos (by omega)]]; exact Own.nil _ _ _, hS3.none.non⟩
 subst hb5
 have hb5 := of_decide_eq_false ht4.symm
 refine guard_yes (b := false) rfl rfl ?_
 refine sqv (ex_move (v := b) rfl) ?_
 refine guard_yes (b := false) rfl rfl ?_
 refine sqv (ex_lenO (f := el) (k := 4) (r := (bs.length : Int)) (fun _ => rfl) (by decide) (hs_b) rfl sl44 rfl) ?_
 refine guard_yes (b := false) rfl rfl ?_
 refine nm (decide ((bs.length : Int) = 0)) fun t6 ht6 => ?_
 refine sqv (ex_cmp (x := (bs.length : Int)) (y := 0) rfl rfl ht6) ?_
 refine sqv (ex_pick (t := false) (v := .bool t6) rfl rfl) ?_
 show C _ _ _ _ _ _
 refine C_if (t := t6) rfl (fun hc7 => ?_) (fun hc7 => ?_)
 ·have hc7' := of_decide_eq_true (ht6.symm.trans hc7)
  refine C_sr ?_
  refine sqv (ex_assign (v := .slice none 0 0) rfl) ?_
  show C _ _ _ _ _ _
  refine C_ret ?_
  refine thn_ret ?_
  refine done_1 (v := .slice none 0 0) rfl rfl ?_
  exact ⟨_, none, rfl, by rw [show pMul F as_ bs = [] from by unfold pMul; rw [if_pos (by omega)]]; exact Own.nil _ _ _, hS3.none.non⟩
 have hc7' := of_decide_eq_false (ht6.symm.trans hc7)
 refine C_skip ?_
 show C _ _ _ _ _ _
 refine C_sr ?_
 refine sqv (ex_move (v := a) rfl) ?_
 refine sqv (ex_lenO (f := el) (k := 4) (r := (as_.length : Int)) (fun _ => rfl) (by decide) (hs_a) rfl sl44 rfl) ?_
 refine sqv (ex_move (v := b) rfl) ?_
 refine sqv (ex_lenO (f := el) (k := 4) (r := (bs.length : Int)) (fun _ => rfl) (by decide) (hs_b) rfl sl44 rfl) ?_
 refine nm ((as_.length : Int) + (bs.length : Int)) fun x8 hx8 => ?_
 refine sqv (ex_add (x := (as_.length : Int)) (y := (bs.length : Int)) rfl rfl (w64 hx8 (by omega))) ?_
 refine nm (x8 - 1) fun x9 hx9 => ?_
 refine sqv (ex_sub (x := x8) (y := 1) rfl rfl (w64 hx9 (by omega))) ?_
 obtain ⟨j13, hj14⟩ := ex_nat x9 (by omega)
 refine sqE (st_makeM (f := el) (k := 4) 0 j13 hS3 sl44 ze49 (by rfl) rfl (by decide) rfl rfl (by omega) (by omega) (by omega)) fun b10 W11 hS12 => ?_
 refine sqv (ex_assign (v := .slice (so b10) j13 j13) rfl) ?_
 show C _ _ _ _ _ _
 refine C_seq ?_
 refine C_sr ?_
 refine sqv (ex_move (v := a) rfl) ?_
 refine sqv (ex_lenO (f := el) (k := 4) (r := (as_.length : Int)) (fun _ => rfl) (by decide) (hs_a) rfl sl44 rfl) ?_
 refine sqv (ex_move (v := .int .i64 0) rfl) ?_
 show C _ _ _ _ _ _
 refine C_block ?_
 refine C_loop (fun nn aa ww => ∃ (m0 : Nat → Value) (i : Nat) (o : List Nat), nn = as_.length - i ∧ aa = act 67 (upds m0 [(0, .pointer none), (3, b), (5, pt b1), (8, .slice none 0 0), (9, .slice (so b10) j13 j13), (29, a), (30, .int .i64 (as_.length : Int)), (31, .int .i64 (i : Int))]) [] ∧ St [] w0 ww [some (b10, .cells (o.flatMap el).toArray 49), some (b1, .cells (fdA F) 117)] [] ∧ (i ≤ as_.length) ∧ (o.length = j13) ∧ (mulAll F (as_.drop i) bs i o = mulAll F as_ bs 0 (List.replicate j13 0)) ∧ (∀ z ∈ o, z < F.p)) as_.length ?_ ?_
 ·exact ⟨_, 0, (List.replicate j13 0), rfl, act_upds ⟨rfl, rfl, rfl, rfl, rfl, rfl, (congrArg (Value.int .i64) (by first | rfl | omega)), (congrArg (Value.int .i64) (by first | rfl | omega)), trivial⟩, (St.pick (L := [some (b10, .cells ((List.replicate j13 0).flatMap el).toArray 49), some (b1, .cells (fdA F) 117)]) hS12 [0, 1] (by decide)), (Nat.zero_le _), (by simp), rfl, (all_rep (p_pos hF))⟩
 rintro n18 a19 W16 ⟨m15, i, o, rfl, rfl, hS17, hi, hol, ho, hop⟩
 refine C_sr ?_
 refine sqv (ex_cmp (x := (i : Int)) (y := (as_.length : Int)) (r := decide ((i : Int) < (as_.length : Int))) rfl rfl rfl) ?_
 show C _ _ _ _ _ _
 refine C_seq ?_
 refine C_dec ((i : Int) < (as_.length : Int)) rfl (fun hc20 => ?_) (fun hc20 => ?_)
 ·refine C_skip ?_
  show C _ _ _ _ _ _
  refine C_seq ?_
  refine C_block ?_
  refine C_sr ?_
  refine sqv (ex_move (v := .int .i64 (i : Int)) rfl) ?_
  obtain ⟨y21, hy22⟩ := get_lt as_ i (by first | omega | (simp only [List.length_set, List.length_replicate, List.length_append, List.length_take, List.length_drop, List.length_cons, List.length_nil, List.length_map]; omega))
  have hky21 := g1 y21 (List.mem_of_getElem? hy22)
  obtain ⟨b23, o24, hI25, hC26⟩ := sl_at (f := el) (k := 4) (fun _ => rfl) (by decide) (hs_a) hy22
  refine sqv (ex_sindexO hI25 rfl rfl sl44 rfl) ?_
  refine sqv (ex_loadsC (r := 0) (vs := (el y21)) hC26 (hS17.holds0 hZ0) rfl ag49 rfl rfl rfl) ?_
  refine sqE (st_alloc hS17 ze49) fun b27 W28 hS29 => ?_
  refine sqv (ex_assign (v := .int .i64 (i : Int)) rfl) ?_
  refine sqUE (st_stores (v := elV y21) (cs' := (elA y21)) 0 hS29 rfl rfl rfl ag49 rfl (Nat.le_of_ble_eq_true rfl) (ones_of rfl) rfl) fun W30 hS31 => ?_
  show C _ _ _ _ _ _
  refine C_sr ?_
  refine sqv (ex_move (v := b) rfl) ?_
  refine sqv (ex_lenO (f := el) (k := 4) (r := (bs.length : Int)) (fun _ => rfl) (by decide) (hs_b) rfl sl44 rfl) ?_
  refine sqv (ex_move (v := .int .i64 0) rfl) ?_
  show C _ _ _ _ _ _
  refine C_block ?_
  refine C_loop (fun nn aa ww => ∃ (m0 : Nat → Value) (k : Nat) (o2 : List Nat), nn = bs.length - k ∧ aa = act 67 (upds m0 [(0, .pointer none), (3, b), (5, pt b1), (8, .slice none 0 0), (9, .slice (so b10) j13 j13), (10, .int .i64 (i : Int)), (11, pt b27), (29, a), (30, .int .i64 (as_.length : Int)), (31, .int .i64 (i : Int)), (36, b), (37, .int .i64 (bs.length : Int)), (38, .int .i64 (k : Int))]) [] ∧ St [] w0 ww [some (b10, .cells (o2.flatMap el).toArray 49), some (b27, .cells (elA y21) 49), some (b1, .cells (fdA F) 117)] [] ∧ (k ≤ bs.length) ∧ (o2.length = j13) ∧ (mulRow F y21 (bs.drop k) (i + k) o2 = mulRow F y21 bs i o) ∧ (∀ z ∈ o2, z < F.p)) bs.length ?_ ?_
  ·exact ⟨_, 0, o, rfl, act_upds ⟨rfl, rfl, rfl, rfl, rfl, (congrArg (Value.int .i64) (by first | rfl | omega)), rfl, rfl, (congrArg (Value.int .i64) (by first | rfl | omega)), (congrArg (Value.int .i64) (by first | rfl | omega)), rfl, (congrArg (Value.int .i64) (by first | rfl | omega)), (congrArg (Value.int .i64) (by first | rfl | omega)), trivial⟩, (St.pick (L := [some (b27, .cells (elA y21) 49), some (b10, .cells (o.flatMap el).toArray 49), some (b1, .cells (fdA F) 117)]) hS31 [1, 0, 2] (by decide)), (Nat.zero_le _), hol, rfl, hop⟩
  rintro n35 a36 W33 ⟨m32, k, o2, rfl, rfl, hS34, hk, hol2, h2, hop2⟩
  refine C_sr ?_
  refine sqv (ex_cmp (x := (k : Int)) (y := (bs.length : Int)) (r := decide ((k : Int) < (bs.length : Int))) rfl rfl rfl) ?_
  show C _ _ _ _ _ _
  refine C_seq ?_
  refine C_dec ((k : Int) < (bs.length : Int)) rfl (fun hc37 => ?_) (fun hc37 => ?_)
  ·refine C_skip ?_
   show C _ _ _ _ _ _
   refine C_seq ?_
   refine C_block ?_
   refine C_sr ?_
   refine sqv (ex_move (v := .int .i64 (k : Int)) rfl) ?_
   obtain ⟨y38, hy39⟩ := get_lt bs k (by first | omega | (simp only [List.length_set, List.length_replicate, List.length_append, List.length_take, List.length_drop, List.length_cons, List.length_nil, List.length_map]; omega))
   have hky38 := g2 y38 (List.mem_of_getElem? hy39)
   obtain ⟨b40, o41, hI42, hC43⟩ := sl_at (f := el) (k := 4) (fun _ => rfl) (by decide) (hs_b) hy39
   refine sqv (ex_sindexO hI42 rfl rfl sl44 rfl) ?_
   refine sqv (ex_loadsC (r := 0) (vs := (el y38)) hC43 (hS34.holds0 hZ0) rfl ag49 rfl rfl rfl) ?_
   refine sqE (st_alloc hS34 ze49) fun b44 W45 hS46 => ?_
   refine sqv (ex_assign (v := .int .i64 (k : Int)) rfl) ?_
   refine sqUE (st_stores (v := elV y38) (cs' := (elA y38)) 0 hS46 rfl rfl rfl ag49 rfl (Nat.le_of_ble_eq_true rfl) (ones_of rfl) rfl) fun W47 hS48 => ?_
   show C _ _ _ _ _ _
   refine C_sr ?_
   refine sqv (ex_move (v := .pointer none) rfl) ?_
   refine sqv (ex_move (v := .int .i64 (i : Int)) rfl) ?_
   refine sqv (ex_move (v := .int .i64 (k : Int)) rfl) ?_
   refine sqc (exe_call (args := #[.pointer none, .int .i64 3, .int .i64 (i : Int), .int .i64 (k : Int)]) en52 (args_of4 rfl rfl rfl rfl)) (c_Note 3 (i : Int) (k : Int) (.pointer none) ([]) ([]) W47 (by first | omega | decide | (simp; omega)) (Tape.nil _ _ _ _) (St.nil _)) ?_
   rintro _ W49 ⟨Lt53, rfl, hU54, hT51⟩
   obtain rfl := tape_nil hU54
   have hS50 := St.call (Ln := []) hS48 hT51
   show C _ _ _ _ _ _
   refine nm ((i : Int) + (k : Int)) fun x55 hx55 => ?_
   refine nm ((i : Int) + (k : Int)) fun x56 hx56 => ?_
   have hj57 : x56 = (((i + k) : Nat) : Int) := by omega
   obtain ⟨y58, hy59⟩ := get_lt o2 (i + k) (by first | omega | (simp only [List.length_set, List.length_replicate, List.length_append, List.length_take, List.length_drop, List.length_cons, List.length_nil, List.length_map]; omega))
   have hky58 := hop2 y58 (List.mem_of_getElem? hy59)
   refine C_draw (p := 16) (l := [(some 47, .slice (so b10) j13 j13), (some 48, .int .i64 (i : Int)), (some 49, .int .i64 (k : Int)), (some 50, .int .i64 x55), (some 51, fdV F), (some 52, .slice (so b10) j13 j13), (some 53, .int .i64 (i : Int)), (some 54, .int .i64 (k : Int)), (some 55, .int .i64 x56), (some 56, .pointer (some ⟨b10, (i + k) * 4, none⟩)), (some 57, elV y58), (some 58, fdV F), (some 59, elV y21), (some 60, elV y38), (some 61, elV (fMul F y21 y38)), (some 62, elV (fAdd F y58 (fMul F y21 y38)))]) (G := []) (J := fun w => St [] w0 w [some (b44, .cells (elA y38) 49), some (b10, .cells (o2.flatMap el).toArray 49), some (b27, .cells (elA y21) 49), some (b1, .cells (fdA F) 117)] []) mixed ?_ (hS50.draw _)
   refine node1 16 [] [] [] (by kernel_rfl) rfl rfl (nd rfl) rfl (by kernel_rfl) ?_ ?_ ?_
   ·intro S wd hSd
    refine ⟨n0 rfl rfl rfl (ex_move (v := .slice (so b10) j13 j13) rfl) rfl hSd, n0 rfl rfl rfl (ex_move (v := .int .i64 (i : Int)) rfl) rfl hSd, n0 rfl rfl rfl (ex_move (v := .int .i64 (k : Int)) rfl) rfl hSd, n2 rfl rfl rfl rfl (fun hq1 hq2 => (ex_add (x := (i : Int)) (y := (k : Int)) (evS hq1 rfl rfl) (evS hq2 rfl rfl) (w64 hx55 (by omega)))) rfl hSd, n0 rfl rfl rfl (ex_loads (vs := (fdC F)) rfl (hSd.at 3 rfl) ag117 rfl rfl) rfl hSd, n0 rfl rfl rfl (ex_move (v := .slice (so b10) j13 j13) rfl) rfl hSd, n0 rfl rfl rfl (ex_move (v := .int .i64 (i : Int)) rfl) rfl hSd, n0 rfl rfl rfl (ex_move (v := .int .i64 (k : Int)) rfl) rfl hSd, n2 rfl rfl rfl rfl (fun hq6 hq7 => (ex_add (x := (i : Int)) (y := (k : Int)) (evS hq6 rfl rfl) (evS hq7 rfl rfl) (w64 hx56 (by omega)))) rfl hSd, n2 rfl rfl rfl rfl (fun hq5 hq8 => (ex_sindex (j := x56) (o' := (i + k) * 4) (evS hq5 rfl rfl) (evS hq8 rfl rfl) sl44 (by omega) (by omega) (by omega))) rfl hSd, n1 rfl rfl rfl rfl (fun hq9 => (ex_loadsM (f := el) (k := 4) (i := (i + k)) (fun _ => rfl) (evS hq9 rfl rfl) (hSd.at 1 rfl) ag49 rfl hy59)) rfl hSd, n0 rfl rfl rfl (ex_loads (vs := (fdC F)) rfl (hSd.at 3 rfl) ag117 rfl rfl) rfl hSd, n0 rfl rfl rfl (ex_loads (vs := (el y21)) rfl (hSd.at 2 rfl) ag49 rfl rfl) rfl hSd, n0 rfl rfl rfl (ex_loads (vs := (el y38)) rfl (hSd.at 0 rfl) ag49 rfl rfl) rfl hSd, ?_, ?_, tt⟩
    ·refine needG rfl ?_
     rintro ⟨hq11, hq12, hq13, _⟩ hno
     refine dxC (wanted_none rfl) rfl (exe_call (args := #[fdV F, elV y21, elV y38]) en116 (args_of3 (evS hq11 rfl rfl) (evS hq12 rfl rfl) (evS hq13 rfl rfl))) (c_mMul F y21 y38 wd hF (by assumption) (by first | assumption | exact lt_of_p hF (by assumption))) ?_
     rintro _ W60 ⟨rfl, hT62⟩
     have hS61 := hSd.call hT62
     exact ⟨rfl, hS61⟩
    refine needG rfl ?_
    rintro ⟨hq4, hq10, hq14, hq14, _⟩ hno
    refine dxC (wanted_none rfl) rfl (exe_call (args := #[fdV F, elV y58, elV (fMul F y21 y38)]) en117 (args_of3 (evS hq4 rfl rfl) (evS hq10 rfl rfl) (evS hq14 rfl rfl))) (c_mAdd F y58 (fMul F y21 y38) wd hF (by assumption) (fMul_lt hF _ _)) ?_
    rintro _ W64 ⟨rfl, hT66⟩
    have hS65 := hSd.call hT66
    exact ⟨rfl, hS65⟩
   ·exact fun S wd hSd => ⟨True.intro, True.intro, True.intro, True.intro, True.intro, True.intro, True.intro, True.intro, True.intro, True.intro, True.intro, True.intro, True.intro, True.intro, True.intro, True.intro, True.intro⟩
   intro _ W68 hS69
   have hj70 : x55 = (((i + k) : Nat) : Int) := by omega
   refine sqv (ex_sindex (j := x55) (o' := (i + k) * 4) rfl rfl sl44 (by omega) (by omega) (by omega)) ?_
   refine sqUE (st_storesM (f := el) (k := 4) (z := fAdd F y58 (fMul F y21 y38)) (i' := (i + k)) (fun _ => rfl) 1 hS69 rfl rfl rfl ag49 rfl (by first | omega | (simp only [List.length_set, List.length_replicate, List.length_append, List.length_take, List.length_drop]; omega)) rfl (ones_of rfl)) fun W71 hS72 => ?_
   refine blk_normal ?_
   show C _ _ _ _ _ _
   refine C_region ?_
   refine nm ((k : Int) + 1) fun x73 hx73 => ?_
   refine sqv (ex_add (x := (k : Int)) (y := 1) rfl rfl (w64 hx73 (by omega))) ?_
   refine sqv (ex_move (v := .int .i64 x73) rfl) ?_
   exact ⟨_, (by omega), ⟨_, (k + 1), (o2.set (i + k) (fAdd F y58 (fMul F y21 y38))), rfl, act_upds ⟨rfl, rfl, rfl, rfl, rfl, (congrArg (Value.int .i64) (by first | rfl | omega)), rfl, rfl, (congrArg (Value.int .i64) (by first | rfl | omega)), (congrArg (Value.int .i64) (by first | rfl | omega)), rfl, (congrArg (Value.int .i64) (by first | rfl | omega)), (congrArg (Value.int .i64) (by first | rfl | omega)), trivial⟩, (St.pick (L := [some (b44, .cells (elA y38) 49), some (b10, .cells ((o2.set (i + k) (fAdd F y58 (fMul F y21 y38))).flatMap el).toArray 49), some (b27, .cells (elA y21) 49), some (b1, .cells (fdA F) 117)]) hS72 [1, 2, 3] (by decide)), (by omega), (by rw [List.length_set]; exact hol2), row_step hy39 hy59 h2, (all_set hop2 (fAdd_lt hF _ _))⟩⟩
  refine C_exit ?_
  refine thn_exit ?_
  refine thn_exit ?_
  refine blk_exit ?_
  refine blk_normal ?_
  show C _ _ _ _ _ _
  refine C_region ?_
  refine nm ((i : Int) + 1) fun x74 hx74 => ?_
  refine sqv (ex_add (x := (i : Int)) (y := 1) rfl rfl (w64 hx74 (by omega))) ?_
  refine sqv (ex_move (v := .int .i64 x74) rfl) ?_
  obtain rfl : k = bs.length := by omega
  rw [List.drop_length] at h2
  exact ⟨_, (by omega), ⟨_, (i + 1), o2, rfl, act_upds ⟨rfl, rfl, rfl, rfl, rfl, rfl, (congrArg (Value.int .i64) (by first | rfl | omega)), (congrArg (Value.int .i64) (by first | rfl | omega)), trivial⟩, (St.pick (L := [some (b10, .cells (o2.flatMap el).toArray 49), some (b27, .cells (elA y21) 49), some (b1, .cells (fdA F) 117)]) hS34 [0, 2] (by decide)), (by omega), hol2, all_step hy22 ho h2, hop2⟩⟩
 refine C_exit ?_
 refine thn_exit ?_
 refine thn_exit ?_
 refine blk_exit ?_
 show C _ _ _ _ _ _
 refine C_sr ?_
 refine sqv (ex_move (v := .slice (so b10) j13 j13) rfl) ?_
 refine sqv (ex_assign (v := .slice (so b10) j13 j13) rfl) ?_
 show C _ _ _ _ _ _
 refine C_ret ?_
 refine done_1 (v := .slice (so b10) j13 j13) rfl rfl ?_
 obtain rfl : i = as_.length := by omega
 rw [List.drop_length] at ho
 have hpm : o = pMul F as_ bs := by unfold pMul; rw [if_neg (by omega), show as_.length + bs.length - 1 = j13 from by omega]; exact ho
 exact ⟨_, _, rfl, by rw [← hpm]; exact Own.of (fun _ => rfl) (by rw [hol]) rfl (by simp only [maxLen]; omega), (St.pick (L := [some (b10, .cells (o.flatMap el).toArray 49), some (b1, .cells (fdA F) 117)]) hS17 [0] (by decide))⟩
theorem c_points (F : PrF) (s : Value) (xs : List Int) (Z0 : List Fact) (w0 : World) (g0 : FOk F) (g1 : ∀ y ∈ xs, 1 ≤ y ∧ y ≤ 255) (g2 : xs.length < 1000000) (hZ0 : Holds w0 Z0) (hs_s : Sl Z0 3 1 s (xs.flatMap cI)) : Calls Tryz.prog 113 #[fdV F, s] w0 (Ret fun uu w' => ∃ (v : Value), ∃ (en : Ent), uu = v ∧ (Own 49 4 el v (ptsL F xs) en) ∧ St [] w0 w' [en] []) := by
 have hF := g0
 refine calls_of Tryz.func113 rfl Tryz.ntmps113 (Nat.le_of_ble_eq_true rfl) ?_
 have hS0 := St.nil w0
 refine C_sr ?_
 refine sqE (st_box (v := fdV F) (cs := (fdA F)) hS0 rfl rfl) fun b1 W2 hS3 => ?_
 refine sqv (ex_assign (v := .slice none 0 0) rfl) ?_
 show C _ _ _ _ _ _
 refine C_sr ?_
 refine sqv (ex_move (v := s) rfl) ?_
 refine sqv (ex_lenO (f := cI) (k := 1) (r := (xs.length : Int)) (fun _ => rfl) (by decide) (hs_s) rfl sl25 rfl) ?_
 refine sqE (st_makeM (f := el) (k := 4) 0 xs.length hS3 sl44 ze49 (by rfl) rfl (by decide) rfl rfl rfl (by omega) (by omega)) fun b4 W5 hS6 => ?_
 refine sqv (ex_assign (v := .slice (so b4) xs.length xs.length) rfl) ?_
 show C _ _ _ _ _ _
 refine C_seq ?_
 refine C_sr ?_
 refine sqv (ex_move (v := s) rfl) ?_
 refine sqv (ex_lenO (f := cI) (k := 1) (r := (xs.length : Int)) (fun _ => rfl) (by decide) (hs_s) rfl sl25 rfl) ?_
 refine sqv (ex_move (v := .int .i64 0) rfl) ?_
 show C _ _ _ _ _ _
 refine C_block ?_
 refine C_loop (fun nn aa ww => ∃ (m0 : Nat → Value) (k : Nat) (o : List Nat), nn = xs.length - k ∧ aa = act 28 (upds m0 [(2, pt b1), (4, .slice none 0 0), (5, .slice (so b4) xs.length xs.length), (11, s), (12, .int .i64 (xs.length : Int)), (13, .int .i64 (k : Int))]) [] ∧ St [] w0 ww [some (b4, .cells (o.flatMap el).toArray 49), some (b1, .cells (fdA F) 117)] [] ∧ (k ≤ xs.length) ∧ (o.length = xs.length) ∧ (∀ j, j < k → o[j]? = (xs.map fun x => fMul F x.toNat F.sq)[j]?)) xs.length ?_ ?_
 ·exact ⟨_, 0, (List.replicate xs.length 0), rfl, act_upds ⟨rfl, rfl, rfl, rfl, (congrArg (Value.int .i64) (by first | rfl | omega)), (congrArg (Value.int .i64) (by first | rfl | omega)), trivial⟩, (St.pick (L := [some (b4, .cells ((List.replicate xs.length 0).flatMap el).toArray 49), some (b1, .cells (fdA F) 117)]) hS6 [0, 1] (by decide)), (Nat.zero_le _), (by simp), (fun j h => absurd h (by omega))⟩
 rintro n10 a11 W8 ⟨m7, k, o, rfl, rfl, hS9, hk, hol, ho⟩
 refine C_sr ?_
 refine sqv (ex_cmp (x := (k : Int)) (y := (xs.length : Int)) (r := decide ((k : Int) < (xs.length : Int))) rfl rfl rfl) ?_
 show C _ _ _ _ _ _
 refine C_seq ?_
 refine C_dec ((k : Int) < (xs.length : Int)) rfl (fun hc12 => ?_) (fun hc12 => ?_)
 ·refine C_skip ?_
  show C _ _ _ _ _ _
  refine C_seq ?_
  refine C_block ?_
  refine C_sr ?_
  refine sqv (ex_move (v := .int .i64 (k : Int)) rfl) ?_
  obtain ⟨y13, hy14⟩ := get_lt xs k (by first | omega | (simp only [List.length_set, List.length_replicate, List.length_append, List.length_take, List.length_drop, List.length_cons, List.length_nil, List.length_map]; omega))
  have hky13 := g1 y13 (List.mem_of_getElem? hy14)
  obtain ⟨b15, o16, hI17, hC18⟩ := sl_at (f := cI) (k := 1) (fun _ => rfl) (by decide) (hs_s) hy14
  refine sqv (ex_sindexO hI17 rfl rfl sl25 rfl) ?_
  refine sqv (ex_loadC (r := 0) (u := .int .i64 y13) hC18 (hS9.holds0 hZ0) rfl on3 rfl rfl) ?_
  refine sqv (ex_assign (v := .int .i64 (k : Int)) rfl) ?_
  refine sqv (ex_assign (v := .int .i64 y13) rfl) ?_
  show C _ _ _ _ _ _
  refine C_region ?_
  refine sqv (ex_move (v := .slice (so b4) xs.length xs.length) rfl) ?_
  refine sqv (ex_move (v := .int .i64 (k : Int)) rfl) ?_
  refine sqv (ex_loads (vs := (fdC F)) rfl (hS9.at 1 rfl) ag117 rfl rfl) ?_
  refine sqv (ex_move (v := .int .i64 y13) rfl) ?_
  refine nm (y13 % 18446744073709551616) fun x19 hx19 => ?_
  refine sqv (ex_conv ik3 ik39 (x := y13) rfl (wu64 hx19)) ?_
  refine sqv (ex_build (vs := [(0, .int .u64 x19)]) (cells := #[.int .u64 x19, .int .u64 0, .int .u64 0, .int .u64 0]) rfl (by kernel_rfl)) ?_
  rw [elV_small (x := x19) (N := y13.toNat) (by omega) (by omega)]
  refine sqc (exe_call (args := #[fdV F, elV y13.toNat]) en82 (args_of2 rfl rfl)) (c_mTo F y13.toNat W8 hF (small_lt hF (by omega))) ?_
  rintro _ W20 ⟨rfl, hT22⟩
  have hS21 := hS9.call hT22
  refine sqv (ex_sindex (j := (k : Int)) (o' := k * 4) rfl rfl sl44 (by omega) (by omega) (by omega)) ?_
  refine sqUE (st_storesM (f := el) (k := 4) (z := fMul F y13.toNat F.sq) (i' := k) (fun _ => rfl) 0 hS21 rfl rfl rfl ag49 rfl (by first | omega | (simp only [List.length_set, List.length_replicate, List.length_append, List.length_take, List.length_drop]; omega)) rfl (ones_of rfl)) fun W24 hS25 => ?_
  refine blk_normal ?_
  show C _ _ _ _ _ _
  refine C_region ?_
  refine nm ((k : Int) + 1) fun x26 hx26 => ?_
  refine sqv (ex_add (x := (k : Int)) (y := 1) rfl rfl (w64 hx26 (by omega))) ?_
  refine sqv (ex_move (v := .int .i64 x26) rfl) ?_
  exact ⟨_, (by omega), ⟨_, (k + 1), (o.set k (fMul F y13.toNat F.sq)), rfl, act_upds ⟨rfl, rfl, rfl, rfl, (congrArg (Value.int .i64) (by first | rfl | omega)), (congrArg (Value.int .i64) (by first | rfl | omega)), trivial⟩, (St.pick (L := [some (b4, .cells ((o.set k (fMul F y13.toNat F.sq)).flatMap el).toArray 49), some (b1, .cells (fdA F) 117)]) hS25 [0, 1] (by decide)), (by omega), (by rw [List.length_set]; exact hol), (set_map hy14 hol ho)⟩⟩
 refine C_exit ?_
 refine thn_exit ?_
 refine thn_exit ?_
 refine blk_exit ?_
 show C _ _ _ _ _ _
 refine C_sr ?_
 refine sqv (ex_move (v := .slice (so b4) xs.length xs.length) rfl) ?_
 refine sqv (ex_assign (v := .slice (so b4) xs.length xs.length) rfl) ?_
 show C _ _ _ _ _ _
 refine C_ret ?_
 refine done_1 (v := .slice (so b4) xs.length xs.length) rfl rfl ?_
 obtain rfl : k = xs.length := by omega
 exact ⟨_, _, rfl, by rw [show ptsL F xs = o from (ext_map hol (fun j hj => ho j (by omega))).symm]; exact Own.of (fun _ => rfl) (by rw [hol]) rfl (by simp only [maxLen]; omega), (St.pick (L := [some (b4, .cells (o.flatMap el).toArray 49), some (b1, .cells (fdA F) 117)]) hS9 [0] (by decide))⟩
theorem c_master (F : PrF) (s : Value) (ys : List Nat) (Z0 : List Fact) (w0 : World) (g0 : FOk F) (g1 : ∀ y ∈ ys, y < F.p) (g2 : ys.length < 1000) (hZ0 : Holds w0 Z0) (hs_s : Sl Z0 49 4 s (ys.flatMap el)) : Calls Tryz.prog 114 #[fdV F, s] w0 (Ret fun uu w' => ∃ (v : Value), ∃ (en : Ent), uu = v ∧ (Own 49 4 el v (mastF F ys [F.one]) en) ∧ St [] w0 w' [en] []) := by
 have hF := g0
 have hlen := sl_lt (f := el) (k := 4) (fun _ => rfl) (by decide) hs_s
 refine calls_of Tryz.func114 rfl Tryz.ntmps114 (Nat.le_of_ble_eq_true rfl) ?_
 have hS0 := St.nil w0
 refine C_sr ?_
 refine sqE (st_box (v := fdV F) (cs := (fdA F)) hS0 rfl rfl) fun b1 W2 hS3 => ?_
 refine sqv (ex_assign (v := .slice none 0 0) rfl) ?_
 show C _ _ _ _ _ _
 refine C_sr ?_
 refine sqv (ex_field (o' := 6) rfl fi117_3 rfl) ?_
 refine sqv (ex_loads (vs := (el (F.one))) rfl (hS3.at 0 rfl) ag49 rfl rfl) ?_
 refine sqE (st_bslice (vs := [elV F.one]) hS3 sl44 ze49 rfl (by simp [Value.cells, elV, el]) rfl (by decide)) fun b4 W5 hS6 => ?_
 refine sqv (ex_assign (v := .slice (so b4) 1 1) rfl) ?_
 show C _ _ _ _ _ _
 refine C_seq ?_
 refine C_sr ?_
 refine sqv (ex_move (v := s) rfl) ?_
 refine sqv (ex_lenO (f := el) (k := 4) (r := (ys.length : Int)) (fun _ => rfl) (by decide) (hs_s) rfl sl44 rfl) ?_
 refine sqv (ex_move (v := .int .i64 0) rfl) ?_
 show C _ _ _ _ _ _
 refine C_block ?_
 refine C_loop (fun nn aa ww => ∃ (m0 : Nat → Value) (k : Nat) (v : Value) (en : Ent) (o : List Nat), nn = ys.length - k ∧ aa = act 28 (upds m0 [(2, pt b1), (4, .slice none 0 0), (5, v), (11, s), (12, .int .i64 (ys.length : Int)), (13, .int .i64 (k : Int))]) [] ∧ St [] w0 ww [en, some (b1, .cells (fdA F) 117)] [] ∧ (k ≤ ys.length) ∧ (Own 49 4 el v o en) ∧ (o.length = k + 1) ∧ (mastF F (ys.drop k) o = mastF F ys [F.one]) ∧ (∀ z ∈ o, z < F.p)) ys.length ?_ ?_
 ·exact ⟨_, 0, (.slice (so b4) 1 1), (some (b4, .cells (elA (F.one)) 49)), [F.one], rfl, act_upds ⟨rfl, rfl, rfl, rfl, (congrArg (Value.int .i64) (by first | rfl | omega)), (congrArg (Value.int .i64) (by first | rfl | omega)), trivial⟩, (St.pick (L := [some (b4, .cells (elA (F.one)) 49), some (b1, .cells (fdA F) 117)]) hS6 [0, 1] (by decide)), (Nat.zero_le _), (own_of (fun _ => rfl) rfl (Nat.le_of_ble_eq_true rfl) rfl), rfl, rfl, (by intro z hz; simp at hz; rw [hz]; exact f_one_lt hF)⟩
 rintro n10 a11 W8 ⟨m7, k, v, en, o, rfl, rfl, hS9, hk, hO, hol, ho, hop⟩
 refine C_sr ?_
 refine sqv (ex_cmp (x := (k : Int)) (y := (ys.length : Int)) (r := decide ((k : Int) < (ys.length : Int))) rfl rfl rfl) ?_
 show C _ _ _ _ _ _
 refine C_seq ?_
 refine C_dec ((k : Int) < (ys.length : Int)) rfl (fun hc12 => ?_) (fun hc12 => ?_)
 ·refine C_skip ?_
  show C _ _ _ _ _ _
  refine C_seq ?_
  refine C_block ?_
  refine C_sr ?_
  obtain ⟨y13, hy14⟩ := get_lt ys k (by first | omega | (simp only [List.length_set, List.length_replicate, List.length_append, List.length_take, List.length_drop, List.length_cons, List.length_nil, List.length_map]; omega))
  have hky13 := g1 y13 (List.mem_of_getElem? hy14)
  obtain ⟨b15, o16, hI17, hC18⟩ := sl_at (f := el) (k := 4) (fun _ => rfl) (by decide) (hs_s) hy14
  refine sqv (ex_sindexO hI17 rfl rfl sl44 rfl) ?_
  refine sqv (ex_loadsC (r := 0) (vs := (el y13)) hC18 (hS9.holds0 hZ0) rfl ag49 rfl rfl rfl) ?_
  refine sqE (st_alloc hS9 ze49) fun b19 W20 hS21 => ?_
  refine sqUE (st_stores (v := elV y13) (cs' := (elA y13)) 0 hS21 rfl rfl rfl ag49 rfl (Nat.le_of_ble_eq_true rfl) (ones_of rfl) rfl) fun W22 hS23 => ?_
  show C _ _ _ _ _ _
  refine C_draw (p := 9) (l := [(some 17, fdV F), (some 18, v), (some 19, fdV F), (some 20, elV y13), (some 21, elV (fSub F 0 y13)), (some 22, .pointer (some ⟨b1, 6, none⟩)), (some 23, elV F.one), (some 24, undef), (some 25, undef)]) (G := [7, 8]) (J := fun w => St [] w0 w [some (b19, .cells (elA y13) 49), en, some (b1, .cells (fdA F) 117)] []) mixed ?_ (hS23.draw _)
  refine node1 9 [7, 8] [] [8] (by kernel_rfl) rfl rfl (nd rfl) rfl (by kernel_rfl) ?_ ?_ ?_
  ·intro S wd hSd
   refine ⟨n0 rfl rfl rfl (ex_loads (vs := (fdC F)) rfl (hSd.at 2 rfl) ag117 rfl rfl) rfl hSd, n0 rfl rfl rfl (ex_move (v := v) rfl) rfl hSd, n0 rfl rfl rfl (ex_loads (vs := (fdC F)) rfl (hSd.at 2 rfl) ag117 rfl rfl) rfl hSd, n0 rfl rfl rfl (ex_loads (vs := (el y13)) rfl (hSd.at 0 rfl) ag49 rfl rfl) rfl hSd, ?_, n0 rfl rfl rfl (ex_field (o' := 6) rfl fi117_3 rfl) rfl hSd, n1 rfl rfl rfl rfl (fun hq5 => (ex_loads (vs := (el (F.one))) (evS hq5 rfl rfl) (hSd.at 2 rfl) ag49 rfl rfl)) rfl hSd, sG rfl, sG rfl, tt⟩
   refine needG rfl ?_
   rintro ⟨hq2, hq3, _⟩ hno
   refine dxC (wanted_none rfl) rfl (exe_call (args := #[fdV F, elV y13]) en144 (args_of2 (evS hq2 rfl rfl) (evS hq3 rfl rfl))) (c_mNeg F y13 wd hF (by assumption)) ?_
   rintro _ W24 ⟨rfl, hT26⟩
   have hS25 := hSd.call hT26
   exact ⟨rfl, hS25⟩
  ·intro S wd hSd
   refine ⟨tt, tt, tt, tt, tt, tt, tt, ?_, tt, tt⟩
   refine needH rfl ?_
   rintro ⟨hq4, hq6, _⟩ hno
   refine dxE (wanted_none rfl) rfl (st_bslice (vs := [elV (fSub F 0 y13), elV F.one]) hSd sl44 ze49 (parts2 (evS hq4 rfl rfl) (evS hq6 rfl rfl)) (by simp [Value.cells, elV, el]) rfl (by decide)) fun b28 W29 hS30 => ?_
   refine ⟨fun w => St [] w0 w [some (b28, .cells #[.int .u64 (limb (fSub F 0 y13) 0), .int .u64 (limb (fSub F 0 y13) 1), .int .u64 (limb (fSub F 0 y13) 2), .int .u64 (limb (fSub F 0 y13) 3), .int .u64 (limb F.one 0), .int .u64 (limb F.one 1), .int .u64 (limb F.one 2), .int .u64 (limb F.one 3)] 49), some (b19, .cells (elA y13) 49), en, some (b1, .cells (fdA F) 117)] [], [(some 17, fdV F), (some 18, v), (some 19, fdV F), (some 20, elV y13), (some 21, elV (fSub F 0 y13)), (some 22, .pointer (some ⟨b1, 6, none⟩)), (some 23, elV F.one), (some 24, .slice (so b28) 2 2), (some 25, undef)], [8], hS30, by kernel_rfl, ⟨rfl, rfl, rfl, rfl, rfl, rfl, rfl, rfl, rfl, rfl, rfl, rfl, rfl, rfl, rfl, True.intro, rfl, True.intro, True.intro⟩, rfl, ?_⟩
   show Sc.Node _ _ _ _ _ _ _ 9 [(some 17, fdV F), (some 18, v), (some 19, fdV F), (some 20, elV y13), (some 21, elV (fSub F 0 y13)), (some 22, .pointer (some ⟨b1, 6, none⟩)), (some 23, elV F.one), (some 24, .slice (so b28) 2 2), (some 25, undef)] [8] [7] _
   refine node1 9 [8] [7] [] (by kernel_rfl) rfl rfl (nd rfl) rfl (by kernel_rfl) ?_ ?_ ?_
   ·intro S wd hSd
    refine ⟨n0 rfl rfl rfl (ex_loads (vs := (fdC F)) rfl (hSd.at 3 rfl) ag117 rfl rfl) rfl hSd, n0 rfl rfl rfl (ex_move (v := v) rfl) rfl hSd, n0 rfl rfl rfl (ex_loads (vs := (fdC F)) rfl (hSd.at 3 rfl) ag117 rfl rfl) rfl hSd, n0 rfl rfl rfl (ex_loads (vs := (el y13)) rfl (hSd.at 1 rfl) ag49 rfl rfl) rfl hSd, ?_, n0 rfl rfl rfl (ex_field (o' := 6) rfl fi117_3 rfl) rfl hSd, n1 rfl rfl rfl rfl (fun hq5 => (ex_loads (vs := (el (F.one))) (evS hq5 rfl rfl) (hSd.at 3 rfl) ag49 rfl rfl)) rfl hSd, sG rfl, sG rfl, tt⟩
    refine needG rfl ?_
    rintro ⟨hq2, hq3, _⟩ hno
    refine dxC (wanted_none rfl) rfl (exe_call (args := #[fdV F, elV y13]) en144 (args_of2 (evS hq2 rfl rfl) (evS hq3 rfl rfl))) (c_mNeg F y13 wd hF (by assumption)) ?_
    rintro _ W24 ⟨rfl, hT26⟩
    have hS25 := hSd.call hT26
    exact ⟨rfl, hS25⟩
   ·intro S wd hSd
    refine ⟨tt, tt, tt, tt, tt, tt, tt, tt, ?_, tt⟩
    refine needH rfl ?_
    rintro ⟨hq0, hq1, hq7, hq4, _⟩ hno
    refine dxC (wanted_none rfl) rfl (exe_call (args := #[.pointer none, fdV F, v, .slice (so b28) 2 2]) en143 (args_of4 rfl (evS hq0 rfl rfl) (evS hq1 rfl rfl) (evS hq7 rfl rfl))) (c_pMul F v o (.slice (so b28) 2 2) ([fSub F 0 y13, F.one]) ((entF en) ++ (entF (some (b28, .cells #[.int .u64 (limb (fSub F 0 y13) 0), .int .u64 (limb (fSub F 0 y13) 1), .int .u64 (limb (fSub F 0 y13) 2), .int .u64 (limb (fSub F 0 y13) 3), .int .u64 (limb F.one 0), .int .u64 (limb F.one 1), .int .u64 (limb F.one 2), .int .u64 (limb F.one 3)] 49)))) wd hF hop (by intro z hz; simp at hz; rcases hz with rfl | rfl; exact fSub_lt hF _ _; exact f_one_lt hF) (by simp; omega) (Holds.app (hSd.entH 2 rfl) (hSd.entH 0 rfl)) (Sl.mono ((hO).slF) fun _ hp => (List.mem_append_left _ hp)) (Sl.mono ((sl_row (f := el) (k := 4) (t := 49) (b := b28) (n := 2) (cs := #[.int .u64 (limb (fSub F 0 y13) 0), .int .u64 (limb (fSub F 0 y13) 1), .int .u64 (limb (fSub F 0 y13) 2), .int .u64 (limb (fSub F 0 y13) 3), .int .u64 (limb F.one 0), .int .u64 (limb F.one 1), .int .u64 (limb F.one 2), .int .u64 (limb F.one 3)]) (ys := [fSub F 0 y13, F.one]) (fun _ => rfl) rfl (Nat.le_of_ble_eq_true rfl) rfl)) fun _ hp => (List.mem_append_right _ hp))) ?_
    rintro v35 W31 ⟨_, en36, rfl, hp37, hT33⟩
    have hS32 := hSd.call hT33
    refine ⟨fun w => St [] w0 w [en36, some (b28, .cells #[.int .u64 (limb (fSub F 0 y13) 0), .int .u64 (limb (fSub F 0 y13) 1), .int .u64 (limb (fSub F 0 y13) 2), .int .u64 (limb (fSub F 0 y13) 3), .int .u64 (limb F.one 0), .int .u64 (limb F.one 1), .int .u64 (limb F.one 2), .int .u64 (limb F.one 3)] 49), some (b19, .cells (elA y13) 49), en, some (b1, .cells (fdA F) 117)] [], [(some 17, fdV F), (some 18, v), (some 19, fdV F), (some 20, elV y13), (some 21, elV (fSub F 0 y13)), (some 22, .pointer (some ⟨b1, 6, none⟩)), (some 23, elV F.one), (some 24, .slice (so b28) 2 2), (some 25, v35)], [], hS32, by kernel_rfl, ⟨rfl, rfl, rfl, rfl, rfl, rfl, rfl, rfl, rfl, rfl, rfl, rfl, rfl, rfl, rfl, rfl, rfl, True.intro, True.intro⟩, rfl, ?_⟩
    show Sc.Node _ _ _ _ _ _ _ 9 [(some 17, fdV F), (some 18, v), (some 19, fdV F), (some 20, elV y13), (some 21, elV (fSub F 0 y13)), (some 22, .pointer (some ⟨b1, 6, none⟩)), (some 23, elV F.one), (some 24, .slice (so b28) 2 2), (some 25, v35)] [] [8, 7] _
    refine node1 9 [] [8, 7] [] (by kernel_rfl) rfl rfl (nd rfl) rfl (by kernel_rfl) ?_ ?_ ?_
    ·intro S wd hSd
     refine ⟨n0 rfl rfl rfl (ex_loads (vs := (fdC F)) rfl (hSd.at 4 rfl) ag117 rfl rfl) rfl hSd, n0 rfl rfl rfl (ex_move (v := v) rfl) rfl hSd, n0 rfl rfl rfl (ex_loads (vs := (fdC F)) rfl (hSd.at 4 rfl) ag117 rfl rfl) rfl hSd, n0 rfl rfl rfl (ex_loads (vs := (el y13)) rfl (hSd.at 2 rfl) ag49 rfl rfl) rfl hSd, ?_, n0 rfl rfl rfl (ex_field (o' := 6) rfl fi117_3 rfl) rfl hSd, n1 rfl rfl rfl rfl (fun hq5 => (ex_loads (vs := (el (F.one))) (evS hq5 rfl rfl) (hSd.at 4 rfl) ag49 rfl rfl)) rfl hSd, sG rfl, sG rfl, tt⟩
     refine needG rfl ?_
     rintro ⟨hq2, hq3, _⟩ hno
     refine dxC (wanted_none rfl) rfl (exe_call (args := #[fdV F, elV y13]) en144 (args_of2 (evS hq2 rfl rfl) (evS hq3 rfl rfl))) (c_mNeg F y13 wd hF (by assumption)) ?_
     rintro _ W24 ⟨rfl, hT26⟩
     have hS25 := hSd.call hT26
     exact ⟨rfl, hS25⟩
    ·exact fun S wd hSd => ⟨True.intro, True.intro, True.intro, True.intro, True.intro, True.intro, True.intro, True.intro, True.intro, True.intro⟩
    intro _ W38 hS39
    refine sqv (ex_assign (v := v35) rfl) ?_
    refine blk_normal ?_
    show C _ _ _ _ _ _
    refine C_region ?_
    refine nm ((k : Int) + 1) fun x40 hx40 => ?_
    refine sqv (ex_add (x := (k : Int)) (y := 1) rfl rfl (w64 hx40 (by omega))) ?_
    refine sqv (ex_move (v := .int .i64 x40) rfl) ?_
    exact ⟨_, (by omega), ⟨_, (k + 1), v35, en36, (pMul F o ([fSub F 0 y13, F.one])), rfl, act_upds ⟨rfl, rfl, rfl, rfl, (congrArg (Value.int .i64) (by first | rfl | omega)), (congrArg (Value.int .i64) (by first | rfl | omega)), trivial⟩, (St.pick (L := [en36, some (b28, .cells #[.int .u64 (limb (fSub F 0 y13) 0), .int .u64 (limb (fSub F 0 y13) 1), .int .u64 (limb (fSub F 0 y13) 2), .int .u64 (limb (fSub F 0 y13) 3), .int .u64 (limb F.one 0), .int .u64 (limb F.one 1), .int .u64 (limb F.one 2), .int .u64 (limb F.one 3)] 49), some (b19, .cells (elA y13) 49), en, some (b1, .cells (fdA F) 117)]) hS39 [0, 4] (by decide)), (by omega), hp37, (by rw [pMul_len (by omega) (by simp), hol]; rfl), mast_step hy14 ho, (pMul_lt hF _ _)⟩⟩
   exact fun h => absurd h (by decide)
  exact fun h => absurd h (by decide)
 refine C_exit ?_
 refine thn_exit ?_
 refine thn_exit ?_
 refine blk_exit ?_
 show C _ _ _ _ _ _
 refine C_sr ?_
 refine sqv (ex_move (v := v) rfl) ?_
 refine sqv (ex_assign (v := v) rfl) ?_
 show C _ _ _ _ _ _
 refine C_ret ?_
 refine done_1 (v := v) rfl rfl ?_
 obtain rfl : k = ys.length := by omega
 rw [List.drop_length] at ho
 exact ⟨_, _, rfl, by rw [← ho]; exact hO, (St.pick (L := [en, some (b1, .cells (fdA F) 117)]) hS9 [0] (by decide))⟩
theorem c_between (x : Int) (a : Int) (b : Int) (w0 : World)  : Calls Tryz.prog 132 #[.int .i64 x, .int .i64 a, .int .i64 b] w0 (Ret fun uu w' => uu = .bool (decide (a ≤ x) && decide (x ≤ b)) ∧ St [] w0 w' [] []) := by
 refine calls_of Tryz.func132 rfl Tryz.ntmps132 (Nat.le_of_ble_eq_true rfl) ?_
 have hS0 := St.nil w0
 refine C_sr ?_
 refine sqv (ex_assign (v := .bool false) rfl) ?_
 show C _ _ _ _ _ _
 refine C_sr ?_
 refine sqv (ex_move (v := .int .i64 x) rfl) ?_
 refine sqv (ex_move (v := .int .i64 a) rfl) ?_
 refine nm (decide (a ≤ x)) fun t1 ht1 => ?_
 refine sqv (ex_cmp (x := x) (y := a) rfl rfl ht1) ?_
 refine sqv (ex_move (v := .bool t1) rfl) ?_
 rcases bool_cases t1 with hb2 | hb2
 ·subst hb2
  have hb2 := of_decide_eq_true ht1.symm
  refine guard_yes (b := true) rfl rfl ?_
  refine sqv (ex_move (v := .int .i64 x) rfl) ?_
  refine guard_yes (b := true) rfl rfl ?_
  refine sqv (ex_move (v := .int .i64 b) rfl) ?_
  refine guard_yes (b := true) rfl rfl ?_
  refine nm (decide (x ≤ b)) fun t3 ht3 => ?_
  refine sqv (ex_cmp (x := x) (y := b) rfl rfl ht3) ?_
  refine sqv (ex_pick (t := true) (v := .bool t3) rfl rfl) ?_
  refine sqv (ex_assign (v := .bool t3) rfl) ?_
  show C _ _ _ _ _ _
  refine C_ret ?_
  refine done_1 (v := .bool t3) rfl rfl ?_
  exact ⟨by simp_all <;> omega, hS0.none⟩
 subst hb2
 have hb2 := of_decide_eq_false ht1.symm
 refine guard_no (b' := false) rfl rfl (by decide) ?_
 refine guard_no (b' := false) rfl rfl (by decide) ?_
 refine guard_no (b' := false) rfl rfl (by decide) ?_
 refine sqv (ex_pick (t := false) (v := .bool false) rfl rfl) ?_
 refine sqv (ex_assign (v := .bool false) rfl) ?_
 show C _ _ _ _ _ _
 refine C_ret ?_
 refine done_1 (v := .bool false) rfl rfl ?_
 exact ⟨by simp_all <;> omega, hS0.none⟩
end Go.Proofs
end
section
set_option linter.unusedVariables false
set_option linter.unusedSimpArgs false
set_option maxRecDepth 20000
set_option maxHeartbeats 2000000
namespace Go.Proofs
open Sc
theorem aa220 : arrAgg Tryz.prog 220 = some (16, 4) := by kernel_rfl
theorem ag220 : aggOf Tryz.prog 220 = some 64 := by kernel_rfl
theorem ar220 : arrOf Tryz.prog 220 = some (16, 4) := by kernel_rfl
theorem en163 : enters Tryz.prog 163 = true := by kernel_rfl
theorem en183 : enters Tryz.prog 183 = true := by kernel_rfl
theorem zl220 : zeroOf Tryz.prog 220 = some ((List.replicate 16 (0 : Nat)).flatMap el).toArray := by kernel_rfl
theorem c_tableOf (F : PrF) (x : Nat) (w0 : World) (g0 : FOk F) (g1 : x < F.p) : Calls Tryz.prog 179 #[fdV F, elV x] w0 (Ret fun uu w' => uu = .agg ((pwt F x).flatMap el).toArray ∧ St [] w0 w' [] []) := by
 have hF := g0
 refine calls_of Tryz.func179 rfl Tryz.ntmps179 (Nat.le_of_ble_eq_true rfl) ?_
 have hS0 := St.nil w0
 refine C_sr ?_
 refine sqE (st_box (v := fdV F) (cs := (fdA F)) hS0 rfl rfl) fun b1 W2 hS3 => ?_
 refine sqE (st_box (v := elV x) (cs := (elA x)) hS3 rfl rfl) fun b4 W5 hS6 => ?_
 refine sqE (st_alloc hS6 zl220) fun b7 W8 hS9 => ?_
 show C _ _ _ _ _ _
 refine C_sr ?_
 refine sqv (ex_field (o' := 6) rfl fi117_3 rfl) ?_
 refine sqv (ex_loads (vs := (el (F.one))) rfl (hS9.at 2 rfl) ag49 rfl rfl) ?_
 refine sqv (ex_index (j := 0) (o' := 0 * 4) rfl rfl ar220 (by decide) (by decide) rfl) ?_
 refine sqUE (st_storesM (f := el) (k := 4) (z := F.one) (i' := 0) (fun _ => rfl) 0 hS9 rfl rfl rfl ag49 rfl (by first | omega | (simp only [List.length_set, List.length_replicate, List.length_append, List.length_take, List.length_drop]; omega)) rfl (ones_of rfl)) fun W10 hS11 => ?_
 show C _ _ _ _ _ _
 refine C_seq ?_
 refine C_sr ?_
 refine sqv (ex_move (v := .int .i64 0) rfl) ?_
 show C _ _ _ _ _ _
 refine C_block ?_
 refine C_loop (fun nn aa ww => ∃ (m0 : Nat → Value) (k : Nat) (T : List Nat), nn = 15 - k ∧ aa = act 23 (upds m0 [(2, pt b1), (3, pt b4), (4, pt b7), (9, .int .i64 (k : Int))]) [] ∧ St [] w0 ww [some (b7, .cells (T.flatMap el).toArray 220), some (b4, .cells (elA x) 49), some (b1, .cells (fdA F) 117)] [] ∧ (k ≤ 15) ∧ (T.length = 16) ∧ (∀ j, j ≤ k → T[j]? = some (pws F x j))) 15 ?_ ?_
 ·exact ⟨_, 0, ((List.replicate 16 (0 : Nat)).set 0 F.one), rfl, act_upds ⟨rfl, rfl, rfl, (congrArg (Value.int .i64) (by first | rfl | omega)), trivial⟩, (St.pick (L := [some (b7, .cells (((List.replicate 16 (0 : Nat)).set 0 F.one).flatMap el).toArray 220), some (b4, .cells (elA x) 49), some (b1, .cells (fdA F) 117)]) hS11 [0, 1, 2] (by decide)), (by decide), (by simp), (by intro j hj; obtain rfl : j = 0 := (by omega); simp [pws])⟩
 rintro n15 a16 W13 ⟨m12, k, T, rfl, rfl, hS14, hk, hT, hP⟩
 refine C_sr ?_
 refine sqv (ex_cmp (x := (k : Int)) (y := 15) (r := decide ((k : Int) < 15)) rfl rfl rfl) ?_
 show C _ _ _ _ _ _
 refine C_seq ?_
 refine C_dec ((k : Int) < 15) rfl (fun hc17 => ?_) (fun hc17 => ?_)
 ·refine C_skip ?_
  show C _ _ _ _ _ _
  refine C_seq ?_
  refine C_block ?_
  refine C_sr ?_
  refine sqv (ex_move (v := .int .i64 (k : Int)) rfl) ?_
  refine sqv (ex_assign (v := .int .i64 (k : Int)) rfl) ?_
  show C _ _ _ _ _ _
  refine nm ((k : Int) + 1) fun x18 hx18 => ?_
  obtain ⟨y19, hy20⟩ := get_lt T k (by first | omega | (simp only [List.length_set, List.length_replicate, List.length_append, List.length_take, List.length_drop, List.length_cons, List.length_nil, List.length_map]; omega))
  have hky19 : y19 < F.p := by have hz := hP k (by omega); rw [hy20] at hz; cases hz; exact pws_lt hF _ _
  refine C_draw (p := 8) (l := [(some 12, .int .i64 (k : Int)), (some 13, .int .i64 x18), (some 14, fdV F), (some 15, .int .i64 (k : Int)), (some 16, .pointer (some ⟨b7, k * 4, none⟩)), (some 17, elV y19), (some 18, elV x), (some 19, elV (fMul F y19 x))]) (G := []) (J := fun w => St [] w0 w [some (b7, .cells (T.flatMap el).toArray 220), some (b4, .cells (elA x) 49), some (b1, .cells (fdA F) 117)] []) mixed ?_ (hS14.draw _)
  refine node1 8 [] [] [] (by kernel_rfl) rfl rfl (nd rfl) rfl (by kernel_rfl) ?_ ?_ ?_
  ·intro S wd hSd
   refine ⟨n0 rfl rfl rfl (ex_move (v := .int .i64 (k : Int)) rfl) rfl hSd, n1 rfl rfl rfl rfl (fun hq0 => (ex_add (x := (k : Int)) (y := 1) (evS hq0 rfl rfl) rfl (w64 hx18 (by omega)))) rfl hSd, n0 rfl rfl rfl (ex_loads (vs := (fdC F)) rfl (hSd.at 2 rfl) ag117 rfl rfl) rfl hSd, n0 rfl rfl rfl (ex_move (v := .int .i64 (k : Int)) rfl) rfl hSd, n1 rfl rfl rfl rfl (fun hq3 => (ex_index (j := (k : Int)) (o' := k * 4) rfl (evS hq3 rfl rfl) ar220 (by omega) (by omega) (by omega))) rfl hSd, n1 rfl rfl rfl rfl (fun hq4 => (ex_loadsM (f := el) (k := 4) (i := k) (fun _ => rfl) (evS hq4 rfl rfl) (hSd.at 0 rfl) ag49 rfl hy20)) rfl hSd, n0 rfl rfl rfl (ex_loads (vs := (el x)) rfl (hSd.at 1 rfl) ag49 rfl rfl) rfl hSd, ?_, tt⟩
   refine needG rfl ?_
   rintro ⟨hq2, hq5, hq6, _⟩ hno
   refine dxC (wanted_none rfl) rfl (exe_call (args := #[fdV F, elV y19, elV x]) en116 (args_of3 (evS hq2 rfl rfl) (evS hq5 rfl rfl) (evS hq6 rfl rfl))) (c_mMul F y19 x wd hF (by assumption) (by first | assumption | exact lt_of_p hF (by assumption))) ?_
   rintro _ W21 ⟨rfl, hT23⟩
   have hS22 := hSd.call hT23
   exact ⟨rfl, hS22⟩
  ·exact fun S wd hSd => ⟨True.intro, True.intro, True.intro, True.intro, True.intro, True.intro, True.intro, True.intro, True.intro⟩
  intro _ W25 hS26
  have hj27 : x18 = (((k + 1) : Nat) : Int) := by omega
  refine sqv (ex_index (j := x18) (o' := (k + 1) * 4) rfl rfl ar220 (by omega) (by omega) (by omega)) ?_
  refine sqUE (st_storesM (f := el) (k := 4) (z := fMul F y19 x) (i' := (k + 1)) (fun _ => rfl) 0 hS26 rfl rfl rfl ag49 rfl (by first | omega | (simp only [List.length_set, List.length_replicate, List.length_append, List.length_take, List.length_drop]; omega)) rfl (ones_of rfl)) fun W28 hS29 => ?_
  refine blk_normal ?_
  show C _ _ _ _ _ _
  refine C_region ?_
  refine nm ((k : Int) + 1) fun x30 hx30 => ?_
  refine sqv (ex_add (x := (k : Int)) (y := 1) rfl rfl (w64 hx30 (by omega))) ?_
  refine sqv (ex_move (v := .int .i64 x30) rfl) ?_
  exact ⟨_, (by omega), ⟨_, (k + 1), (T.set (k + 1) (fMul F y19 x)), rfl, act_upds ⟨rfl, rfl, rfl, (congrArg (Value.int .i64) (by first | rfl | omega)), trivial⟩, (St.pick (L := [some (b7, .cells ((T.set (k + 1) (fMul F y19 x)).flatMap el).toArray 220), some (b4, .cells (elA x) 49), some (b1, .cells (fdA F) 117)]) hS29 [0, 1, 2] (by decide)), (by omega), (by rw [List.length_set]; exact hT), (pwt_step hT (by omega) hP hy20)⟩⟩
 refine C_exit ?_
 refine thn_exit ?_
 refine thn_exit ?_
 refine blk_exit ?_
 show C _ _ _ _ _ _
 refine C_sr ?_
 refine sqv (ex_loadTab (f := el) (k := 4) (xs := T) (fun _ => rfl) rfl (hS14.at 0 rfl) ag220 (by rw [hT])) ?_
 refine sqUE (st_storeTab (f := el) (k := 4) (xs := T) (ys := T) (fun _ => rfl) (fun _ => ones_of rfl) 0 hS14 rfl rfl rfl ag220 (by rw [hT]) (by rw [hT])) fun W31 hS32 => ?_
 show C _ _ _ _ _ _
 refine C_ret ?_
 refine done_1 (v := .agg (T.flatMap el).toArray) rfl (res_tab (f := el) (k := 4) (fun _ => rfl) rfl (hS32.at 0 rfl) ag220 (by rw [hT])) ?_
 obtain rfl : k = 15 := by omega
 exact ⟨by rw [pwt_ext hT hP], hS32.none⟩
theorem c_scan (T : List Nat) (i : Int) (t : Value) (ev : List Ev) (Lt : List Ent) (w0 : World) (g0 : T.length = 16) (g1 : 0 ≤ i ∧ i < 18446744073709551616) (g2 : ev.length + 16 < 1099511627776) (hT : Tp t ev Lt) (hL0 : St (bks Lt) w0 w0 Lt []) : Calls Tryz.prog 181 #[.agg (T.flatMap el).toArray, t, .int .u64 i] w0 (Ret fun uu w' => ∃ (Lt' : List Ent), uu = elV (scanL T i 16) ∧ Tp t (ev ++ (kevs 1 16)) Lt' ∧ St (bks Lt) w0 w' ([] ++ Lt') []) := by
 refine calls_of Tryz.func181 rfl Tryz.ntmps181 (Nat.le_of_ble_eq_true rfl) ?_
 have hS0 := hL0
 refine C_sr ?_
 refine sqE (st_box (v := .agg (T.flatMap el).toArray) (cs := (T.flatMap el).toArray) hS0 rfl rfl) fun b1 W2 hS3 => ?_
 refine sqE (st_alloc hS3 ze49) fun b4 W5 hS6 => ?_
 show C _ _ _ _ _ _
 refine C_seq ?_
 refine C_sr ?_
 refine sqv (ex_loadTab (f := el) (k := 4) (xs := T) (fun _ => rfl) rfl (hS6.at 1 rfl) ag220 (by rw [g0])) ?_
 refine sqv (ex_move (v := .int .i64 0) rfl) ?_
 show C _ _ _ _ _ _
 refine C_block ?_
 refine C_loop (fun nn aa ww => ∃ (m0 : Nat → Value) (k o : Nat) (Lu : List Ent), nn = 16 - k ∧ aa = act 26 (upds m0 [(1, t), (2, .int .u64 i), (6, pt b4), (9, .agg (T.flatMap el).toArray), (10, .int .i64 (k : Int))]) [] ∧ St (bks Lt) w0 ww ([some (b4, .cells (elA o) 49), some (b1, .cells (T.flatMap el).toArray 220)] ++ Lu) [] ∧ (k ≤ 16) ∧ (o = scanL T i k) ∧ (Tp t (ev ++ kevs 1 k) Lu)) 16 ?_ ?_
 ·exact ⟨_, 0, 0, Lt, rfl, act_upds ⟨rfl, (congrArg (Value.int .u64) (by first | rfl | omega)), rfl, rfl, (congrArg (Value.int .i64) (by first | rfl | omega)), trivial⟩, (St.pickB (Lf := [some (b4, .cells #[.int .u64 0, .int .u64 0, .int .u64 0, .int .u64 0] 49), some (b1, .cells (T.flatMap el).toArray 220)]) hS6 [0, 1] (by decide) rfl), (by decide), (by unfold scanL; rw [if_neg (by omega)]), (by rw [show kevs 1 0 = [] from rfl, List.append_nil]; exact hT)⟩
 rintro n10 a11 W8 ⟨m7, k, o, Lu, rfl, rfl, hS9, hk, ho, hUu⟩
 refine C_sr ?_
 refine sqv (ex_cmp (x := (k : Int)) (y := 16) (r := decide ((k : Int) < 16)) rfl rfl rfl) ?_
 show C _ _ _ _ _ _
 refine C_seq ?_
 refine C_dec ((k : Int) < 16) rfl (fun hc12 => ?_) (fun hc12 => ?_)
 ·refine C_skip ?_
  show C _ _ _ _ _ _
  refine C_seq ?_
  refine C_block ?_
  refine C_sr ?_
  refine sqv (ex_move (v := .int .i64 (k : Int)) rfl) ?_
  obtain ⟨y13, hy14⟩ := get_lt T k (by first | omega | (simp only [List.length_set, List.length_replicate, List.length_append, List.length_take, List.length_drop, List.length_cons, List.length_nil, List.length_map]; omega))
  refine sqv (ex_indexV (f := el) (xs := T) (k := 4) (j := k) (fun _ => rfl) aa220 rfl rfl rfl (by omega) hy14) ?_
  refine sqE (st_alloc hS9 ze49) fun b15 W16 hS17 => ?_
  refine sqv (ex_assign (v := .int .i64 (k : Int)) rfl) ?_
  refine sqUE (st_stores (v := elV y13) (cs' := (elA y13)) 0 hS17 rfl rfl rfl ag49 rfl (Nat.le_of_ble_eq_true rfl) (ones_of rfl) rfl) fun W18 hS19 => ?_
  show C _ _ _ _ _ _
  refine C_sr ?_
  refine sqv (ex_move (v := t) rfl) ?_
  refine sqv (ex_move (v := .int .i64 (k : Int)) rfl) ?_
  refine sqc (exe_call (args := #[t, .int .i64 1, .int .i64 (k : Int), .int .i64 0]) en52 (args_of4 rfl rfl rfl rfl)) (c_Note 1 (k : Int) 0 t (ev ++ kevs 1 k) Lu W18 (by rw [List.length_append, kevs_len]; omega) hUu (St.lend (Lf := [some (b15, .cells (elA y13) 49), some (b4, .cells (elA o) 49), some (b1, .cells (T.flatMap el).toArray 220)]) hS19)) ?_
  rintro _ W20 ⟨Lt24, rfl, hU25, hT22⟩
  have hS21 := St.callS (Lf := [some (b15, .cells (elA y13) 49), some (b4, .cells (elA o) 49), some (b1, .cells (T.flatMap el).toArray 220)]) (Ln := []) hS19 hT22
  show C _ _ _ _ _ _
  refine nm ((k : Int) % 18446744073709551616) fun x26 hx26 => ?_
  refine C_draw (p := 7) (l := [(some 17, .int .u64 i), (some 18, .int .i64 (k : Int)), (some 19, .int .u64 x26), (some 20, .int .u64 (mk (decide (i = x26)))), (some 21, elV y13), (some 22, elV o), (some 23, elV (chN (decide (i = x26)) y13 o))]) (G := []) (J := fun w => St (bks Lt) w0 w ([some (b15, .cells (elA y13) 49), some (b4, .cells (elA o) 49), some (b1, .cells (T.flatMap el).toArray 220)] ++ Lt24) []) mixed ?_ (hS21.draw _)
  refine node1 7 [] [] [] (by kernel_rfl) rfl rfl (nd rfl) rfl (by kernel_rfl) ?_ ?_ ?_
  ·intro S wd hSd
   refine ⟨n0 rfl rfl rfl (ex_move (v := .int .u64 i) rfl) rfl hSd, n0 rfl rfl rfl (ex_move (v := .int .i64 (k : Int)) rfl) rfl hSd, n1 rfl rfl rfl rfl (fun hq1 => (ex_conv ik3 ik39 (x := (k : Int)) (evS hq1 rfl rfl) (wu64 hx26))) rfl hSd, ?_, n0 rfl rfl rfl (ex_loads (vs := (el y13)) rfl (hSd.at 0 rfl) ag49 rfl rfl) rfl hSd, n0 rfl rfl rfl (ex_loads (vs := (el o)) rfl (hSd.at 1 rfl) ag49 rfl rfl) rfl hSd, ?_, tt⟩
   ·refine needG rfl ?_
    rintro ⟨hq0, hq2, _⟩ hno
    refine dxC (wanted_none rfl) rfl (exe_call (args := #[.int .u64 i, .int .u64 x26]) en183 (args_of2 (evS hq0 rfl rfl) (evS hq2 rfl rfl))) (c_mEqual i x26 wd (by first | exact ⟨limb_nonneg _ _, limb_lt _ _⟩ | omega) (by first | exact ⟨limb_nonneg _ _, limb_lt _ _⟩ | omega)) ?_
    rintro _ W27 ⟨rfl, hT29⟩
    have hS28 := hSd.call hT29
    exact ⟨rfl, hS28⟩
   refine needG rfl ?_
   rintro ⟨hq3, hq4, hq5, hq3, _⟩ hno
   refine dxC (wanted_none rfl) rfl (exe_call (args := #[.int .u64 (mk (decide (i = x26))), elV y13, elV o]) en163 (args_of3 (evS hq3 rfl rfl) (evS hq4 rfl rfl) (evS hq5 rfl rfl))) (c_mtChoose (decide (i = x26)) y13 o wd) ?_
   rintro _ W31 ⟨rfl, hT33⟩
   have hS32 := hSd.call hT33
   exact ⟨rfl, hS32⟩
  ·exact fun S wd hSd => ⟨True.intro, True.intro, True.intro, True.intro, True.intro, True.intro, True.intro, True.intro⟩
  intro _ W35 hS36
  refine sqUE (st_stores (v := elV (chN (decide (i = x26)) y13 o)) (cs' := (elA (chN (decide (i = x26)) y13 o))) 1 hS36 rfl rfl rfl ag49 rfl (Nat.le_of_ble_eq_true rfl) (ones_of rfl) rfl) fun W37 hS38 => ?_
  refine blk_normal ?_
  show C _ _ _ _ _ _
  refine C_region ?_
  refine nm ((k : Int) + 1) fun x39 hx39 => ?_
  refine sqv (ex_add (x := (k : Int)) (y := 1) rfl rfl (w64 hx39 (by omega))) ?_
  refine sqv (ex_move (v := .int .i64 x39) rfl) ?_
  exact ⟨_, (by omega), ⟨_, (k + 1), (chN (decide (i = x26)) y13 o), Lt24, rfl, act_upds ⟨rfl, (congrArg (Value.int .u64) (by first | rfl | omega)), rfl, rfl, (congrArg (Value.int .i64) (by first | rfl | omega)), trivial⟩, (St.pickB (Lf := [some (b15, .cells (elA y13) 49), some (b4, .cells (elA (chN (decide (i = x26)) y13 o)) 49), some (b1, .cells (T.flatMap el).toArray 220)]) hS38 [1, 2] (by decide) rfl), (by omega), (by rw [show x26 = (k : Int) from by omega, ho]; exact scan_step hy14 g1.1), (by rw [kevs_succ, ← List.append_assoc]; exact hU25)⟩⟩
 refine C_exit ?_
 refine thn_exit ?_
 refine thn_exit ?_
 refine blk_exit ?_
 show C _ _ _ _ _ _
 refine C_sr ?_
 refine sqv (ex_loads (vs := (el o)) rfl (hS9.at 0 rfl) ag49 rfl rfl) ?_
 refine sqUE (st_stores (v := elV o) (cs' := (elA o)) 0 hS9 rfl rfl rfl ag49 rfl (Nat.le_of_ble_eq_true rfl) (ones_of rfl) rfl) fun W40 hS41 => ?_
 show C _ _ _ _ _ _
 refine C_ret ?_
 refine done_1 (v := elV o) rfl (res_row rfl (hS41.at 0 rfl) ag49 rfl) ?_
 obtain rfl : k = 16 := by omega
 exact ⟨_, by rw [ho], hUu, (St.pickB (Lf := [some (b4, .cells (elA o) 49), some (b1, .cells (T.flatMap el).toArray 220)]) hS41 [] (by decide) rfl).less (fun _ h => absurd h (by simp))⟩
theorem c_Bits (e : Nat) (at_ : Int) (w0 : World) (g0 : 0 ≤ at_ ∧ at_ < 256) (g1 : at_ % 4 = 0) : Calls Tryz.prog 182 #[elV e, .int .i64 at_, .int .i64 4] w0 (Ret fun uu w' => uu = .int .u64 (bits4 e at_ : Int) ∧ St [] w0 w' [] []) := by
 refine calls_of Tryz.func182 rfl Tryz.ntmps182 (Nat.le_of_ble_eq_true rfl) ?_
 have hS0 := St.nil w0
 refine C_sr ?_
 refine sqE (st_box (v := elV e) (cs := (elA e)) hS0 rfl rfl) fun b1 W2 hS3 => ?_
 refine sqv (ex_assign (v := .int .u64 0) rfl) ?_
 show C _ _ _ _ _ _
 refine C_seq ?_
 refine C_sr ?_
 refine sqv (ex_move (v := .int .i64 at_) rfl) ?_
 refine nm (decide (at_ < 0)) fun t4 ht4 => ?_
 refine sqv (ex_cmp (x := at_) (y := 0) rfl rfl ht4) ?_
 refine sqv (ex_move (v := .bool t4) rfl) ?_
 rcases bool_cases t4 with hb5 | hb5
 ·subst hb5
  have hb5 := of_decide_eq_true ht4.symm
  exact absurd hb5 (by omega)
 subst hb5
 have hb5 := of_decide_eq_false ht4.symm
 refine guard_yes (b := false) rfl rfl ?_
 refine sqv (ex_move (v := .int .i64 at_) rfl) ?_
 refine guard_yes (b := false) rfl rfl ?_
 refine nm (decide (256 ≤ at_)) fun t6 ht6 => ?_
 refine sqv (ex_cmp (x := at_) (y := 256) rfl rfl ht6) ?_
 refine sqv (ex_pick (t := false) (v := .bool t6) rfl rfl) ?_
 refine sqv (ex_move (v := .bool t6) rfl) ?_
 rcases bool_cases t6 with hb7 | hb7
 ·subst hb7
  have hb7 := of_decide_eq_true ht6.symm
  exact absurd hb7 (by omega)
 subst hb7
 have hb7 := of_decide_eq_false ht6.symm
 refine guard_yes (b := false) rfl rfl ?_
 refine sqv (ex_move (v := .int .i64 4) rfl) ?_
 refine guard_yes (b := false) rfl rfl ?_
 refine sqv (ex_cmp (x := 4) (y := 0) (r := false) rfl rfl rfl) ?_
 refine sqv (ex_pick (t := false) (v := .bool false) rfl rfl) ?_
 refine sqv (ex_move (v := .bool false) rfl) ?_
 refine guard_yes (b := false) rfl rfl ?_
 refine sqv (ex_move (v := .int .i64 4) rfl) ?_
 refine guard_yes (b := false) rfl rfl ?_
 refine sqv (ex_cmp (x := 4) (y := 64) (r := false) rfl rfl rfl) ?_
 refine sqv (ex_pick (t := false) (v := .bool false) rfl rfl) ?_
 show C _ _ _ _ _ _
 refine C_false rfl ?_
 refine C_skip ?_
 show C _ _ _ _ _ _
 refine C_sr ?_
 refine sqv (ex_move (v := .int .i64 at_) rfl) ?_
 refine nm (at_ / 64) fun x8 hx8 => ?_
 refine sqv (ex_quo (x := at_) (y := 64) rfl rfl (by omega) (w64q (hx8.trans (Int.tdiv_eq_ediv_of_nonneg (by omega)).symm) (by rw [Int.tdiv_eq_ediv_of_nonneg (by omega)]; omega))) ?_
 refine sqv (ex_move (v := .int .i64 at_) rfl) ?_
 refine nm (at_ % 64) fun x9 hx9 => ?_
 refine sqv (ex_rem (x := at_) (y := 64) rfl rfl (by omega) (hx9.trans (Int.tmod_eq_emod_of_nonneg (by omega)).symm)) ?_
 refine sqv (ex_assign (v := .int .i64 x8) rfl) ?_
 refine sqv (ex_assign (v := .int .i64 x9) rfl) ?_
 show C _ _ _ _ _ _
 refine C_sr ?_
 refine sqv (ex_move (v := .int .i64 x8) rfl) ?_
 obtain ⟨j10, hj11⟩ := ex_nat x8 (by omega)
 refine sqv (ex_index (j := x8) (o' := j10 * 1) rfl rfl ar40 (by omega) (by omega) (by omega)) ?_
 obtain ⟨y12, hy13⟩ := get_lt ([limb e 0, limb e 1, limb e 2, limb e 3]) j10 (by first | omega | (simp only [List.length_set, List.length_replicate, List.length_append, List.length_take, List.length_drop, List.length_cons, List.length_nil, List.length_map]; omega))
 refine sqv (ex_loadM (f := cU) (i := j10) (fun _ => rfl) rfl (hS3.at 0 rfl) on39 rfl hy13 rfl) ?_
 refine sqv (ex_move (v := .int .i64 x9) rfl) ?_
 refine nm (Int.fdiv y12 (2 ^ (min (Int.toNat x9) (IntKind.bits .u64)))) fun x14 hx14 => ?_
 refine sqv (ex_shr (x := y12) (y := x9) rfl rfl (by omega) hx14) ?_
 refine sqv (ex_assign (v := .int .u64 x14) rfl) ?_
 show C _ _ _ _ _ _
 refine C_seq ?_
 refine C_sr ?_
 refine sqv (ex_move (v := .int .i64 x8) rfl) ?_
 refine nm (x8 + 1) fun x15 hx15 => ?_
 refine sqv (ex_add (x := x8) (y := 1) rfl rfl (w64 hx15 (by omega))) ?_
 refine sqv (ex_cmp (x := x15) (y := 4) (r := decide (x15 < 4)) rfl rfl rfl) ?_
 show C _ _ _ _ _ _
 refine C_dec (x15 < 4) rfl (fun hc16 => ?_) (fun hc16 => ?_)
 ·refine C_region ?_
  refine sqv (ex_move (v := .int .u64 x14) rfl) ?_
  refine sqv (ex_move (v := .int .i64 x8) rfl) ?_
  refine nm (x8 + 1) fun x17 hx17 => ?_
  refine sqv (ex_add (x := x8) (y := 1) rfl rfl (w64 hx17 (by omega))) ?_
  obtain ⟨j18, hj19⟩ := ex_nat x17 (by omega)
  refine sqv (ex_index (j := x17) (o' := j18 * 1) rfl rfl ar40 (by omega) (by omega) (by omega)) ?_
  obtain ⟨y20, hy21⟩ := get_lt ([limb e 0, limb e 1, limb e 2, limb e 3]) j18 (by first | omega | (simp only [List.length_set, List.length_replicate, List.length_append, List.length_take, List.length_drop, List.length_cons, List.length_nil, List.length_map]; omega))
  refine sqv (ex_loadM (f := cU) (i := j18) (fun _ => rfl) rfl (hS3.at 0 rfl) on39 rfl hy21 rfl) ?_
  refine sqv (ex_move (v := .int .i64 x9) rfl) ?_
  refine nm (64 - x9) fun x22 hx22 => ?_
  refine sqv (ex_sub (x := 64) (y := x9) rfl rfl (w64 hx22 (by omega))) ?_
  refine nm (IntKind.wrap .u64 (y20 * 2 ^ (min (Int.toNat x22) (IntKind.bits .u64)))) fun x23 hx23 => ?_
  refine sqv (ex_shl (x := y20) (y := x22) rfl rfl (by omega) hx23) ?_
  refine nm (bitv .or .u64 x14 x23) fun x24 hx24 => ?_
  refine sqv (ex_bit (x := x14) (y := x23) rfl rfl hx24) ?_
  refine sqv (ex_assign (v := .int .u64 x24) rfl) ?_
  show C _ _ _ _ _ _
  refine C_seq ?_
  refine C_sr ?_
  refine sqv (ex_move (v := .int .i64 4) rfl) ?_
  refine sqv (ex_cmp (x := 4) (y := 64) (r := true) rfl rfl rfl) ?_
  show C _ _ _ _ _ _
  refine C_true rfl ?_
  refine C_region ?_
  refine sqv (ex_move (v := .int .u64 x24) rfl) ?_
  refine sqv (ex_move (v := .int .i64 4) rfl) ?_
  refine nm (IntKind.wrap .u64 (1 * 2 ^ (min (Int.toNat 4) (IntKind.bits .u64)))) fun x25 hx25 => ?_
  refine sqv (ex_shl (x := 1) (y := 4) rfl rfl (by omega) hx25) ?_
  refine nm ((x25 - 1) % 18446744073709551616) fun x26 hx26 => ?_
  refine sqv (ex_sub (x := x25) (y := 1) rfl rfl (wu64 hx26)) ?_
  refine nm (bitv .and .u64 x24 x26) fun x27 hx27 => ?_
  refine sqv (ex_bit (x := x24) (y := x26) rfl rfl hx27) ?_
  refine sqv (ex_assign (v := .int .u64 x27) rfl) ?_
  show C _ _ _ _ _ _
  refine C_sr ?_
  refine sqv (ex_move (v := .int .u64 x27) rfl) ?_
  refine sqv (ex_assign (v := .int .u64 x27) rfl) ?_
  show C _ _ _ _ _ _
  refine C_ret ?_
  refine done_1 (v := .int .u64 x27) rfl rfl ?_
  have hyl := limbs4 hy13
  have hyr : 0 ≤ y12 ∧ y12 < 18446744073709551616 := by rw [hyl]; exact ⟨limb_nonneg _ _, limb_lt _ _⟩
  have hxr := shr_range hyr hx14
  have hbr := shl_16 (s := x9) (by omega) hx22 hx23
  have hq := bits_last g0 g1 (j := j10) (by omega) hx9 hyl hx14 hx25 hx26 (by rw [hx24]; exact or_mod16 hxr hbr.1 hbr.2) (by rw [hx24]; exact bv_range .or (by simp) _ _) hx27
  exact ⟨by rw [hq], hS3.none⟩
 refine C_skip ?_
 show C _ _ _ _ _ _
 refine C_seq ?_
 refine C_sr ?_
 refine sqv (ex_move (v := .int .i64 4) rfl) ?_
 refine sqv (ex_cmp (x := 4) (y := 64) (r := true) rfl rfl rfl) ?_
 show C _ _ _ _ _ _
 refine C_true rfl ?_
 refine C_region ?_
 refine sqv (ex_move (v := .int .u64 x14) rfl) ?_
 refine sqv (ex_move (v := .int .i64 4) rfl) ?_
 refine nm (IntKind.wrap .u64 (1 * 2 ^ (min (Int.toNat 4) (IntKind.bits .u64)))) fun x28 hx28 => ?_
 refine sqv (ex_shl (x := 1) (y := 4) rfl rfl (by omega) hx28) ?_
 refine nm ((x28 - 1) % 18446744073709551616) fun x29 hx29 => ?_
 refine sqv (ex_sub (x := x28) (y := 1) rfl rfl (wu64 hx29)) ?_
 refine nm (bitv .and .u64 x14 x29) fun x30 hx30 => ?_
 refine sqv (ex_bit (x := x14) (y := x29) rfl rfl hx30) ?_
 refine sqv (ex_assign (v := .int .u64 x30) rfl) ?_
 show C _ _ _ _ _ _
 refine C_sr ?_
 refine sqv (ex_move (v := .int .u64 x30) rfl) ?_
 refine sqv (ex_assign (v := .int .u64 x30) rfl) ?_
 show C _ _ _ _ _ _
 refine C_ret ?_
 refine done_1 (v := .int .u64 x30) rfl rfl ?_
 have hyl := limbs4 hy13
 have hyr : 0 ≤ y12 ∧ y12 < 18446744073709551616 := by rw [hyl]; exact ⟨limb_nonneg _ _, limb_lt _ _⟩
 have hxr := shr_range hyr hx14
 have hq := bits_last g0 g1 (j := j10) (by omega) hx9 hyl hx14 hx28 hx29 rfl hxr hx30
 exact ⟨by rw [hq], hS3.none⟩
end Go.Proofs
end
section
set_option linter.unusedVariables false
set_option linter.unusedSimpArgs false
set_option maxRecDepth 20000
set_option maxHeartbeats 2000000
namespace Go.Proofs
open Sc
theorem en178 : enters Tryz.prog 178 = true := by kernel_rfl
theorem en179 : enters Tryz.prog 179 = true := by kernel_rfl
theorem en180 : enters Tryz.prog 180 = true := by kernel_rfl
theorem en181 : enters Tryz.prog 181 = true := by kernel_rfl
theorem en182 : enters Tryz.prog 182 = true := by kernel_rfl
theorem c_Pow (F : PrF) (x : Nat) (e : Nat) (t : Value) (ev : List Ev) (Lt : List Ent) (w0 : World) (g0 : FOk F) (g1 : x < F.p) (g2 : e < B256) (g3 : ev.length + 1088 < 1099511627776) (hT : Tp t ev Lt) (hL0 : St (bks Lt) w0 w0 Lt []) : Calls Tryz.prog 178 #[t, fdV F, elV x, elV e] w0 (Ret fun uu w' => ∃ (Lt' : List Ent), uu = elV (powW F x e 64) ∧ Tp t (ev ++ (pevs 64)) Lt' ∧ St (bks Lt) w0 w' ([] ++ Lt') []) := by
 have hF := g0
 refine calls_of Tryz.func178 rfl Tryz.ntmps178 (Nat.le_of_ble_eq_true rfl) ?_
 have hS0 := hL0
 refine C_sr ?_
 refine sqE (st_box (v := fdV F) (cs := (fdA F)) hS0 rfl rfl) fun b1 W2 hS3 => ?_
 refine sqE (st_box (v := elV x) (cs := (elA x)) hS3 rfl rfl) fun b4 W5 hS6 => ?_
 refine sqE (st_box (v := elV e) (cs := (elA e)) hS6 rfl rfl) fun b7 W8 hS9 => ?_
 refine sqE (st_alloc hS9 ze49) fun b10 W11 hS12 => ?_
 show C _ _ _ _ _ _
 refine C_sr ?_
 refine sqv (ex_loads (vs := (fdC F)) rfl (hS12.at 3 rfl) ag117 rfl rfl) ?_
 refine sqv (ex_loads (vs := (el x)) rfl (hS12.at 2 rfl) ag49 rfl rfl) ?_
 refine sqc (exe_call (args := #[fdV F, elV x]) en179 (args_of2 rfl rfl)) (c_tableOf F x W11 hF (by assumption)) ?_
 rintro _ W13 ⟨rfl, hT15⟩
 have hS14 := hS12.call hT15
 refine sqE (st_alloc hS14 zl220) fun b17 W18 hS19 => ?_
 refine sqUE (st_storeTab (f := el) (k := 4) (xs := (List.replicate 16 (0 : Nat))) (ys := (pwt F x)) (fun _ => rfl) (fun _ => ones_of rfl) 0 hS19 rfl rfl rfl ag220 (by rw [pwt_len]) (by rw [List.length_replicate])) fun W20 hS21 => ?_
 show C _ _ _ _ _ _
 refine C_sr ?_
 refine sqv (ex_field (o' := 6) rfl fi117_3 rfl) ?_
 refine sqv (ex_loads (vs := (el (F.one))) rfl (hS21.at 4 rfl) ag49 rfl rfl) ?_
 refine sqE (st_alloc hS21 ze49) fun b22 W23 hS24 => ?_
 refine sqUE (st_stores (v := elV F.one) (cs' := (elA (F.one))) 0 hS24 rfl rfl rfl ag49 rfl (Nat.le_of_ble_eq_true rfl) (ones_of rfl) rfl) fun W25 hS26 => ?_
 show C _ _ _ _ _ _
 refine C_seq ?_
 refine C_sr ?_
 refine sqv (ex_assign (v := .int .i64 63) rfl) ?_
 show C _ _ _ _ _ _
 refine C_block ?_
 refine C_loop (fun nn aa ww => ∃ (m0 : Nat → Value) (k o : Nat) (Lu : List Ent), nn = 64 - k ∧ aa = act 41 (upds m0 [(0, t), (5, pt b1), (7, pt b7), (8, pt b10), (9, pt b17), (10, pt b22), (11, .int .i64 (63 - (k : Int)))]) [] ∧ St (bks Lt) w0 ww ([some (b22, .cells (elA o) 49), some (b17, .cells ((pwt F x).flatMap el).toArray 220), some (b10, .cells #[.int .u64 0, .int .u64 0, .int .u64 0, .int .u64 0] 49), some (b7, .cells (elA e) 40), some (b4, .cells (elA x) 49), some (b1, .cells (fdA F) 117)] ++ Lu) [] ∧ (k ≤ 64) ∧ (o = powW F x e k) ∧ (o < F.p) ∧ (Tp t (ev ++ pevs k) Lu)) 64 ?_ ?_
 ·exact ⟨_, 0, F.one, Lt, rfl, act_upds ⟨rfl, rfl, rfl, rfl, rfl, rfl, (congrArg (Value.int .i64) (by first | rfl | omega)), trivial⟩, (St.pickB (Lf := [some (b22, .cells (elA (F.one)) 49), some (b17, .cells ((pwt F x).flatMap el).toArray 220), some (b10, .cells #[.int .u64 0, .int .u64 0, .int .u64 0, .int .u64 0] 49), some (b7, .cells (elA e) 40), some (b4, .cells (elA x) 49), some (b1, .cells (fdA F) 117)]) hS26 [0, 1, 2, 3, 4, 5] (by decide) rfl), (by decide), rfl, (f_one_lt hF), (by rw [show pevs 0 = [] from rfl, List.append_nil]; exact hT)⟩
 rintro n30 a31 W28 ⟨m27, k, o, Lu, rfl, rfl, hS29, hk, ho, hop, hUu⟩
 refine C_seq ?_
 refine C_sr ?_
 refine sqv (ex_move (v := .int .i64 (63 - (k : Int))) rfl) ?_
 refine sqv (ex_cmp (x := (63 - (k : Int))) (y := 0) (r := decide (0 ≤ (63 - (k : Int)))) rfl rfl rfl) ?_
 show C _ _ _ _ _ _
 refine C_dec (0 ≤ (63 - (k : Int))) rfl (fun hc32 => ?_) (fun hc32 => ?_)
 ·refine C_skip ?_
  show C _ _ _ _ _ _
  refine C_seq ?_
  refine C_block ?_
  refine C_sr ?_
  refine sqv (ex_move (v := t) rfl) ?_
  refine sqv (ex_move (v := .int .i64 (63 - (k : Int))) rfl) ?_
  refine sqc (exe_call (args := #[t, .int .i64 6, .int .i64 (63 - (k : Int)), .int .i64 0]) en52 (args_of4 rfl rfl rfl rfl)) (c_Note 6 (63 - (k : Int)) 0 t (ev ++ pevs k) Lu W28 (by rw [List.length_append, pevs_len]; omega) hUu (St.lend (Lf := [some (b22, .cells (elA o) 49), some (b17, .cells ((pwt F x).flatMap el).toArray 220), some (b10, .cells #[.int .u64 0, .int .u64 0, .int .u64 0, .int .u64 0] 49), some (b7, .cells (elA e) 40), some (b4, .cells (elA x) 49), some (b1, .cells (fdA F) 117)]) hS29)) ?_
  rintro _ W33 ⟨Lt37, rfl, hU38, hT35⟩
  have hS34 := St.callS (Lf := [some (b22, .cells (elA o) 49), some (b17, .cells ((pwt F x).flatMap el).toArray 220), some (b10, .cells #[.int .u64 0, .int .u64 0, .int .u64 0, .int .u64 0] 49), some (b7, .cells (elA e) 40), some (b4, .cells (elA x) 49), some (b1, .cells (fdA F) 117)]) (Ln := []) hS29 hT35
  show C _ _ _ _ _ _
  refine C_seq ?_
  refine C_sr ?_
  refine sqv (ex_move (v := .int .i64 0) rfl) ?_
  show C _ _ _ _ _ _
  refine C_block ?_
  refine C_unroll 5 ?_
  show C _ _ _ _ _ _
  refine C_sr ?_
  refine sqv (ex_cmp (x := 0) (y := 4) (r := true) rfl rfl rfl) ?_
  show C _ _ _ _ _ _
  refine C_seq ?_
  refine C_true rfl ?_
  refine C_skip ?_
  show C _ _ _ _ _ _
  refine C_seq ?_
  refine C_block ?_
  refine C_region ?_
  refine sqv (ex_loads (vs := (fdC F)) rfl (hS34.at 5 rfl) ag117 rfl rfl) ?_
  refine sqv (ex_loads (vs := (el o)) rfl (hS34.at 0 rfl) ag49 rfl rfl) ?_
  refine sqc (exe_call (args := #[fdV F, elV o]) en180 (args_of2 rfl rfl)) (c_mSquare F o W33 hF (by first | assumption | exact fMul_lt hF _ _)) ?_
  rintro _ W39 ⟨rfl, hT41⟩
  have hS40 := hS34.call hT41
  refine sqUE (st_stores (v := elV (fMul F o o)) (cs' := (elA (fMul F o o))) 0 hS40 rfl rfl rfl ag49 rfl (Nat.le_of_ble_eq_true rfl) (ones_of rfl) rfl) fun W43 hS44 => ?_
  refine blk_normal ?_
  show C _ _ _ _ _ _
  refine C_region ?_
  refine sqv (ex_add (x := 0) (y := 1) (r := 1) rfl rfl (by rfl)) ?_
  refine sqv (ex_move (v := .int .i64 1) rfl) ?_
  show C _ _ _ _ _ _
  refine C_sr ?_
  refine sqv (ex_cmp (x := 1) (y := 4) (r := true) rfl rfl rfl) ?_
  show C _ _ _ _ _ _
  refine C_seq ?_
  refine C_true rfl ?_
  refine C_skip ?_
  show C _ _ _ _ _ _
  refine C_seq ?_
  refine C_block ?_
  refine C_region ?_
  refine sqv (ex_loads (vs := (fdC F)) rfl (hS44.at 5 rfl) ag117 rfl rfl) ?_
  refine sqv (ex_loads (vs := (el (fMul F o o))) rfl (hS44.at 0 rfl) ag49 rfl rfl) ?_
  refine sqc (exe_call (args := #[fdV F, elV (fMul F o o)]) en180 (args_of2 rfl rfl)) (c_mSquare F (fMul F o o) W43 hF (by first | assumption | exact fMul_lt hF _ _)) ?_
  rintro _ W45 ⟨rfl, hT47⟩
  have hS46 := hS44.call hT47
  refine sqUE (st_stores (v := elV (fMul F (fMul F o o) (fMul F o o))) (cs' := (elA (fMul F (fMul F o o) (fMul F o o)))) 0 hS46 rfl rfl rfl ag49 rfl (Nat.le_of_ble_eq_true rfl) (ones_of rfl) rfl) fun W49 hS50 => ?_
  refine blk_normal ?_
  show C _ _ _ _ _ _
  refine C_region ?_
  refine sqv (ex_add (x := 1) (y := 1) (r := 2) rfl rfl (by rfl)) ?_
  refine sqv (ex_move (v := .int .i64 2) rfl) ?_
  show C _ _ _ _ _ _
  refine C_sr ?_
  refine sqv (ex_cmp (x := 2) (y := 4) (r := true) rfl rfl rfl) ?_
  show C _ _ _ _ _ _
  refine C_seq ?_
  refine C_true rfl ?_
  refine C_skip ?_
  show C _ _ _ _ _ _
  refine C_seq ?_
  refine C_block ?_
  refine C_region ?_
  refine sqv (ex_loads (vs := (fdC F)) rfl (hS50.at 5 rfl) ag117 rfl rfl) ?_
  refine sqv (ex_loads (vs := (el (fMul F (fMul F o o) (fMul F o o)))) rfl (hS50.at 0 rfl) ag49 rfl rfl) ?_
  refine sqc (exe_call (args := #[fdV F, elV (fMul F (fMul F o o) (fMul F o o))]) en180 (args_of2 rfl rfl)) (c_mSquare F (fMul F (fMul F o o) (fMul F o o)) W49 hF (by first | assumption | exact fMul_lt hF _ _)) ?_
  rintro _ W51 ⟨rfl, hT53⟩
  have hS52 := hS50.call hT53
  refine sqUE (st_stores (v := elV (fMul F (fMul F (fMul F o o) (fMul F o o)) (fMul F (fMul F o o) (fMul F o o)))) (cs' := (elA (fMul F (fMul F (fMul F o o) (fMul F o o)) (fMul F (fMul F o o) (fMul F o o))))) 0 hS52 rfl rfl rfl ag49 rfl (Nat.le_of_ble_eq_true rfl) (ones_of rfl) rfl) fun W55 hS56 => ?_
  refine blk_normal ?_
  show C _ _ _ _ _ _
  refine C_region ?_
  refine sqv (ex_add (x := 2) (y := 1) (r := 3) rfl rfl (by rfl)) ?_
  refine sqv (ex_move (v := .int .i64 3) rfl) ?_
  show C _ _ _ _ _ _
  refine C_sr ?_
  refine sqv (ex_cmp (x := 3) (y := 4) (r := true) rfl rfl rfl) ?_
  show C _ _ _ _ _ _
  refine C_seq ?_
  refine C_true rfl ?_
  refine C_skip ?_
  show C _ _ _ _ _ _
  refine C_seq ?_
  refine C_block ?_
  refine C_region ?_
  refine sqv (ex_loads (vs := (fdC F)) rfl (hS56.at 5 rfl) ag117 rfl rfl) ?_
  refine sqv (ex_loads (vs := (el (fMul F (fMul F (fMul F o o) (fMul F o o)) (fMul F (fMul F o o) (fMul F o o))))) rfl (hS56.at 0 rfl) ag49 rfl rfl) ?_
  refine sqc (exe_call (args := #[fdV F, elV (fMul F (fMul F (fMul F o o) (fMul F o o)) (fMul F (fMul F o o) (fMul F o o)))]) en180 (args_of2 rfl rfl)) (c_mSquare F (fMul F (fMul F (fMul F o o) (fMul F o o)) (fMul F (fMul F o o) (fMul F o o))) W55 hF (by first | assumption | exact fMul_lt hF _ _)) ?_
  rintro _ W57 ⟨rfl, hT59⟩
  have hS58 := hS56.call hT59
  refine sqUE (st_stores (v := elV (fMul F (fMul F (fMul F (fMul F o o) (fMul F o o)) (fMul F (fMul F o o) (fMul F o o))) (fMul F (fMul F (fMul F o o) (fMul F o o)) (fMul F (fMul F o o) (fMul F o o))))) (cs' := (elA (fMul F (fMul F (fMul F (fMul F o o) (fMul F o o)) (fMul F (fMul F o o) (fMul F o o))) (fMul F (fMul F (fMul F o o) (fMul F o o)) (fMul F (fMul F o o) (fMul F o o)))))) 0 hS58 rfl rfl rfl ag49 rfl (Nat.le_of_ble_eq_true rfl) (ones_of rfl) rfl) fun W61 hS62 => ?_
  refine blk_normal ?_
  show C _ _ _ _ _ _
  refine C_region ?_
  refine sqv (ex_add (x := 3) (y := 1) (r := 4) rfl rfl (by rfl)) ?_
  refine sqv (ex_move (v := .int .i64 4) rfl) ?_
  show C _ _ _ _ _ _
  refine C_sr ?_
  refine sqv (ex_cmp (x := 4) (y := 4) (r := false) rfl rfl rfl) ?_
  show C _ _ _ _ _ _
  refine C_seq ?_
  refine C_false rfl ?_
  refine C_exit ?_
  refine thn_exit ?_
  refine thn_exit ?_
  refine blk_exit ?_
  show C _ _ _ _ _ _
  refine nm ((63 - (k : Int)) * 4) fun x63 hx63 => ?_
  refine C_draw (p := 10) (l := [(some 30, fdV F), (some 31, elV (fMul F (fMul F (fMul F (fMul F o o) (fMul F o o)) (fMul F (fMul F o o) (fMul F o o))) (fMul F (fMul F (fMul F o o) (fMul F o o)) (fMul F (fMul F o o) (fMul F o o))))), (some 32, .agg ((pwt F x).flatMap el).toArray), (some 33, t), (some 34, elV e), (some 35, .int .i64 (63 - (k : Int))), (some 36, .int .i64 x63), (some 37, .int .u64 (bits4 e x63 : Int)), (some 38, undef), (some 39, undef)]) (G := [8]) (J := fun w => St (bks Lt) w0 w ([some (b22, .cells (elA (fMul F (fMul F (fMul F (fMul F o o) (fMul F o o)) (fMul F (fMul F o o) (fMul F o o))) (fMul F (fMul F (fMul F o o) (fMul F o o)) (fMul F (fMul F o o) (fMul F o o))))) 49), some (b17, .cells ((pwt F x).flatMap el).toArray 220), some (b10, .cells #[.int .u64 0, .int .u64 0, .int .u64 0, .int .u64 0] 49), some (b7, .cells (elA e) 40), some (b4, .cells (elA x) 49), some (b1, .cells (fdA F) 117)] ++ Lt37) []) mixed ?_ (hS62.draw _)
  refine node1 10 [8] [] [9] (by kernel_rfl) rfl rfl (nd rfl) rfl (by kernel_rfl) ?_ ?_ ?_
  ·intro S wd hSd
   refine ⟨n0 rfl rfl rfl (ex_loads (vs := (fdC F)) rfl (hSd.at 5 rfl) ag117 rfl rfl) rfl hSd, n0 rfl rfl rfl (ex_loads (vs := (el (fMul F (fMul F (fMul F (fMul F o o) (fMul F o o)) (fMul F (fMul F o o) (fMul F o o))) (fMul F (fMul F (fMul F o o) (fMul F o o)) (fMul F (fMul F o o) (fMul F o o)))))) rfl (hSd.at 0 rfl) ag49 rfl rfl) rfl hSd, n0 rfl rfl rfl (ex_loadTab (f := el) (k := 4) (xs := (pwt F x)) (fun _ => rfl) rfl (hSd.at 1 rfl) ag220 (by rw [pwt_len])) rfl hSd, n0 rfl rfl rfl (ex_move (v := t) rfl) rfl hSd, n0 rfl rfl rfl (ex_loads (vs := (el e)) rfl (hSd.at 3 rfl) ag40 rfl rfl) rfl hSd, n0 rfl rfl rfl (ex_move (v := .int .i64 (63 - (k : Int))) rfl) rfl hSd, n1 rfl rfl rfl rfl (fun hq5 => (ex_mul (x := (63 - (k : Int))) (y := 4) (evS hq5 rfl rfl) rfl (w64 hx63 (by omega)))) rfl hSd, ?_, sG rfl, sG rfl, tt⟩
   refine needG rfl ?_
   rintro ⟨hq4, hq6, _⟩ hno
   refine dxC (wanted_none rfl) rfl (exe_call (args := #[elV e, .int .i64 x63, .int .i64 4]) en182 (args_of3 (evS hq4 rfl rfl) (evS hq6 rfl rfl) rfl)) (c_Bits e x63 wd (by omega) (by omega)) ?_
   rintro _ W64 ⟨rfl, hT66⟩
   have hS65 := hSd.call hT66
   exact ⟨rfl, hS65⟩
  ·intro S wd hSd
   refine ⟨tt, tt, tt, tt, tt, tt, tt, tt, ?_, tt, tt⟩
   refine needH rfl ?_
   rintro ⟨hq2, hq3, hq7, hq7, _⟩ hno
   refine dxC (wanted_none rfl) rfl (exe_call (args := #[.agg ((pwt F x).flatMap el).toArray, t, .int .u64 (bits4 e x63 : Int)]) en181 (args_of3 (evS hq2 rfl rfl) (evS hq3 rfl rfl) (evS hq7 rfl rfl))) (c_scan (pwt F x) (bits4 e x63 : Int) t ((ev ++ pevs k) ++ ([⟨6, (63 - (k : Int)), 0⟩])) Lt37 wd (pwt_len _ _) ⟨Int.natCast_nonneg _, Int.lt_of_lt_of_le (Int.ofNat_lt.2 (bits4_lt _ _)) (by decide)⟩ (by simp [pevs_len]; omega) hU38 (St.lend (Lf := [some (b22, .cells (elA (fMul F (fMul F (fMul F (fMul F o o) (fMul F o o)) (fMul F (fMul F o o) (fMul F o o))) (fMul F (fMul F (fMul F o o) (fMul F o o)) (fMul F (fMul F o o) (fMul F o o))))) 49), some (b17, .cells ((pwt F x).flatMap el).toArray 220), some (b10, .cells #[.int .u64 0, .int .u64 0, .int .u64 0, .int .u64 0] 49), some (b7, .cells (elA e) 40), some (b4, .cells (elA x) 49), some (b1, .cells (fdA F) 117)]) hSd)) ?_
   rintro _ W68 ⟨Lt72, rfl, hU73, hT70⟩
   have hS69 := St.callS (Lf := [some (b22, .cells (elA (fMul F (fMul F (fMul F (fMul F o o) (fMul F o o)) (fMul F (fMul F o o) (fMul F o o))) (fMul F (fMul F (fMul F o o) (fMul F o o)) (fMul F (fMul F o o) (fMul F o o))))) 49), some (b17, .cells ((pwt F x).flatMap el).toArray 220), some (b10, .cells #[.int .u64 0, .int .u64 0, .int .u64 0, .int .u64 0] 49), some (b7, .cells (elA e) 40), some (b4, .cells (elA x) 49), some (b1, .cells (fdA F) 117)]) (Ln := []) hSd hT70
   refine ⟨fun w => St (bks Lt) w0 w ([some (b22, .cells (elA (fMul F (fMul F (fMul F (fMul F o o) (fMul F o o)) (fMul F (fMul F o o) (fMul F o o))) (fMul F (fMul F (fMul F o o) (fMul F o o)) (fMul F (fMul F o o) (fMul F o o))))) 49), some (b17, .cells ((pwt F x).flatMap el).toArray 220), some (b10, .cells #[.int .u64 0, .int .u64 0, .int .u64 0, .int .u64 0] 49), some (b7, .cells (elA e) 40), some (b4, .cells (elA x) 49), some (b1, .cells (fdA F) 117)] ++ Lt72) [], [(some 30, fdV F), (some 31, elV (fMul F (fMul F (fMul F (fMul F o o) (fMul F o o)) (fMul F (fMul F o o) (fMul F o o))) (fMul F (fMul F (fMul F o o) (fMul F o o)) (fMul F (fMul F o o) (fMul F o o))))), (some 32, .agg ((pwt F x).flatMap el).toArray), (some 33, t), (some 34, elV e), (some 35, .int .i64 (63 - (k : Int))), (some 36, .int .i64 x63), (some 37, .int .u64 (bits4 e x63 : Int)), (some 38, elV (scanL (pwt F x) (bits4 e x63 : Int) 16)), (some 39, elV (fMul F (fMul F (fMul F (fMul F (fMul F o o) (fMul F o o)) (fMul F (fMul F o o) (fMul F o o))) (fMul F (fMul F (fMul F o o) (fMul F o o)) (fMul F (fMul F o o) (fMul F o o)))) (scanL (pwt F x) (bits4 e x63 : Int) 16)))], [9], hS69, by kernel_rfl, ⟨rfl, rfl, rfl, rfl, rfl, rfl, rfl, rfl, rfl, rfl, rfl, rfl, rfl, rfl, rfl, rfl, rfl, True.intro, rfl, True.intro, True.intro⟩, rfl, ?_⟩
   show Sc.Node _ _ _ _ _ _ _ 10 [(some 30, fdV F), (some 31, elV (fMul F (fMul F (fMul F (fMul F o o) (fMul F o o)) (fMul F (fMul F o o) (fMul F o o))) (fMul F (fMul F (fMul F o o) (fMul F o o)) (fMul F (fMul F o o) (fMul F o o))))), (some 32, .agg ((pwt F x).flatMap el).toArray), (some 33, t), (some 34, elV e), (some 35, .int .i64 (63 - (k : Int))), (some 36, .int .i64 x63), (some 37, .int .u64 (bits4 e x63 : Int)), (some 38, elV (scanL (pwt F x) (bits4 e x63 : Int) 16)), (some 39, elV (fMul F (fMul F (fMul F (fMul F (fMul F o o) (fMul F o o)) (fMul F (fMul F o o) (fMul F o o))) (fMul F (fMul F (fMul F o o) (fMul F o o)) (fMul F (fMul F o o) (fMul F o o)))) (scanL (pwt F x) (bits4 e x63 : Int) 16)))] [] [8] _
   refine node1 10 [] [8] [] (by kernel_rfl) rfl rfl (nd rfl) rfl (by kernel_rfl) ?_ ?_ ?_
   ·intro S wd hSd
    refine ⟨n0 rfl rfl rfl (ex_loads (vs := (fdC F)) rfl (hSd.at 5 rfl) ag117 rfl rfl) rfl hSd, n0 rfl rfl rfl (ex_loads (vs := (el (fMul F (fMul F (fMul F (fMul F o o) (fMul F o o)) (fMul F (fMul F o o) (fMul F o o))) (fMul F (fMul F (fMul F o o) (fMul F o o)) (fMul F (fMul F o o) (fMul F o o)))))) rfl (hSd.at 0 rfl) ag49 rfl rfl) rfl hSd, n0 rfl rfl rfl (ex_loadTab (f := el) (k := 4) (xs := (pwt F x)) (fun _ => rfl) rfl (hSd.at 1 rfl) ag220 (by rw [pwt_len])) rfl hSd, n0 rfl rfl rfl (ex_move (v := t) rfl) rfl hSd, n0 rfl rfl rfl (ex_loads (vs := (el e)) rfl (hSd.at 3 rfl) ag40 rfl rfl) rfl hSd, n0 rfl rfl rfl (ex_move (v := .int .i64 (63 - (k : Int))) rfl) rfl hSd, n1 rfl rfl rfl rfl (fun hq5 => (ex_mul (x := (63 - (k : Int))) (y := 4) (evS hq5 rfl rfl) rfl (w64 hx63 (by omega)))) rfl hSd, ?_, sG rfl, ?_, tt⟩
    ·refine needG rfl ?_
     rintro ⟨hq4, hq6, _⟩ hno
     refine dxC (wanted_none rfl) rfl (exe_call (args := #[elV e, .int .i64 x63, .int .i64 4]) en182 (args_of3 (evS hq4 rfl rfl) (evS hq6 rfl rfl) rfl)) (c_Bits e x63 wd (by omega) (by omega)) ?_
     rintro _ W64 ⟨rfl, hT66⟩
     have hS65 := hSd.call hT66
     exact ⟨rfl, hS65⟩
    refine needG rfl ?_
    rintro ⟨hq0, hq1, hq8, hq8, _⟩ hno
    refine dxC (wanted_none rfl) rfl (exe_call (args := #[fdV F, elV (fMul F (fMul F (fMul F (fMul F o o) (fMul F o o)) (fMul F (fMul F o o) (fMul F o o))) (fMul F (fMul F (fMul F o o) (fMul F o o)) (fMul F (fMul F o o) (fMul F o o)))), elV (scanL (pwt F x) (bits4 e x63 : Int) 16)]) en116 (args_of3 (evS hq0 rfl rfl) (evS hq1 rfl rfl) (evS hq8 rfl rfl))) (c_mMul F (fMul F (fMul F (fMul F (fMul F o o) (fMul F o o)) (fMul F (fMul F o o) (fMul F o o))) (fMul F (fMul F (fMul F o o) (fMul F o o)) (fMul F (fMul F o o) (fMul F o o)))) (scanL (pwt F x) (bits4 e x63 : Int) 16) wd hF (fMul_lt hF _ _) (by rw [scan_pws]; exact lt_of_p hF (pws_lt hF _ _))) ?_
    rintro _ W74 ⟨rfl, hT76⟩
    have hS75 := hSd.call hT76
    exact ⟨rfl, hS75⟩
   ·exact fun S wd hSd => ⟨True.intro, True.intro, True.intro, True.intro, True.intro, True.intro, True.intro, True.intro, True.intro, True.intro, True.intro⟩
   intro _ W78 hS79
   refine sqUE (st_stores (v := elV (fMul F (fMul F (fMul F (fMul F (fMul F o o) (fMul F o o)) (fMul F (fMul F o o) (fMul F o o))) (fMul F (fMul F (fMul F o o) (fMul F o o)) (fMul F (fMul F o o) (fMul F o o)))) (scanL (pwt F x) (bits4 e x63 : Int) 16))) (cs' := #[.int .u64 (limb (fMul F (fMul F (fMul F (fMul F (fMul F o o) (fMul F o o)) (fMul F (fMul F o o) (fMul F o o))) (fMul F (fMul F (fMul F o o) (fMul F o o)) (fMul F (fMul F o o) (fMul F o o)))) (scanL (pwt F x) (bits4 e x63 : Int) 16)) 0), .int .u64 (limb (fMul F (fMul F (fMul F (fMul F (fMul F o o) (fMul F o o)) (fMul F (fMul F o o) (fMul F o o))) (fMul F (fMul F (fMul F o o) (fMul F o o)) (fMul F (fMul F o o) (fMul F o o)))) (scanL (pwt F x) (bits4 e x63 : Int) 16)) 1), .int .u64 (limb (fMul F (fMul F (fMul F (fMul F (fMul F o o) (fMul F o o)) (fMul F (fMul F o o) (fMul F o o))) (fMul F (fMul F (fMul F o o) (fMul F o o)) (fMul F (fMul F o o) (fMul F o o)))) (scanL (pwt F x) (bits4 e x63 : Int) 16)) 2), .int .u64 (limb (fMul F (fMul F (fMul F (fMul F (fMul F o o) (fMul F o o)) (fMul F (fMul F o o) (fMul F o o))) (fMul F (fMul F (fMul F o o) (fMul F o o)) (fMul F (fMul F o o) (fMul F o o)))) (scanL (pwt F x) (bits4 e x63 : Int) 16)) 3)]) 0 hS79 rfl rfl rfl ag49 rfl (Nat.le_of_ble_eq_true rfl) (ones_of rfl) rfl) fun W80 hS81 => ?_
   refine blk_normal ?_
   show C _ _ _ _ _ _
   refine C_region ?_
   refine sqv (ex_move (v := .int .i64 (63 - (k : Int))) rfl) ?_
   refine nm ((63 - (k : Int)) - 1) fun x82 hx82 => ?_
   refine sqv (ex_sub (x := (63 - (k : Int))) (y := 1) rfl rfl (w64 hx82 (by omega))) ?_
   refine sqv (ex_assign (v := .int .i64 x82) rfl) ?_
   exact ⟨_, (by omega), ⟨_, (k + 1), (fMul F (fMul F (fMul F (fMul F (fMul F o o) (fMul F o o)) (fMul F (fMul F o o) (fMul F o o))) (fMul F (fMul F (fMul F o o) (fMul F o o)) (fMul F (fMul F o o) (fMul F o o)))) (scanL (pwt F x) (bits4 e x63 : Int) 16)), Lt72, rfl, act_upds ⟨rfl, rfl, rfl, rfl, rfl, rfl, (congrArg (Value.int .i64) (by first | rfl | omega)), trivial⟩, (St.pickB (Lf := [some (b22, .cells #[.int .u64 (limb (fMul F (fMul F (fMul F (fMul F (fMul F o o) (fMul F o o)) (fMul F (fMul F o o) (fMul F o o))) (fMul F (fMul F (fMul F o o) (fMul F o o)) (fMul F (fMul F o o) (fMul F o o)))) (scanL (pwt F x) (bits4 e x63 : Int) 16)) 0), .int .u64 (limb (fMul F (fMul F (fMul F (fMul F (fMul F o o) (fMul F o o)) (fMul F (fMul F o o) (fMul F o o))) (fMul F (fMul F (fMul F o o) (fMul F o o)) (fMul F (fMul F o o) (fMul F o o)))) (scanL (pwt F x) (bits4 e x63 : Int) 16)) 1), .int .u64 (limb (fMul F (fMul F (fMul F (fMul F (fMul F o o) (fMul F o o)) (fMul F (fMul F o o) (fMul F o o))) (fMul F (fMul F (fMul F o o) (fMul F o o)) (fMul F (fMul F o o) (fMul F o o)))) (scanL (pwt F x) (bits4 e x63 : Int) 16)) 2), .int .u64 (limb (fMul F (fMul F (fMul F (fMul F (fMul F o o) (fMul F o o)) (fMul F (fMul F o o) (fMul F o o))) (fMul F (fMul F (fMul F o o) (fMul F o o)) (fMul F (fMul F o o) (fMul F o o)))) (scanL (pwt F x) (bits4 e x63 : Int) 16)) 3)] 49), some (b17, .cells ((pwt F x).flatMap el).toArray 220), some (b10, .cells #[.int .u64 0, .int .u64 0, .int .u64 0, .int .u64 0] 49), some (b7, .cells (elA e) 40), some (b4, .cells (elA x) 49), some (b1, .cells (fdA F) 117)]) hS81 [0, 1, 2, 3, 4, 5] (by decide) rfl), (by omega), (pow_step (by omega) hx63 ho), (fMul_lt hF _ _), (by rw [pevs, ← List.append_assoc]; simpa using hU73)⟩⟩
  exact fun h => absurd h (by decide)
 refine C_exit ?_
 refine thn_exit ?_
 refine thn_exit ?_
 refine blk_exit ?_
 show C _ _ _ _ _ _
 refine C_sr ?_
 refine sqv (ex_loads (vs := (el o)) rfl (hS29.at 0 rfl) ag49 rfl rfl) ?_
 refine sqUE (st_stores (v := elV o) (cs' := (elA o)) 2 hS29 rfl rfl rfl ag49 rfl (Nat.le_of_ble_eq_true rfl) (ones_of rfl) rfl) fun W83 hS84 => ?_
 show C _ _ _ _ _ _
 refine C_ret ?_
 refine done_1 (v := elV o) rfl (res_row rfl (hS84.at 2 rfl) ag49 rfl) ?_
 obtain rfl : k = 64 := by omega
 exact ⟨_, by rw [ho], hUu, (St.pickB (Lf := [some (b22, .cells (elA o) 49), some (b17, .cells ((pwt F x).flatMap el).toArray 220), some (b10, .cells (elA o) 49), some (b7, .cells (elA e) 40), some (b4, .cells (elA x) 49), some (b1, .cells (fdA F) 117)]) hS84 [] (by decide) rfl).less (fun _ h => absurd h (by simp))⟩
theorem c_Inverse (F : PrF) (x : Nat) (t : Value) (ev : List Ev) (Lt : List Ent) (w0 : World) (g0 : FOk F) (g1 : x < F.p) (g2 : ev.length + 1088 < 1099511627776) (hT : Tp t ev Lt) (hL0 : St (bks Lt) w0 w0 Lt []) : Calls Tryz.prog 165 #[t, fdV F, elV x] w0 (Ret fun uu w' => ∃ (Lt' : List Ent), uu = elV (fInv F x) ∧ Tp t (ev ++ (pevs 64)) Lt' ∧ St (bks Lt) w0 w' ([] ++ Lt') []) := by
 have hF := g0
 refine calls_of Tryz.func165 rfl Tryz.ntmps165 (Nat.le_of_ble_eq_true rfl) ?_
 have hS0 := hL0
 refine C_sr ?_
 refine sqE (st_box (v := fdV F) (cs := (fdA F)) hS0 rfl rfl) fun b1 W2 hS3 => ?_
 refine sqE (st_box (v := elV x) (cs := (elA x)) hS3 rfl rfl) fun b4 W5 hS6 => ?_
 refine sqE (st_alloc hS6 ze49) fun b7 W8 hS9 => ?_
 show C _ _ _ _ _ _
 refine C_sr ?_
 refine sqv (ex_field (o' := 1) rfl fi117_1 rfl) ?_
 refine sqv (ex_loads (vs := (el (F.p))) rfl (hS9.at 2 rfl) ag40 rfl rfl) ?_
 refine sqv (ex_build (vs := [(0, .int .u64 2)]) (cells := #[.int .u64 2, .int .u64 0, .int .u64 0, .int .u64 0]) rfl (by kernel_rfl)) ?_
 refine sqc (exe_call (args := #[elV F.p, .agg #[.int .u64 2, .int .u64 0, .int .u64 0, .int .u64 0]]) en158 (args_of2 rfl rfl)) (c_lSub F.p 2 W8 (f_lt hF) (by decide)) ?_
 rintro _ W10 ⟨rfl, hT12⟩
 have hS11 := hS9.call hT12
 refine sqv (ex_move (v := .tuple #[elV (subN F.p 2), .int .u64 (bI (decide (F.p < 2)))]) rfl) ?_
 refine sqv (ex_extract (v := elV (subN F.p 2)) rfl rfl) ?_
 refine sqv (ex_extract (v := .int .u64 (bI (decide (F.p < 2)))) rfl rfl) ?_
 refine sqE (st_alloc hS11 ze40) fun b14 W15 hS16 => ?_
 refine sqUE (st_stores (v := elV (subN F.p 2)) (cs' := (elA (subN F.p 2))) 0 hS16 rfl rfl rfl ag40 rfl (Nat.le_of_ble_eq_true rfl) (ones_of rfl) rfl) fun W17 hS18 => ?_
 refine sqv (ex_assign (v := .int .u64 (bI (decide (F.p < 2)))) rfl) ?_
 show C _ _ _ _ _ _
 refine C_sr ?_
 refine sqv (ex_move (v := t) rfl) ?_
 refine sqv (ex_loads (vs := (fdC F)) rfl (hS18.at 3 rfl) ag117 rfl rfl) ?_
 refine sqv (ex_loads (vs := (el x)) rfl (hS18.at 2 rfl) ag49 rfl rfl) ?_
 refine sqv (ex_loads (vs := (el (subN F.p 2))) rfl (hS18.at 0 rfl) ag40 rfl rfl) ?_
 refine sqc (exe_call (args := #[t, fdV F, elV x, elV (subN F.p 2)]) en178 (args_of4 rfl rfl rfl rfl)) (c_Pow F x (subN F.p 2) t ev Lt W17 hF (by assumption) (subN_lt _ _) (by omega) hT (St.lend (Lf := [some (b14, .cells (elA (subN F.p 2)) 40), some (b7, .cells #[.int .u64 0, .int .u64 0, .int .u64 0, .int .u64 0] 49), some (b4, .cells (elA x) 49), some (b1, .cells (fdA F) 117)]) hS18)) ?_
 rintro _ W19 ⟨Lt23, rfl, hU24, hT21⟩
 have hS20 := St.callS (Lf := [some (b14, .cells (elA (subN F.p 2)) 40), some (b7, .cells #[.int .u64 0, .int .u64 0, .int .u64 0, .int .u64 0] 49), some (b4, .cells (elA x) 49), some (b1, .cells (fdA F) 117)]) (Ln := []) hS18 hT21
 refine sqUE (st_stores (v := elV (powW F x (subN F.p 2) 64)) (cs' := (elA (powW F x (subN F.p 2) 64))) 1 hS20 rfl rfl rfl ag49 rfl (Nat.le_of_ble_eq_true rfl) (ones_of rfl) rfl) fun W25 hS26 => ?_
 show C _ _ _ _ _ _
 refine C_ret ?_
 refine done_1 (v := elV (powW F x (subN F.p 2) 64)) rfl (res_row rfl (hS26.at 1 rfl) ag49 rfl) ?_
 exact ⟨_, by subst_vars; rfl, hU24, (St.pickB (Lf := [some (b14, .cells (elA (subN F.p 2)) 40), some (b7, .cells (elA (powW F x (subN F.p 2) 64)) 49), some (b4, .cells (elA x) 49), some (b1, .cells (fdA F) 117)]) hS26 [] (by decide) rfl).less (fun _ h => absurd h (by simp))⟩
end Go.Proofs
end
section
set_option linter.unusedVariables false
set_option linter.unusedSimpArgs false
set_option maxRecDepth 20000
set_option maxHeartbeats 2000000
namespace Go.Proofs
open Sc
theorem en161 : enters Tryz.prog 161 = true := by kernel_rfl
theorem en162 : enters Tryz.prog 162 = true := by kernel_rfl
theorem en164 : enters Tryz.prog 164 = true := by kernel_rfl
theorem en165 : enters Tryz.prog 165 = true := by kernel_rfl
theorem bat_set {F : PrF} {cs q : List Nat} {jj i y z iv : Nat} (h3 : ∀ i x, cs.length - jj ≤ i → cs[i]? = some x → q[i]? = some (batE F cs i x)) (hl : q.length = cs.length) (hij : i + jj + 1 = cs.length) (hy : cs[i]? = some y) (hz : z = bpre F cs i) (hiv : iv = bsuf F (fInv F (bpre F cs cs.length)) (cs.drop (cs.length - jj))) :
    ∀ k x, cs.length - (jj + 1) ≤ k → cs[k]? = some x → (q.set i (chN (decide (y = 0)) 0 (fMul F z iv)))[k]? = some (batE F cs k x) := by
 intro k x h1 h2
 rw [List.getElem?_set]
 by_cases hk : i = k
 ·subst hk
  rw [hy] at h2; cases h2
  rw [if_pos rfl, if_pos (by omega), hz, hiv, show cs.length - jj = i + 1 from by omega]; rfl
 rw [if_neg hk]; exact h3 k x (by omega) h2
theorem c_Batch (F : PrF) (c : Value) (cs : List Nat) (Z0 : List Fact) (t : Value) (ev : List Ev) (Lt : List Ent) (w0 : World) (g0 : FOk F) (g1 : ∀ y ∈ cs, y < F.p) (g2 : ev.length + 2 * cs.length + 1088 < 1099511627776) (hZ0 : Holds w0 Z0) (hO0 : Off (bks Lt) Z0) (hs_c : Sl Z0 49 4 c (cs.flatMap el)) (hT : Tp t ev Lt) (hL0 : St (bks Lt) w0 w0 Lt []) : Calls Tryz.prog 142 #[t, fdV F, c] w0 (Ret fun uu w' => ∃ (v : Value), ∃ (en : Ent), ∃ (Lt' : List Ent), uu = v ∧ (Own 49 4 el v (batL F cs) en) ∧ Tp t (ev ++ (batEv (cs).length)) Lt' ∧ St (bks Lt) w0 w' ([en] ++ Lt') []) := by
 have hF := g0
 have hlen := sl_lt (f := el) (k := 4) (fun _ => rfl) (by decide) hs_c
 refine callsM_of Tryz.func142 rfl Tryz.ntmps142 (Nat.le_of_ble_eq_true rfl) ?_
 have hS0 := hL0
 refine C_sr ?_
 refine sqE (st_box (v := fdV F) (cs := (fdA F)) hS0 rfl rfl) fun b1 W2 hS3 => ?_
 refine sqv (ex_assign (v := .slice none 0 0) rfl) ?_
 show C _ _ _ _ _ _
 refine C_seq ?_
 refine C_sr ?_
 refine sqv (ex_move (v := c) rfl) ?_
 refine sqv (ex_lenO (f := el) (k := 4) (r := (cs.length : Int)) (fun _ => rfl) (by decide) (hs_c) rfl sl44 rfl) ?_
 refine sqv (ex_cmp (x := (cs.length : Int)) (y := 0) (r := decide ((cs.length : Int) = 0)) rfl rfl rfl) ?_
 show C _ _ _ _ _ _
 refine C_dec ((cs.length : Int) = 0) rfl (fun hc4 => ?_) (fun hc4 => ?_)
 ·refine C_sr ?_
  refine sqv (ex_assign (v := .slice none 0 0) rfl) ?_
  show C _ _ _ _ _ _
  refine C_ret ?_
  refine thn_ret ?_
  refine doneM_1 (rs := []) (v := .slice none 0 0) (.inr rfl) rfl rfl ?_
  refine ⟨rfl, ?_⟩
  exact ⟨_, none, _, rfl, by rw [show batL F cs = [] from by have : cs = [] := List.length_eq_zero_iff.1 (by omega); rw [this]; rfl]; exact Own.nil _ _ _, (by rw [show batEv cs.length = [] from by unfold batEv; rw [if_pos (by omega)], List.append_nil]; exact hT), St.non ((St.pickB (Lf := [some (b1, .cells (fdA F) 117)]) hS3 [] (by decide) rfl))⟩
 refine C_skip ?_
 show C _ _ _ _ _ _
 refine C_sr ?_
 refine sqv (ex_move (v := c) rfl) ?_
 refine sqv (ex_lenO (f := el) (k := 4) (r := (cs.length : Int)) (fun _ => rfl) (by decide) (hs_c) rfl sl44 rfl) ?_
 refine sqE (st_makeM (f := el) (k := 4) 0 cs.length hS3 sl44 ze49 (by rfl) rfl (by decide) rfl rfl rfl (by omega) (by omega)) fun b5 W6 hS7 => ?_
 refine sqE (st_alloc hS7 ze44) fun b8 W9 hS10 => ?_
 refine sqUE (st_store (v := .slice (so b5) cs.length cs.length) (cs' := #[.slice (so b5) cs.length cs.length]) 0 hS10 rfl rfl rfl on44 rfl (Nat.le_of_ble_eq_true rfl) rfl rfl) fun W11 hS12 => ?_
 show C _ _ _ _ _ _
 refine C_sr ?_
 refine sqv (ex_field (o' := 6) rfl fi117_3 rfl) ?_
 refine sqv (ex_loads (vs := (el (F.one))) rfl (hS12.at 2 rfl) ag49 rfl rfl) ?_
 refine sqE (st_alloc hS12 ze49) fun b13 W14 hS15 => ?_
 refine sqUE (st_stores (v := elV F.one) (cs' := (elA (F.one))) 0 hS15 rfl rfl rfl ag49 rfl (Nat.le_of_ble_eq_true rfl) (ones_of rfl) rfl) fun W16 hS17 => ?_
 show C _ _ _ _ _ _
 refine C_seq ?_
 refine C_sr ?_
 refine sqv (ex_move (v := t) rfl) ?_
 refine sqv (ex_move (v := c) rfl) ?_
 refine sqc (exe_call (args := #[c]) en162 (args_of1 rfl)) (c_All c W16 (sl_1 hs_c)) ?_
 rintro _ W18 ⟨b22, rfl, hT20⟩
 have hS19 := hS17.call hT20
 refine sqc (exe_call (args := #[t, .func (.func 176) #[] #[pt b22]]) en161 (args_of2 rfl rfl)) (c_pvisit t (.func (.func 176) #[] #[pt b22]) W18 (tape_1 hT) ⟨rfl, rfl⟩) ?_
 rintro _ W23 ⟨bq27, bl28, rfl, hT25⟩
 have hS24 := hS19.call hT25
 have hIt := it_pvisit (([(bq27, .cells #[t] 58), (bl28, .cells #[(.func (.func 176) #[] #[pt b22])] 192)] ++ [(b22, .cells #[c] 44)]) ++ Z0) t _ (fseq cs) (fun i => i) bl28 bq27 (by simp) (by simp) (fun j args h => by obtain ⟨y, h2, rfl⟩ := fseq_inv h; exact ⟨y, rfl⟩) (it_All (([(bq27, .cells #[t] 58), (bl28, .cells #[(.func (.func 176) #[] #[pt b22])] 192)] ++ [(b22, .cells #[c] 44)]) ++ Z0) b22 c cs (by simp) ((hs_c).mono fun _ hp => List.mem_append_right _ hp))
 obtain ⟨f29, fi30, ca31, hg32, hf33, hI34⟩ := hIt
 cases hg32
 simp only [fseq_len] at hI34
 show C _ _ _ _ _ _
 refine C_block ?_
 refine C_range hS24 rfl hf33 (fun fn35 r36 l37 W38 hS39 => ?_)
 generalize hrc41 : rcd _ _ _ _ _ _ _ _ = rc41 at hS39
 refine Calls.mono (hI34 (yv l37) ⟨rfl, rfl⟩ (fun jj LL => ∃ (q : List Nat) (r : Nat), LL = [some (l37, .loop rc41), some (r36, .deferred (some [])), some (b13, .cells (elA r) 49), some (b8, .cells #[.slice (so b5) cs.length cs.length] 44), some (b5, .cells (q.flatMap el).toArray 49), some (b1, .cells (fdA F) 117)] ∧ (q.length = cs.length) ∧ (∀ i, i < jj → q[i]? = some (bpre F cs i)) ∧ (r = bpre F cs jj) ∧ (r < F.p)) [some (l37, .loop rc41), some (r36, .deferred (some [])), some (b13, .cells (elA (F.one)) 49), some (b8, .cells #[.slice (so b5) cs.length cs.length] 44), some (b5, .cells ((List.replicate cs.length 0).flatMap el).toArray 49), some (b1, .cells (fdA F) 117)] Lt ev W38 (Holds.app hS39.holdsZ (hS39.holdsA hZ0 hO0)) (Off.app (St.offZ (Lf := []) hS39) (St.off0 (Lf := []) hS39 hZ0 hO0)) (St.lend (Lf := []) hS39) hT (by omega) ⟨(List.replicate cs.length 0), F.one, rfl, (by rw [List.length_replicate]), (fun i h => absurd h (by omega)), rfl, (f_one_lt hF)⟩ ?_) ?_
 ·rintro jj _ W42 _ hs46 ⟨q, r, rfl, hql, hq, hr, hrp⟩ hH43 hO44 hS45
  obtain ⟨y, hy, rfl⟩ := fseq_inv hs46
  have hyp := g1 y (List.mem_of_getElem? hy)
  have hjj := lt_of_get hy
  refine yok2 (i := 0) (ds := []) hS45 rfl (by rw [← hrc41]; rfl) (by rw [← hrc41]; rfl) ?_
  rw [show rc41.assign = _ from by rw [← hrc41], show rc41.body = _ from by rw [← hrc41]]
  refine C_sr ?_
  refine sqv (ex_assign (v := .int .i64 (jj : Int)) rfl) ?_
  show C _ _ _ _ _ _
  refine C_region ?_
  refine sqE (st_alloc hS45 ze49) fun b47 W48 hS49 => ?_
  refine sqUE (st_stores (v := elV y) (cs' := (elA y)) 0 hS49 rfl rfl rfl ag49 rfl (Nat.le_of_ble_eq_true rfl) (ones_of rfl) rfl) fun W50 hS51 => ?_
  show Exists _
  obtain ⟨W52, hb54, hS53⟩ := begin_ok (P := Tryz.prog) 1 hS51 rfl (by rw [← hrc41]; rfl)
  refine ⟨W52, hb54, ?_⟩
  show C _ _ _ _ _ _
  refine C_block ?_
  refine C_sr ?_
  refine sqv (ex_load (v := .slice (so b5) cs.length cs.length) rfl (hS53.at 4 rfl) on44 rfl) ?_
  refine sqv (ex_move (v := .int .i64 (jj : Int)) rfl) ?_
  refine sqv (ex_loads (vs := (el r)) rfl (hS53.at 3 rfl) ag49 rfl rfl) ?_
  refine sqv (ex_sindex (j := (jj : Int)) (o' := jj * 4) rfl rfl sl44 (by omega) (by omega) (by omega)) ?_
  refine sqUE (st_storesM (f := el) (k := 4) (z := r) (i' := jj) (fun _ => rfl) 5 hS53 rfl rfl rfl ag49 rfl (by first | omega | (simp only [List.length_set, List.length_replicate, List.length_append, List.length_take, List.length_drop]; omega)) rfl (ones_of rfl)) fun W55 hS56 => ?_
  show C _ _ _ _ _ _
  refine C_draw (p := 9) (l := [(some 33, fdV F), (some 34, elV r), (some 35, elV y), (some 36, .int .u64 (mk (decide (y = 0)))), (some 37, .pointer (some ⟨b1, 6, none⟩)), (some 38, elV F.one), (some 39, elV y), (some 40, elV (chN (decide (y = 0)) F.one y)), (some 41, elV (fMul F r (chN (decide (y = 0)) F.one y)))]) (G := []) (J := fun w => St (bks [some (l37, .loop rc41), some (r36, .deferred (some [])), some (b13, .cells (elA r) 49), some (b8, .cells #[.slice (so b5) cs.length cs.length] 44), some (b5, .cells (q.flatMap el).toArray 49), some (b1, .cells (fdA F) 117)]) W42 w [some (b47, .cells (elA y) 49), some (l37, .loop (busy rc41)), some (r36, .deferred (some [])), some (b13, .cells (elA r) 49), some (b8, .cells #[.slice (so b5) cs.length cs.length] 44), some (b5, .cells ((q.set jj r).flatMap el).toArray 49), some (b1, .cells (fdA F) 117)] []) mixed ?_ (hS56.draw _)
  refine node1 9 [] [] [] (by kernel_rfl) rfl rfl (nd rfl) rfl (by kernel_rfl) ?_ ?_ ?_
  ·intro S wd hSd
   refine ⟨n0 rfl rfl rfl (ex_loads (vs := (fdC F)) rfl (hSd.at 6 rfl) ag117 rfl rfl) rfl hSd, n0 rfl rfl rfl (ex_loads (vs := (el r)) rfl (hSd.at 3 rfl) ag49 rfl rfl) rfl hSd, n0 rfl rfl rfl (ex_loads (vs := (el y)) rfl (hSd.at 0 rfl) ag49 rfl rfl) rfl hSd, ?_, n0 rfl rfl rfl (ex_field (o' := 6) rfl fi117_3 rfl) rfl hSd, n1 rfl rfl rfl rfl (fun hq4 => (ex_loads (vs := (el (F.one))) (evS hq4 rfl rfl) (hSd.at 6 rfl) ag49 rfl rfl)) rfl hSd, n0 rfl rfl rfl (ex_loads (vs := (el y)) rfl (hSd.at 0 rfl) ag49 rfl rfl) rfl hSd, ?_, ?_, tt⟩
   ·refine needG rfl ?_
    rintro ⟨hq2, _⟩ hno
    refine dxC (wanted_none rfl) rfl (exe_call (args := #[elV y]) en164 (args_of1 (evS hq2 rfl rfl))) (c_mtIsZero y wd (by first | assumption | exact lt_of_p hF (by assumption))) ?_
    rintro _ W57 ⟨rfl, hT59⟩
    have hS58 := hSd.call hT59
    exact ⟨rfl, hS58⟩
   ·refine needG rfl ?_
    rintro ⟨hq3, hq5, hq6, hq3, _⟩ hno
    refine dxC (wanted_none rfl) rfl (exe_call (args := #[.int .u64 (mk (decide (y = 0))), elV F.one, elV y]) en163 (args_of3 (evS hq3 rfl rfl) (evS hq5 rfl rfl) (evS hq6 rfl rfl))) (c_mtChoose (decide (y = 0)) F.one y wd) ?_
    rintro _ W61 ⟨rfl, hT63⟩
    have hS62 := hSd.call hT63
    exact ⟨rfl, hS62⟩
   refine needG rfl ?_
   rintro ⟨hq0, hq1, hq7, hq7, _⟩ hno
   refine dxC (wanted_none rfl) rfl (exe_call (args := #[fdV F, elV r, elV (chN (decide (y = 0)) F.one y)]) en116 (args_of3 (evS hq0 rfl rfl) (evS hq1 rfl rfl) (evS hq7 rfl rfl))) (c_mMul F r (chN (decide (y = 0)) F.one y) wd hF (by first | assumption | exact (by have h1 := hq2 i (by omega); simp_all; exact bpre_lt hF _ _)) (by first | assumption | exact lt_of_p hF (by assumption) | exact lt_of_p hF (nz_lt hF (by assumption)))) ?_
   rintro _ W65 ⟨rfl, hT67⟩
   have hS66 := hSd.call hT67
   exact ⟨rfl, hS66⟩
  ·exact fun S wd hSd => ⟨True.intro, True.intro, True.intro, True.intro, True.intro, True.intro, True.intro, True.intro, True.intro, True.intro⟩
  intro _ W69 hS70
  refine sqUE (st_stores (v := elV (fMul F r (chN (decide (y = 0)) F.one y))) (cs' := (elA (fMul F r (chN (decide (y = 0)) F.one y)))) 3 hS70 rfl rfl rfl ag49 rfl (Nat.le_of_ble_eq_true rfl) (ones_of rfl) rfl) fun W71 hS72 => ?_
  refine blk_normal ?_
  refine round_end 1 hS72 rfl fun W73 hS74 => ?_
  have hrest : rest rc41 = rc41 := by rw [← hrc41]; rfl
  have hrb : rest (busy rc41) = rc41 := by rw [← hrc41]; rfl
  rw [hrb] at hS74
  exact ⟨rfl, _, ⟨(q.set jj r), (fMul F r (chN (decide (y = 0)) F.one y)), rfl, (by rw [List.length_set]; exact hql), (set_below (f := bpre F cs) hq (by omega) hr), (by rw [bpre_succ hy, ← hr]; rfl), (fMul_lt hF _ _)⟩, (St.pick (L := [some (b47, .cells (elA y) 49), some (l37, .loop rc41), some (r36, .deferred (some [])), some (b13, .cells (elA (fMul F r (chN (decide (y = 0)) F.one y))) 49), some (b8, .cells #[.slice (so b5) cs.length cs.length] 44), some (b5, .cells ((q.set jj r).flatMap el).toArray 49), some (b1, .cells (fdA F) 117)]) hS74 [1, 2, 3, 4, 5, 6] (by decide))⟩
 intro e79 W77 he
 cases e79 with
 | panicked => exact he.elim
 | outgrown => exact he.elim
 | returned v =>
   obtain ⟨rfl, _, Lu81, ⟨q, r, rfl, hql, hq, hr, hrp⟩, hU82, hT76⟩ := he
   have hS78 : St (bks Lt) w0 W77 ([some (l37, .loop rc41), some (r36, .deferred (some [])), some (b13, .cells (elA r) 49), some (b8, .cells #[.slice (so b5) cs.length cs.length] 44), some (b5, .cells (q.flatMap el).toArray 49), some (b1, .cells (fdA F) 117)] ++ Lu81) ([(bq27, .cells #[t] 58), (bl28, .cells #[(.func (.func 176) #[] #[pt b22])] 192)] ++ [(b22, .cells #[c] 44)]) := St.callS (Lf := []) (Lt := ([some (l37, .loop rc41), some (r36, .deferred (some [])), some (b13, .cells (elA (F.one)) 49), some (b8, .cells #[.slice (so b5) cs.length cs.length] 44), some (b5, .cells ((List.replicate cs.length 0).flatMap el).toArray 49), some (b1, .cells (fdA F) 117)] ++ Lt)) (Lt' := ([some (l37, .loop rc41), some (r36, .deferred (some [])), some (b13, .cells (elA r) 49), some (b8, .cells #[.slice (so b5) cs.length cs.length] 44), some (b5, .cells (q.flatMap el).toArray 49), some (b1, .cells (fdA F) 117)] ++ Lu81)) (Ln := []) hS39 hT76
   refine ⟨rc41, hS78.at 0 rfl, by rw [← hrc41]; rfl, by rw [← hrc41]; rfl, ?_⟩
   have hS84 := hS78.obj 0 (.loop { rc41 with state := .exhausted }) rfl
   change St _ _ (World.putObj W77 l37 (.loop { rc41 with state := .exhausted })) _ _ at hS84
   generalize World.putObj W77 l37 (.loop { rc41 with state := .exhausted }) = W83 at *
   refine blk_normal ?_
   show C _ _ _ _ _ _
   refine C_seq ?_
   refine C_region ?_
   refine sqv (ex_move (v := t) rfl) ?_
   refine sqv (ex_loads (vs := (fdC F)) rfl (hS84.at 5 rfl) ag117 rfl rfl) ?_
   refine sqv (ex_loads (vs := (el r)) rfl (hS84.at 2 rfl) ag49 rfl rfl) ?_
   refine sqc (exe_call (args := #[t, fdV F, elV r]) en165 (args_of3 rfl rfl rfl)) (c_Inverse F r t (ev ++ ievs (fun i => i) cs.length) Lu81 W83 hF (by assumption) (by simp [ievs_len]; omega) hU82 (St.lend (Lf := [some (l37, .loop { rc41 with state := .exhausted }), some (r36, .deferred (some [])), some (b13, .cells (elA r) 49), some (b8, .cells #[.slice (so b5) cs.length cs.length] 44), some (b5, .cells (q.flatMap el).toArray 49), some (b1, .cells (fdA F) 117)]) hS84)) ?_
   rintro _ W85 ⟨Lt89, rfl, hU90, hT87⟩
   have hS86 := St.callS (Lf := [some (l37, .loop { rc41 with state := .exhausted }), some (r36, .deferred (some [])), some (b13, .cells (elA r) 49), some (b8, .cells #[.slice (so b5) cs.length cs.length] 44), some (b5, .cells (q.flatMap el).toArray 49), some (b1, .cells (fdA F) 117)]) (Ln := []) hS84 hT87
   refine sqE (st_alloc hS86 ze49) fun b91 W92 hS93 => ?_
   refine sqUE (st_stores (v := elV (fInv F r)) (cs' := (elA (fInv F r))) 0 hS93 rfl rfl rfl ag49 rfl (Nat.le_of_ble_eq_true rfl) (ones_of rfl) rfl) fun W94 hS95 => ?_
   show C _ _ _ _ _ _
   refine C_seq ?_
   refine C_seq ?_
   refine C_region ?_
   refine sqv (ex_move (v := t) rfl) ?_
   refine sqv (ex_move (v := c) rfl) ?_
   refine sqc (exe_call (args := #[c]) en146 (args_of1 rfl)) (c_Backward c W94 (sl_1 hs_c)) ?_
   rintro _ W96 ⟨b100, rfl, hT98⟩
   have hS97 := hS95.call hT98
   refine sqc (exe_call (args := #[t, .func (.func 167) #[] #[pt b100]]) en161 (args_of2 rfl rfl)) (c_pvisit t (.func (.func 167) #[] #[pt b100]) W96 (tape_1 hT) ⟨rfl, rfl⟩) ?_
   rintro _ W101 ⟨bq105, bl106, rfl, hT103⟩
   have hS102 := hS97.call hT103
   have hIt := it_pvisit (([(bq105, .cells #[t] 58), (bl106, .cells #[(.func (.func 167) #[] #[pt b100])] 192)] ++ ([(b100, .cells #[c] 44)] ++ ([(bq27, .cells #[t] 58), (bl28, .cells #[(.func (.func 176) #[] #[pt b22])] 192)] ++ [(b22, .cells #[c] 44)]))) ++ Z0) t _ (bseq cs) (fun i => cs.length - 1 - i) bl106 bq105 (by simp) (by simp) (fun j args h => by obtain ⟨i, y, h1, h2, rfl⟩ := bseq_inv h; exact ⟨y, by rw [show i = cs.length - 1 - j from by omega]⟩) (it_Backward (([(bq105, .cells #[t] 58), (bl106, .cells #[(.func (.func 167) #[] #[pt b100])] 192)] ++ ([(b100, .cells #[c] 44)] ++ ([(bq27, .cells #[t] 58), (bl28, .cells #[(.func (.func 176) #[] #[pt b22])] 192)] ++ [(b22, .cells #[c] 44)]))) ++ Z0) b100 c cs (by simp) ((hs_c).mono fun _ hp => List.mem_append_right _ hp))
   obtain ⟨f107, fi108, ca109, hg110, hf111, hI112⟩ := hIt
   cases hg110
   simp only [bseq_len] at hI112
   show C _ _ _ _ _ _
   refine C_block ?_
   refine C_range hS102 rfl hf111 (fun fn113 r114 l115 W116 hS117 => ?_)
   generalize hrc119 : rcd _ _ _ _ _ _ _ _ = rc119 at hS117
   refine Calls.mono (hI112 (yv l115) ⟨rfl, rfl⟩ (fun jj LL => ∃ (q2 : List Nat) (iv : Nat), LL = [some (l115, .loop rc119), some (r114, .deferred (some [])), some (b91, .cells (elA iv) 49), some (l37, .loop { rc41 with state := .exhausted }), some (r36, .deferred (some [])), some (b13, .cells (elA r) 49), some (b8, .cells #[.slice (so b5) cs.length cs.length] 44), some (b5, .cells (q2.flatMap el).toArray 49), some (b1, .cells (fdA F) 117)] ∧ (q2.length = cs.length) ∧ (∀ i, i < cs.length - jj → q2[i]? = some (bpre F cs i)) ∧ (∀ i x, cs.length - jj ≤ i → cs[i]? = some x → q2[i]? = some (batE F cs i x)) ∧ (iv = bsuf F (fInv F (bpre F cs cs.length)) (cs.drop (cs.length - jj))) ∧ (iv < F.p)) [some (l115, .loop rc119), some (r114, .deferred (some [])), some (b91, .cells (elA (fInv F r)) 49), some (l37, .loop { rc41 with state := .exhausted }), some (r36, .deferred (some [])), some (b13, .cells (elA r) 49), some (b8, .cells #[.slice (so b5) cs.length cs.length] 44), some (b5, .cells (q.flatMap el).toArray 49), some (b1, .cells (fdA F) 117)] Lt89 ((ev ++ ievs (fun i => i) cs.length) ++ (pevs 64)) W116 (Holds.app hS117.holdsZ (hS117.holdsA hZ0 hO0)) (Off.app (St.offZ (Lf := []) hS117) (St.off0 (Lf := []) hS117 hZ0 hO0)) (St.lend (Lf := []) hS117) hU90 (by simp [ievs_len, pevs_len]; omega) ⟨q, (fInv F r), rfl, hql, (fun i h => hq i (by omega)), (fun i x h1 h2 => absurd (lt_of_get h2) (by omega)), (by rw [Nat.sub_zero, List.drop_length, bsuf_nil, ← hr]), (fInv_lt hF _)⟩ ?_) ?_
   · rintro jj _ W120 _ hs124 ⟨q2, iv, rfl, hql2, hq2, hq3, hiv, hivp⟩ hH121 hO122 hS123
     obtain ⟨i, y, hij, hy, rfl⟩ := bseq_inv hs124
     have hyp := g1 y (List.mem_of_getElem? hy)
     skip
     refine yok2 (i := 0) (ds := []) hS123 rfl (by rw [← hrc119]; rfl) (by rw [← hrc119]; rfl) ?_
     rw [show rc119.assign = _ from by rw [← hrc119], show rc119.body = _ from by rw [← hrc119]]
     refine C_seq ?_
     refine C_region ?_
     refine sqv (ex_assign (v := .int .i64 (i : Int)) rfl) ?_
     show C _ _ _ _ _ _
     refine C_region ?_
     refine sqE (st_alloc hS123 ze49) fun b125 W126 hS127 => ?_
     refine sqUE (st_stores (v := elV y) (cs' := (elA y)) 0 hS127 rfl rfl rfl ag49 rfl (Nat.le_of_ble_eq_true rfl) (ones_of rfl) rfl) fun W128 hS129 => ?_
     show Exists _
     obtain ⟨W130, hb132, hS131⟩ := begin_ok (P := Tryz.prog) 1 hS129 rfl (by rw [← hrc119]; rfl)
     refine ⟨W130, hb132, ?_⟩
     show C _ _ _ _ _ _
     refine C_block ?_
     refine C_seq ?_
     refine C_region ?_
     refine sqv (ex_loads (vs := (el y)) rfl (hS131.at 0 rfl) ag49 rfl rfl) ?_
     refine sqc (exe_call (args := #[elV y]) en164 (args_of1 rfl)) (c_mtIsZero y W130 (by first | assumption | exact lt_of_p hF (by assumption))) ?_
     rintro _ W133 ⟨rfl, hT135⟩
     have hS134 := hS131.call hT135
     refine sqv (ex_assign (v := .int .u64 (mk (decide (y = 0)))) rfl) ?_
     show C _ _ _ _ _ _
     refine C_seq ?_
     obtain ⟨y137, hy138⟩ := get_lt q2 i (by first | omega | (simp only [List.length_set, List.length_replicate, List.length_append, List.length_take, List.length_drop, List.length_cons, List.length_nil, List.length_map]; omega))
     have hky137 : y137 < F.p := by have h1 := hq2 i (by omega); rw [hy138] at h1; rw [Option.some.inj h1]; exact bpre_lt hF _ _
     refine C_draw (p := 12) (l := [(some 54, .slice (so b5) cs.length cs.length), (some 55, .int .i64 (i : Int)), (some 56, .int .u64 (mk (decide (y = 0)))), (some 57, .agg #[.int .u64 0, .int .u64 0, .int .u64 0, .int .u64 0]), (some 58, fdV F), (some 59, .slice (so b5) cs.length cs.length), (some 60, .int .i64 (i : Int)), (some 61, .pointer (some ⟨b5, i * 4, none⟩)), (some 62, elV y137), (some 63, elV iv), (some 64, elV (fMul F y137 iv)), (some 65, elV (chN (decide (y = 0)) 0 (fMul F y137 iv)))]) (G := []) (J := fun w => St (bks [some (l115, .loop rc119), some (r114, .deferred (some [])), some (b91, .cells (elA iv) 49), some (l37, .loop { rc41 with state := .exhausted }), some (r36, .deferred (some [])), some (b13, .cells (elA r) 49), some (b8, .cells #[.slice (so b5) cs.length cs.length] 44), some (b5, .cells (q2.flatMap el).toArray 49), some (b1, .cells (fdA F) 117)]) W120 w [some (b125, .cells (elA y) 49), some (l115, .loop (busy rc119)), some (r114, .deferred (some [])), some (b91, .cells (elA iv) 49), some (l37, .loop { rc41 with state := .exhausted }), some (r36, .deferred (some [])), some (b13, .cells (elA r) 49), some (b8, .cells #[.slice (so b5) cs.length cs.length] 44), some (b5, .cells (q2.flatMap el).toArray 49), some (b1, .cells (fdA F) 117)] []) mixed ?_ (hS134.draw _)
     refine node1 12 [] [] [] (by kernel_rfl) rfl rfl (nd rfl) rfl (by kernel_rfl) ?_ ?_ ?_
     · intro S wd hSd
       refine ⟨?_, ?_, ?_, ?_, ?_, ?_, ?_, ?_, ?_, ?_, ?_, ?_, True.intro⟩
       · refine needG rfl ?_
         rintro ⟨_⟩ hno
         exact dx (wanted_none rfl) rfl (ex_load (v := .slice (so b5) cs.length cs.length) rfl (hSd.at 7 rfl) on44 rfl) ⟨rfl, hSd⟩
       · refine needG rfl ?_
         rintro ⟨_⟩ hno
         exact dx (wanted_none rfl) rfl (ex_move (v := .int .i64 (i : Int)) rfl) ⟨rfl, hSd⟩
       · refine needG rfl ?_
         rintro ⟨_⟩ hno
         exact dx (wanted_none rfl) rfl (ex_move (v := .int .u64 (mk (decide (y = 0)))) rfl) ⟨rfl, hSd⟩
       · refine needG rfl ?_
         rintro ⟨_⟩ hno
         exact dx (wanted_none rfl) rfl (ex_build (vs := []) (cells := #[.int .u64 0, .int .u64 0, .int .u64 0, .int .u64 0]) rfl (by kernel_rfl)) ⟨rfl, hSd⟩
       · refine needG rfl ?_
         rintro ⟨_⟩ hno
         exact dx (wanted_none rfl) rfl (ex_loads (vs := (fdC F)) rfl (hSd.at 9 rfl) ag117 rfl rfl) ⟨rfl, hSd⟩
       · refine needG rfl ?_
         rintro ⟨_⟩ hno
         exact dx (wanted_none rfl) rfl (ex_load (v := .slice (so b5) cs.length cs.length) rfl (hSd.at 7 rfl) on44 rfl) ⟨rfl, hSd⟩
       · refine needG rfl ?_
         rintro ⟨_⟩ hno
         exact dx (wanted_none rfl) rfl (ex_move (v := .int .i64 (i : Int)) rfl) ⟨rfl, hSd⟩
       · refine needG rfl ?_
         rintro ⟨hq5, hq6, _⟩ hno
         exact dx (wanted_none rfl) rfl (ex_sindex (j := (i : Int)) (o' := i * 4) (evS hq5 rfl rfl) (evS hq6 rfl rfl) sl44 (by omega) (by omega) (by omega)) ⟨rfl, hSd⟩
       · refine needG rfl ?_
         rintro ⟨hq7, _⟩ hno
         exact dx (wanted_none rfl) rfl (ex_loadsM (f := el) (k := 4) (i := i) (fun _ => rfl) (evS hq7 rfl rfl) (hSd.at 8 rfl) ag49 rfl hy138) ⟨rfl, hSd⟩
       · refine needG rfl ?_
         rintro ⟨_⟩ hno
         exact dx (wanted_none rfl) rfl (ex_loads (vs := (el iv)) rfl (hSd.at 3 rfl) ag49 rfl rfl) ⟨rfl, hSd⟩
       · refine needG rfl ?_
         rintro ⟨hq4, hq8, hq9, _⟩ hno
         refine dxC (wanted_none rfl) rfl (exe_call (args := #[fdV F, elV y137, elV iv]) en116 (args_of3 (evS hq4 rfl rfl) (evS hq8 rfl rfl) (evS hq9 rfl rfl))) (c_mMul F y137 iv wd hF (by first | assumption | exact (by have h1 := hq2 i (by omega); simp_all; exact bpre_lt hF _ _)) (by first | assumption | exact lt_of_p hF (by assumption) | exact lt_of_p hF (nz_lt hF (by assumption)))) ?_
         rintro _ W139 ⟨rfl, hT141⟩
         have hS140 := hSd.call hT141
         exact ⟨rfl, hS140⟩
       · refine needG rfl ?_
         rintro ⟨hq2, hq3, hq10, hq10, _⟩ hno
         refine dxC (wanted_none rfl) rfl (exe_call (args := #[.int .u64 (mk (decide (y = 0))), .agg #[.int .u64 0, .int .u64 0, .int .u64 0, .int .u64 0], elV (fMul F y137 iv)]) en163 (args_of3 (evS hq2 rfl rfl) (evS hq3 rfl rfl) (evS hq10 rfl rfl))) (c_mtChoose (decide (y = 0)) 0 (fMul F y137 iv) wd) ?_
         rintro _ W143 ⟨rfl, hT145⟩
         have hS144 := hSd.call hT145
         exact ⟨rfl, hS144⟩
     · exact fun S wd hSd => ⟨True.intro, True.intro, True.intro, True.intro, True.intro, True.intro, True.intro, True.intro, True.intro, True.intro, True.intro, True.intro, True.intro⟩
     · intro _ W147 hS148
       refine sqv (ex_sindex (j := (i : Int)) (o' := i * 4) rfl rfl sl44 (by omega) (by omega) (by omega)) ?_
       refine sqUE (st_storesM (f := el) (k := 4) (z := chN (decide (y = 0)) 0 (fMul F y137 iv)) (i' := i) (fun _ => rfl) 8 hS148 rfl rfl rfl ag49 rfl (by first | omega | (simp only [List.length_set, List.length_replicate, List.length_append, List.length_take, List.length_drop]; omega)) rfl (ones_of rfl)) fun W149 hS150 => ?_
       show C _ _ _ _ _ _
       refine C_draw (p := 8) (l := [(some 67, fdV F), (some 68, elV iv), (some 69, .int .u64 (mk (decide (y = 0)))), (some 70, .pointer (some ⟨b1, 6, none⟩)), (some 71, elV F.one), (some 72, elV y), (some 73, elV (chN (decide (y = 0)) F.one y)), (some 74, elV (fMul F iv (chN (decide (y = 0)) F.one y)))]) (G := []) (J := fun w => St (bks [some (l115, .loop rc119), some (r114, .deferred (some [])), some (b91, .cells (elA iv) 49), some (l37, .loop { rc41 with state := .exhausted }), some (r36, .deferred (some [])), some (b13, .cells (elA r) 49), some (b8, .cells #[.slice (so b5) cs.length cs.length] 44), some (b5, .cells (q2.flatMap el).toArray 49), some (b1, .cells (fdA F) 117)]) W120 w [some (b125, .cells (elA y) 49), some (l115, .loop (busy rc119)), some (r114, .deferred (some [])), some (b91, .cells (elA iv) 49), some (l37, .loop { rc41 with state := .exhausted }), some (r36, .deferred (some [])), some (b13, .cells (elA r) 49), some (b8, .cells #[.slice (so b5) cs.length cs.length] 44), some (b5, .cells ((q2.set i (chN (decide (y = 0)) 0 (fMul F y137 iv))).flatMap el).toArray 49), some (b1, .cells (fdA F) 117)] []) mixed ?_ (hS150.draw _)
       refine node1 8 [] [] [] (by kernel_rfl) rfl rfl (nd rfl) rfl (by kernel_rfl) ?_ ?_ ?_
       · intro S wd hSd
         refine ⟨?_, ?_, ?_, ?_, ?_, ?_, ?_, ?_, True.intro⟩
         · refine needG rfl ?_
           rintro ⟨_⟩ hno
           exact dx (wanted_none rfl) rfl (ex_loads (vs := (fdC F)) rfl (hSd.at 9 rfl) ag117 rfl rfl) ⟨rfl, hSd⟩
         · refine needG rfl ?_
           rintro ⟨_⟩ hno
           exact dx (wanted_none rfl) rfl (ex_loads (vs := (el iv)) rfl (hSd.at 3 rfl) ag49 rfl rfl) ⟨rfl, hSd⟩
         · refine needG rfl ?_
           rintro ⟨_⟩ hno
           exact dx (wanted_none rfl) rfl (ex_move (v := .int .u64 (mk (decide (y = 0)))) rfl) ⟨rfl, hSd⟩
         · refine needG rfl ?_
           rintro ⟨_⟩ hno
           exact dx (wanted_none rfl) rfl (ex_field (o' := 6) rfl fi117_3 rfl) ⟨rfl, hSd⟩
         · refine needG rfl ?_
           rintro ⟨hq3, _⟩ hno
           exact dx (wanted_none rfl) rfl (ex_loads (vs := (el (F.one))) (evS hq3 rfl rfl) (hSd.at 9 rfl) ag49 rfl rfl) ⟨rfl, hSd⟩
         · refine needG rfl ?_
           rintro ⟨_⟩ hno
           exact dx (wanted_none rfl) rfl (ex_loads (vs := (el y)) rfl (hSd.at 0 rfl) ag49 rfl rfl) ⟨rfl, hSd⟩
         · refine needG rfl ?_
           rintro ⟨hq2, hq4, hq5, _⟩ hno
           refine dxC (wanted_none rfl) rfl (exe_call (args := #[.int .u64 (mk (decide (y = 0))), elV F.one, elV y]) en163 (args_of3 (evS hq2 rfl rfl) (evS hq4 rfl rfl) (evS hq5 rfl rfl))) (c_mtChoose (decide (y = 0)) F.one y wd) ?_
           rintro _ W151 ⟨rfl, hT153⟩
           have hS152 := hSd.call hT153
           exact ⟨rfl, hS152⟩
         · refine needG rfl ?_
           rintro ⟨hq0, hq1, hq6, hq6, _⟩ hno
           refine dxC (wanted_none rfl) rfl (exe_call (args := #[fdV F, elV iv, elV (chN (decide (y = 0)) F.one y)]) en116 (args_of3 (evS hq0 rfl rfl) (evS hq1 rfl rfl) (evS hq6 rfl rfl))) (c_mMul F iv (chN (decide (y = 0)) F.one y) wd hF (by first | assumption | exact (by have h1 := hq2 i (by omega); simp_all; exact bpre_lt hF _ _)) (by first | assumption | exact lt_of_p hF (by assumption) | exact lt_of_p hF (nz_lt hF (by assumption)))) ?_
           rintro _ W155 ⟨rfl, hT157⟩
           have hS156 := hSd.call hT157
           exact ⟨rfl, hS156⟩
       · exact fun S wd hSd => ⟨True.intro, True.intro, True.intro, True.intro, True.intro, True.intro, True.intro, True.intro, True.intro⟩
       · intro _ W159 hS160
         refine sqUE (st_stores (v := elV (fMul F iv (chN (decide (y = 0)) F.one y))) (cs' := (elA (fMul F iv (chN (decide (y = 0)) F.one y)))) 3 hS160 rfl rfl rfl ag49 rfl (Nat.le_of_ble_eq_true rfl) (ones_of rfl) rfl) fun W161 hS162 => ?_
         refine blk_normal ?_
         refine round_end 1 hS162 rfl fun W163 hS164 => ?_
         have hrest : rest rc119 = rc119 := by rw [← hrc119]; rfl
         have hrb : rest (busy rc119) = rc119 := by rw [← hrc119]; rfl
         rw [hrb] at hS164
         have hzz : y137 = bpre F cs i := by have h1 := hq2 i (by omega); rw [hy138] at h1; exact Option.some.inj h1
         exact ⟨rfl, _, ⟨(q2.set i (chN (decide (y = 0)) 0 (fMul F y137 iv))), (fMul F iv (chN (decide (y = 0)) F.one y)), rfl, (by rw [List.length_set]; exact hql2), (fun k hk => by rw [List.getElem?_set, if_neg (by omega)]; exact hq2 k (by omega)), (bat_set hq3 hql2 hij hy hzz hiv), (by rw [hiv, show cs.length - jj = i + 1 from by omega, show cs.length - (jj + 1) = i from by omega, bsuf_step hy]; rfl), (fMul_lt hF _ _)⟩, (St.pick (L := [some (b125, .cells (elA y) 49), some (l115, .loop rc119), some (r114, .deferred (some [])), some (b91, .cells (elA (fMul F iv (chN (decide (y = 0)) F.one y))) 49), some (l37, .loop { rc41 with state := .exhausted }), some (r36, .deferred (some [])), some (b13, .cells (elA r) 49), some (b8, .cells #[.slice (so b5) cs.length cs.length] 44), some (b5, .cells ((q2.set i (chN (decide (y = 0)) 0 (fMul F y137 iv))).flatMap el).toArray 49), some (b1, .cells (fdA F) 117)]) hS164 [1, 2, 3, 4, 5, 6, 7, 8, 9] (by decide))⟩
   · intro e169 W167 he
     cases e169 with
     | panicked => exact he.elim
     | outgrown => exact he.elim
     | returned v =>
       obtain ⟨rfl, _, Lu171, ⟨q2, iv, rfl, hql2, hq2, hq3, hiv, hivp⟩, hU172, hT166⟩ := he
       have hS168 : St (bks Lt) w0 W167 ([some (l115, .loop rc119), some (r114, .deferred (some [])), some (b91, .cells (elA iv) 49), some (l37, .loop { rc41 with state := .exhausted }), some (r36, .deferred (some [])), some (b13, .cells (elA r) 49), some (b8, .cells #[.slice (so b5) cs.length cs.length] 44), some (b5, .cells (q2.flatMap el).toArray 49), some (b1, .cells (fdA F) 117)] ++ Lu171) ([(bq105, .cells #[t] 58), (bl106, .cells #[(.func (.func 167) #[] #[pt b100])] 192)] ++ ([(b100, .cells #[c] 44)] ++ ([(bq27, .cells #[t] 58), (bl28, .cells #[(.func (.func 176) #[] #[pt b22])] 192)] ++ [(b22, .cells #[c] 44)]))) := St.callS (Lf := []) (Lt := ([some (l115, .loop rc119), some (r114, .deferred (some [])), some (b91, .cells (elA (fInv F r)) 49), some (l37, .loop { rc41 with state := .exhausted }), some (r36, .deferred (some [])), some (b13, .cells (elA r) 49), some (b8, .cells #[.slice (so b5) cs.length cs.length] 44), some (b5, .cells (q.flatMap el).toArray 49), some (b1, .cells (fdA F) 117)] ++ Lt89)) (Lt' := ([some (l115, .loop rc119), some (r114, .deferred (some [])), some (b91, .cells (elA iv) 49), some (l37, .loop { rc41 with state := .exhausted }), some (r36, .deferred (some [])), some (b13, .cells (elA r) 49), some (b8, .cells #[.slice (so b5) cs.length cs.length] 44), some (b5, .cells (q2.flatMap el).toArray 49), some (b1, .cells (fdA F) 117)] ++ Lu171)) (Ln := []) hS117 hT166
       refine ⟨rc119, hS168.at 0 rfl, by rw [← hrc119]; rfl, by rw [← hrc119]; rfl, ?_⟩
       have hS174 := hS168.obj 0 (.loop { rc119 with state := .exhausted }) rfl
       change St _ _ (World.putObj W167 l115 (.loop { rc119 with state := .exhausted })) _ _ at hS174
       generalize World.putObj W167 l115 (.loop { rc119 with state := .exhausted }) = W173 at *
       refine blk_normal ?_
       show C _ _ _ _ _ _
       refine C_seq ?_
       refine C_region ?_
       refine sqv (ex_load (v := .slice (so b5) cs.length cs.length) rfl (hS174.at 6 rfl) on44 rfl) ?_
       refine sqv (ex_assign (v := .slice (so b5) cs.length cs.length) rfl) ?_
       show C _ _ _ _ _ _
       refine C_ret ?_
       refine doneM_1 (rs := [r114, r36]) (v := .slice (so b5) cs.length cs.length) (.inr rfl) rfl rfl ?_
       refine take1 1 hS174 rfl fun W175 hS176 => ?_
       refine take1 4 hS176 rfl fun W177 hS178 => ?_
       refine ⟨rfl, ?_⟩
       have hqq : q2 = batL F cs := batL_ext hql2 (fun i x h => hq3 i x (by omega) h)
       exact ⟨_, _, _, rfl, by rw [← hqq]; exact Own.of (fun _ => rfl) (by rw [hql2]) rfl (by simp only [maxLen]; omega), (by unfold batEv; rw [if_neg (by omega)]; simpa only [List.append_assoc] using hU172), (St.pickB (Lf := [some (l115, .loop { rc119 with state := .exhausted }), some (r114, .deferred none), some (b91, .cells (elA iv) 49), some (l37, .loop { rc41 with state := .exhausted }), some (r36, .deferred none), some (b13, .cells (elA r) 49), some (b8, .cells #[.slice (so b5) cs.length cs.length] 44), some (b5, .cells (q2.flatMap el).toArray 49), some (b1, .cells (fdA F) 117)]) hS178 [7] (by decide) rfl).less (fun _ h => absurd h (by simp))⟩
end Go.Proofs
end
