/- AuditSuspects holds: Suspects of the audit gives the same positions, or the same error, as the reference, for all arguments that the statement admits, with no further condition. Part 11 of 12. -/
import Derived.Test.YtfhpmpmmckkgbaaGreatDoorS10
set_option linter.unusedVariables false
set_option linter.unusedSimpArgs false
set_option linter.unusedSectionVars false
section
set_option linter.unusedVariables false
set_option linter.unusedSimpArgs false
set_option maxRecDepth 20000
set_option maxHeartbeats 2000000
namespace Go.Proofs
open Sc
theorem en107 : enters Tryz.prog 107 = true := by kernel_rfl
theorem en108 : enters Tryz.prog 108 = true := by kernel_rfl
theorem en20 : enters Tryz.prog 20 = true := by kernel_rfl
theorem c_rCount (n : Int) (w0 : World) (g0 : -1000000000000 ≤ n) : Calls Tryz.prog 108 #[.int .i64 n] w0 (Ret fun uu w' => uu = .int .i64 (cntI n) ∧ St [] w0 w' [] []) := by
 refine calls_of Tryz.func108 rfl Tryz.ntmps108 (Nat.le_of_ble_eq_true rfl) ?_
 have hS0 := St.nil w0
 refine C_sr ?_
 refine sqv (ex_assign (v := .int .i64 0) rfl) ?_
 show C _ _ _ _ _ _
 refine C_sr ?_
 refine sqv (ex_assign (v := .int .i64 0) rfl) ?_
 show C _ _ _ _ _ _
 refine C_seq ?_
 refine C_sr ?_
 refine sqv (ex_move (v := .int .i64 n) rfl) ?_
 refine sqv (ex_cmp (x := n) (y := 65535) (r := decide (65535 < n)) rfl rfl rfl) ?_
 show C _ _ _ _ _ _
 refine C_dec (65535 < n) rfl (fun hc1 => ?_) (fun hc1 => ?_)
 ·refine C_sr ?_
  refine sqv (ex_assign (v := .int .i64 0) rfl) ?_
  show C _ _ _ _ _ _
  refine C_ret ?_
  refine thn_ret ?_
  refine done_1 (v := .int .i64 0) rfl rfl ?_
  exact ⟨congrArg _ (by unfold cntI; rw [if_neg (by omega)]), hS0.none⟩
 refine C_skip ?_
 show C _ _ _ _ _ _
 refine C_seq ?_
 refine C_block ?_
 refine C_loop (fun nn aa ww => ∃ (m0 : Nat → Value) (c : Nat) (m : Int), nn = m.toNat ∧ aa = act 13 (upds m0 [(0, .int .i64 m), (2, .int .i64 0), (3, .int .i64 (c : Int))]) [] ∧ St [] w0 ww [] [] ∧ (m = n - 31 * c) ∧ (c = 0 ∨ -30 ≤ m)) n.toNat ?_ ?_
 ·exact ⟨_, 0, n, rfl, act_upds ⟨(congrArg (Value.int .i64) (by first | rfl | omega)), (congrArg (Value.int .i64) (by first | rfl | omega)), (congrArg (Value.int .i64) (by first | rfl | omega)), trivial⟩, (St.pick (L := []) hS0 [] (by decide)), (by omega), (.inl rfl)⟩
 rintro n5 a6 W3 ⟨m2, c, m, rfl, rfl, hS4, hm, hl⟩
 refine C_seq ?_
 refine C_sr ?_
 refine sqv (ex_move (v := .int .i64 m) rfl) ?_
 refine sqv (ex_cmp (x := m) (y := 0) (r := decide (0 < m)) rfl rfl rfl) ?_
 show C _ _ _ _ _ _
 refine C_dec (0 < m) rfl (fun hc7 => ?_) (fun hc7 => ?_)
 ·refine C_skip ?_
  show C _ _ _ _ _ _
  refine C_block ?_
  refine C_sr ?_
  refine sqv (ex_move (v := .int .i64 (c : Int)) rfl) ?_
  refine nm ((c : Int) + 1) fun x8 hx8 => ?_
  refine sqv (ex_add (x := (c : Int)) (y := 1) rfl rfl (w64 hx8 (by omega))) ?_
  refine sqv (ex_assign (v := .int .i64 x8) rfl) ?_
  show C _ _ _ _ _ _
  refine C_region ?_
  refine sqv (ex_move (v := .int .i64 m) rfl) ?_
  refine nm (m - 31) fun x9 hx9 => ?_
  refine sqv (ex_sub (x := m) (y := 31) rfl rfl (w64 hx9 (by omega))) ?_
  refine sqv (ex_assign (v := .int .i64 x9) rfl) ?_
  refine blk_normal ?_
  exact ⟨_, (by omega), ⟨_, (c + 1), x9, rfl, act_upds ⟨(congrArg (Value.int .i64) (by first | rfl | omega)), (congrArg (Value.int .i64) (by first | rfl | omega)), (congrArg (Value.int .i64) (by first | rfl | omega)), trivial⟩, (St.pick (L := []) hS4 [] (by decide)), (by omega), (by omega)⟩⟩
 refine C_exit ?_
 refine thn_exit ?_
 refine thn_exit ?_
 refine blk_exit ?_
 show C _ _ _ _ _ _
 refine C_sr ?_
 refine sqv (ex_move (v := .int .i64 (c : Int)) rfl) ?_
 refine sqv (ex_assign (v := .int .i64 (c : Int)) rfl) ?_
 show C _ _ _ _ _ _
 refine C_ret ?_
 refine done_1 (v := .int .i64 (c : Int)) rfl rfl ?_
 exact ⟨congrArg _ (by unfold cntI; by_cases h0 : 0 ≤ n ∧ n ≤ 65535; rw [if_pos h0]; omega; rw [if_neg h0]; omega), hS4.none⟩
theorem c_known (x : Int) (w0 : World)  : Calls Tryz.prog 107 #[.int .i64 x] w0 (Ret fun uu w' => uu = .bool (decide (x = 1 ∨ x = 2)) ∧ St [] w0 w' [] []) := by
 refine calls_of Tryz.func107 rfl Tryz.ntmps107 (Nat.le_of_ble_eq_true rfl) ?_
 have hS0 := St.nil w0
 refine C_sr ?_
 refine sqv (ex_assign (v := .bool false) rfl) ?_
 show C _ _ _ _ _ _
 refine C_sr ?_
 refine sqv (ex_move (v := .int .i64 x) rfl) ?_
 refine nm (decide (x = 1)) fun t1 ht1 => ?_
 refine sqv (ex_cmp (x := x) (y := 1) rfl rfl ht1) ?_
 refine sqv (ex_move (v := .bool t1) rfl) ?_
 rcases bool_cases t1 with hb2 | hb2
 ·subst hb2
  have hb2 := of_decide_eq_true ht1.symm
  refine guard_no (b' := true) rfl rfl (by decide) ?_
  refine guard_no (b' := true) rfl rfl (by decide) ?_
  refine sqv (ex_pick (t := true) (v := .bool true) rfl rfl) ?_
  refine sqv (ex_assign (v := .bool true) rfl) ?_
  show C _ _ _ _ _ _
  refine C_ret ?_
  refine done_1 (v := .bool true) rfl rfl ?_
  exact ⟨congrArg _ (by rw [Bool.eq_iff_iff]; simp_all), hS0.none⟩
 subst hb2
 have hb2 := of_decide_eq_false ht1.symm
 refine guard_yes (b := false) rfl rfl ?_
 refine sqv (ex_move (v := .int .i64 x) rfl) ?_
 refine guard_yes (b := false) rfl rfl ?_
 refine nm (decide (x = 2)) fun t3 ht3 => ?_
 refine sqv (ex_cmp (x := x) (y := 2) rfl rfl ht3) ?_
 refine sqv (ex_pick (t := false) (v := .bool t3) rfl rfl) ?_
 refine sqv (ex_assign (v := .bool t3) rfl) ?_
 show C _ _ _ _ _ _
 refine C_ret ?_
 refine done_1 (v := .bool t3) rfl rfl ?_
 exact ⟨congrArg _ (by rw [Bool.eq_iff_iff]; simp_all), hS0.none⟩
theorem c_rCheckShare1 (F : PrF) (s : Sh) (Z0 : List Fact) (w0 : World) (g0 : FOk F) (g1 : s.f = F.id) (g2 : ∀ y ∈ s.p, y < B256) (hZ0 : Holds w0 Z0) (hs_s : Sl Z0 49 4 s.v (s.p.flatMap el)) : Calls Tryz.prog 65 #[.agg #[.int .i64 s.f, .int .i64 s.t, .int .i64 s.i, .int .i64 s.n, s.v]] w0 (Ret fun uu w' => uu = .int .i64 (ckSh s) ∧ St [] w0 w' [] []) := by
 have hF := g0
 have hpl := sl_lt (f := el) (k := 4) (fun _ => rfl) (by decide) hs_s
 have hid : s.f = 1 ∨ s.f = 2 := by have := fid_or hF; omega
 refine calls_of Tryz.func65 rfl Tryz.ntmps65 (Nat.le_of_ble_eq_true rfl) ?_
 have hS0 := St.nil w0
 refine C_sr ?_
 refine sqE (st_box (v := .agg #[.int .i64 s.f, .int .i64 s.t, .int .i64 s.i, .int .i64 s.n, s.v]) (cs := #[.int .i64 s.f, .int .i64 s.t, .int .i64 s.i, .int .i64 s.n, s.v]) hS0 rfl rfl) fun b1 W2 hS3 => ?_
 refine sqv (ex_assign (v := .int .i64 0) rfl) ?_
 show C _ _ _ _ _ _
 refine C_seq ?_
 refine C_block ?_
 refine C_sr ?_
 refine sqv (ex_field (o' := 0) rfl fi46_0 rfl) ?_
 refine sqv (ex_load (v := .int .i64 s.f) rfl (hS3.at 0 rfl) on3 rfl) ?_
 refine sqc (exe_call (args := #[.int .i64 s.f]) en107 (args_of1 rfl)) (c_known s.f W2) ?_
 rintro _ W4 ⟨rfl, hT6⟩
 have hS5 := hS3.call hT6
 refine sqv (ex_not (t := (decide (s.f = 1 ∨ s.f = 2))) rfl) ?_
 rw [show (!(decide (s.f = 1 ∨ s.f = 2))) = decide (¬ (s.f = 1 ∨ s.f = 2)) from by rw [Bool.eq_iff_iff]; first | (simp; done) | (simp; omega)]
 refine sqv (ex_assign (v := .bool (decide (¬ (s.f = 1 ∨ s.f = 2)))) rfl) ?_
 show C _ _ _ _ _ _
 refine C_dec (¬ (s.f = 1 ∨ s.f = 2)) rfl (fun hc8 => ?_) (fun hc8 => ?_)
 ·refine C_sr ?_
  refine sqv (ex_assign (v := .int .i64 3) rfl) ?_
  show C _ _ _ _ _ _
  refine C_ret ?_
  refine blk_ret ?_
  refine thn_ret ?_
  refine done_1 (v := .int .i64 3) rfl rfl ?_
  exact ⟨congrArg _ (show (3 : Int) = ckSh s from (by symm; unfold ckSh; rw [if_pos (by omega)])), hS5.none⟩
 refine C_sr ?_
 refine sqv (ex_field (o' := 1) rfl fi46_1 rfl) ?_
 refine sqv (ex_load (v := .int .i64 s.t) rfl (hS5.at 0 rfl) on3 rfl) ?_
 refine nm (decide (s.t < 1)) fun t9 ht9 => ?_
 refine sqv (ex_cmp (x := s.t) (y := 1) rfl rfl ht9) ?_
 refine sqv (ex_move (v := .bool t9) rfl) ?_
 rcases bool_cases t9 with hb10 | hb10
 ·subst hb10
  have hb10 := of_decide_eq_true ht9.symm
  refine guard_no (b' := true) rfl rfl (by decide) ?_
  refine guard_no (b' := true) rfl rfl (by decide) ?_
  refine guard_no (b' := true) rfl rfl (by decide) ?_
  refine sqv (ex_pick (t := true) (v := .bool true) rfl rfl) ?_
  refine sqv (ex_assign (v := .bool true) rfl) ?_
  show C _ _ _ _ _ _
  refine C_true rfl ?_
  refine C_sr ?_
  refine sqv (ex_assign (v := .int .i64 4) rfl) ?_
  show C _ _ _ _ _ _
  refine C_ret ?_
  refine blk_ret ?_
  refine thn_ret ?_
  refine done_1 (v := .int .i64 4) rfl rfl ?_
  exact ⟨congrArg _ (show (4 : Int) = ckSh s from (by symm; unfold ckSh; rw [if_neg (by omega), if_pos (by omega)])), hS5.none⟩
 subst hb10
 have hb10 := of_decide_eq_false ht9.symm
 refine guard_yes (b := false) rfl rfl ?_
 refine sqv (ex_field (o' := 1) rfl fi46_1 rfl) ?_
 refine guard_yes (b := false) rfl rfl ?_
 refine sqv (ex_load (v := .int .i64 s.t) rfl (hS5.at 0 rfl) on3 rfl) ?_
 refine guard_yes (b := false) rfl rfl ?_
 refine nm (decide (255 < s.t)) fun t11 ht11 => ?_
 refine sqv (ex_cmp (x := s.t) (y := 255) rfl rfl ht11) ?_
 refine sqv (ex_pick (t := false) (v := .bool t11) rfl rfl) ?_
 refine sqv (ex_assign (v := .bool t11) rfl) ?_
 show C _ _ _ _ _ _
 refine C_if (t := t11) rfl (fun hc12 => ?_) (fun hc12 => ?_)
 ·have hc12' := of_decide_eq_true (ht11.symm.trans hc12)
  refine C_sr ?_
  refine sqv (ex_assign (v := .int .i64 4) rfl) ?_
  show C _ _ _ _ _ _
  refine C_ret ?_
  refine blk_ret ?_
  refine thn_ret ?_
  refine done_1 (v := .int .i64 4) rfl rfl ?_
  exact ⟨congrArg _ (show (4 : Int) = ckSh s from (by symm; unfold ckSh; rw [if_neg (by omega), if_pos (by omega)])), hS5.none⟩
 have hc12' := of_decide_eq_false (ht11.symm.trans hc12)
 refine C_sr ?_
 refine sqv (ex_field (o' := 2) rfl fi46_2 rfl) ?_
 refine sqv (ex_load (v := .int .i64 s.i) rfl (hS5.at 0 rfl) on3 rfl) ?_
 refine nm (decide (s.i < 1)) fun t13 ht13 => ?_
 refine sqv (ex_cmp (x := s.i) (y := 1) rfl rfl ht13) ?_
 refine sqv (ex_move (v := .bool t13) rfl) ?_
 rcases bool_cases t13 with hb14 | hb14
 ·subst hb14
  have hb14 := of_decide_eq_true ht13.symm
  refine guard_no (b' := true) rfl rfl (by decide) ?_
  refine guard_no (b' := true) rfl rfl (by decide) ?_
  refine guard_no (b' := true) rfl rfl (by decide) ?_
  refine sqv (ex_pick (t := true) (v := .bool true) rfl rfl) ?_
  refine sqv (ex_assign (v := .bool true) rfl) ?_
  show C _ _ _ _ _ _
  refine C_true rfl ?_
  refine C_sr ?_
  refine sqv (ex_assign (v := .int .i64 12) rfl) ?_
  show C _ _ _ _ _ _
  refine C_ret ?_
  refine blk_ret ?_
  refine thn_ret ?_
  refine done_1 (v := .int .i64 12) rfl rfl ?_
  exact ⟨congrArg _ (show (12 : Int) = ckSh s from (by symm; unfold ckSh; rw [if_neg (by omega), if_neg (by omega), if_pos (by omega)])), hS5.none⟩
 subst hb14
 have hb14 := of_decide_eq_false ht13.symm
 refine guard_yes (b := false) rfl rfl ?_
 refine sqv (ex_field (o' := 2) rfl fi46_2 rfl) ?_
 refine guard_yes (b := false) rfl rfl ?_
 refine sqv (ex_load (v := .int .i64 s.i) rfl (hS5.at 0 rfl) on3 rfl) ?_
 refine guard_yes (b := false) rfl rfl ?_
 refine nm (decide (255 < s.i)) fun t15 ht15 => ?_
 refine sqv (ex_cmp (x := s.i) (y := 255) rfl rfl ht15) ?_
 refine sqv (ex_pick (t := false) (v := .bool t15) rfl rfl) ?_
 refine sqv (ex_assign (v := .bool t15) rfl) ?_
 show C _ _ _ _ _ _
 refine C_if (t := t15) rfl (fun hc16 => ?_) (fun hc16 => ?_)
 ·have hc16' := of_decide_eq_true (ht15.symm.trans hc16)
  refine C_sr ?_
  refine sqv (ex_assign (v := .int .i64 12) rfl) ?_
  show C _ _ _ _ _ _
  refine C_ret ?_
  refine blk_ret ?_
  refine thn_ret ?_
  refine done_1 (v := .int .i64 12) rfl rfl ?_
  exact ⟨congrArg _ (show (12 : Int) = ckSh s from (by symm; unfold ckSh; rw [if_neg (by omega), if_neg (by omega), if_pos (by omega)])), hS5.none⟩
 have hc16' := of_decide_eq_false (ht15.symm.trans hc16)
 refine C_sr ?_
 refine sqv (ex_field (o' := 3) rfl fi46_3 rfl) ?_
 refine sqv (ex_load (v := .int .i64 s.n) rfl (hS5.at 0 rfl) on3 rfl) ?_
 refine nm (decide (s.n < 0)) fun t17 ht17 => ?_
 refine sqv (ex_cmp (x := s.n) (y := 0) rfl rfl ht17) ?_
 refine sqv (ex_move (v := .bool t17) rfl) ?_
 rcases bool_cases t17 with hb18 | hb18
 ·subst hb18
  have hb18 := of_decide_eq_true ht17.symm
  refine guard_no (b' := true) rfl rfl (by decide) ?_
  refine guard_no (b' := true) rfl rfl (by decide) ?_
  refine guard_no (b' := true) rfl rfl (by decide) ?_
  refine sqv (ex_pick (t := true) (v := .bool true) rfl rfl) ?_
  refine sqv (ex_assign (v := .bool true) rfl) ?_
  show C _ _ _ _ _ _
  refine C_true rfl ?_
  refine C_sr ?_
  refine sqv (ex_assign (v := .int .i64 6) rfl) ?_
  show C _ _ _ _ _ _
  refine C_ret ?_
  refine blk_ret ?_
  refine thn_ret ?_
  refine done_1 (v := .int .i64 6) rfl rfl ?_
  exact ⟨congrArg _ (show (6 : Int) = ckSh s from (by symm; unfold ckSh; rw [if_neg (by omega), if_neg (by omega), if_neg (by omega), if_pos (by omega)])), hS5.none⟩
 subst hb18
 have hb18 := of_decide_eq_false ht17.symm
 refine guard_yes (b := false) rfl rfl ?_
 refine sqv (ex_field (o' := 3) rfl fi46_3 rfl) ?_
 refine guard_yes (b := false) rfl rfl ?_
 refine sqv (ex_load (v := .int .i64 s.n) rfl (hS5.at 0 rfl) on3 rfl) ?_
 refine guard_yes (b := false) rfl rfl ?_
 refine nm (decide (65535 < s.n)) fun t19 ht19 => ?_
 refine sqv (ex_cmp (x := s.n) (y := 65535) rfl rfl ht19) ?_
 refine sqv (ex_pick (t := false) (v := .bool t19) rfl rfl) ?_
 refine sqv (ex_assign (v := .bool t19) rfl) ?_
 show C _ _ _ _ _ _
 refine C_if (t := t19) rfl (fun hc20 => ?_) (fun hc20 => ?_)
 ·have hc20' := of_decide_eq_true (ht19.symm.trans hc20)
  refine C_sr ?_
  refine sqv (ex_assign (v := .int .i64 6) rfl) ?_
  show C _ _ _ _ _ _
  refine C_ret ?_
  refine blk_ret ?_
  refine thn_ret ?_
  refine done_1 (v := .int .i64 6) rfl rfl ?_
  exact ⟨congrArg _ (show (6 : Int) = ckSh s from (by symm; unfold ckSh; rw [if_neg (by omega), if_neg (by omega), if_neg (by omega), if_pos (by omega)])), hS5.none⟩
 have hc20' := of_decide_eq_false (ht19.symm.trans hc20)
 refine C_seq ?_
 refine C_draw (p := 8) (l := [(some 38, .pointer (some ⟨b1, 4, none⟩)), (some 39, s.v), (some 40, .int .i64 (s.p.length : Int)), (some 41, .pointer (some ⟨b1, 3, none⟩)), (some 42, .int .i64 s.n), (some 43, .int .i64 (cntI s.n)), (some 44, .bool (decide ((s.p.length : Int) ≠ (cntI s.n)))), (some 37, .bool (decide ((s.p.length : Int) ≠ (cntI s.n))))]) (G := []) (J := fun w => St [] w0 w [some (b1, .cells #[.int .i64 s.f, .int .i64 s.t, .int .i64 s.i, .int .i64 s.n, s.v] 46)] []) mixed ?_ (hS5.draw _)
 refine node1 8 [] [] [] (by kernel_rfl) rfl rfl (nd rfl) rfl (by kernel_rfl) ?_ ?_ ?_
 ·intro S wd hSd
  refine ⟨n0 rfl rfl rfl (ex_field (o' := 4) rfl fi46_4 rfl) rfl hSd, n1 rfl rfl rfl rfl (fun hq0 => (ex_load (v := s.v) (evS hq0 rfl rfl) (hSd.at 0 rfl) on44 rfl)) rfl hSd, n1 rfl rfl rfl rfl (fun hq1 => (ex_lenO (f := el) (k := 4) (r := (s.p.length : Int)) (fun _ => rfl) (by decide) (hs_s) (evS hq1 rfl rfl) sl44 rfl)) rfl hSd, n0 rfl rfl rfl (ex_field (o' := 3) rfl fi46_3 rfl) rfl hSd, n1 rfl rfl rfl rfl (fun hq3 => (ex_load (v := .int .i64 s.n) (evS hq3 rfl rfl) (hSd.at 0 rfl) on3 rfl)) rfl hSd, ?_, n2 rfl rfl rfl rfl (fun hq2 hq5 => (ex_cmp (x := (s.p.length : Int)) (y := (cntI s.n)) (r := decide ((s.p.length : Int) ≠ (cntI s.n))) (evS hq2 rfl rfl) (evS hq5 rfl rfl) rfl)) rfl hSd, ?_, tt⟩
  ·refine needG rfl ?_
   rintro ⟨hq4, _⟩ hno
   refine dxC (wanted_none rfl) rfl (exe_call (args := #[.int .i64 s.n]) en108 (args_of1 (evS hq4 rfl rfl))) (c_rCount s.n wd (by omega)) ?_
   rintro _ W21 ⟨rfl, hT23⟩
   have hS22 := hSd.call hT23
   exact ⟨rfl, hS22⟩
  refine needG rfl ?_
  rintro ⟨hq6, hq5, _⟩ hno
  exact dx (wanted_none rfl) rfl (ex_assign (v := .bool (decide ((s.p.length : Int) ≠ (cntI s.n)))) (evS hq6 rfl rfl)) ⟨rfl, hSd⟩
 ·exact fun S wd hSd => ⟨True.intro, True.intro, True.intro, True.intro, True.intro, True.intro, True.intro, True.intro, True.intro⟩
 intro _ W25 hS26
 show C _ _ _ _ _ _
 refine C_dec ((s.p.length : Int) ≠ (cntI s.n)) rfl (fun hc27 => ?_) (fun hc27 => ?_)
 ·refine C_sr ?_
  refine sqv (ex_assign (v := .int .i64 8) rfl) ?_
  show C _ _ _ _ _ _
  refine C_ret ?_
  refine blk_ret ?_
  refine thn_ret ?_
  refine done_1 (v := .int .i64 8) rfl rfl ?_
  exact ⟨congrArg _ (show (8 : Int) = ckSh s from (by symm; unfold ckSh; rw [if_neg (by omega), if_neg (by omega), if_neg (by omega), if_neg (by omega), if_pos (by omega)])), hS26.none⟩
 refine C_skip ?_
 refine blk_normal ?_
 show C _ _ _ _ _ _
 refine C_sr ?_
 refine sqv (ex_field (o' := 0) rfl fi46_0 rfl) ?_
 refine sqv (ex_load (v := .int .i64 s.f) rfl (hS26.at 0 rfl) on3 rfl) ?_
 refine sqc (exe_call (args := #[.int .i64 s.f]) en20 (args_of1 rfl)) (c_Modulus F s.f W25 hF g1) ?_
 rintro _ W28 ⟨rfl, hT30⟩
 have hS29 := hS26.call hT30
 refine sqE (st_alloc hS29 ze40) fun b32 W33 hS34 => ?_
 refine sqUE (st_stores (v := elV F.p) (cs' := (elA (F.p))) 0 hS34 rfl rfl rfl ag40 rfl (Nat.le_of_ble_eq_true rfl) (ones_of rfl) rfl) fun W35 hS36 => ?_
 show C _ _ _ _ _ _
 refine C_seq ?_
 refine C_sr ?_
 refine sqv (ex_assign (v := .int .i64 0) rfl) ?_
 show C _ _ _ _ _ _
 refine C_block ?_
 refine C_loop (fun nn aa ww => ∃ (m0 : Nat → Value) (k : Nat), nn = s.p.length - k ∧ aa = act 68 (upds m0 [(1, pt b1), (3, pt b32), (4, .int .i64 (k : Int))]) [] ∧ St [] w0 ww [some (b32, .cells (elA (F.p)) 40), some (b1, .cells #[.int .i64 s.f, .int .i64 s.t, .int .i64 s.i, .int .i64 s.n, s.v] 46)] [] ∧ (k ≤ s.p.length) ∧ (((s.p.take k).all fun y => decide (y < F.p)) = true)) s.p.length ?_ ?_
 ·exact ⟨_, 0, rfl, act_upds ⟨rfl, rfl, (congrArg (Value.int .i64) (by first | rfl | omega)), trivial⟩, (St.pick (L := [some (b32, .cells (elA (F.p)) 40), some (b1, .cells #[.int .i64 s.f, .int .i64 s.t, .int .i64 s.i, .int .i64 s.n, s.v] 46)]) hS36 [0, 1] (by decide)), (Nat.zero_le _), rfl⟩
 rintro n40 a41 W38 ⟨m37, k, rfl, rfl, hS39, hk, hb⟩
 refine C_seq ?_
 refine C_sr ?_
 refine sqv (ex_move (v := .int .i64 (k : Int)) rfl) ?_
 refine sqv (ex_field (o' := 4) rfl fi46_4 rfl) ?_
 refine sqv (ex_load (v := s.v) rfl (hS39.at 1 rfl) on44 rfl) ?_
 refine sqv (ex_lenO (f := el) (k := 4) (r := (s.p.length : Int)) (fun _ => rfl) (by decide) (hs_s) rfl sl44 rfl) ?_
 refine sqv (ex_cmp (x := (k : Int)) (y := (s.p.length : Int)) (r := decide ((k : Int) < (s.p.length : Int))) rfl rfl rfl) ?_
 show C _ _ _ _ _ _
 refine C_dec ((k : Int) < (s.p.length : Int)) rfl (fun hc42 => ?_) (fun hc42 => ?_)
 ·refine C_skip ?_
  show C _ _ _ _ _ _
  refine C_seq ?_
  refine C_block ?_
  refine C_seq ?_
  obtain ⟨y43, hy44⟩ := get_lt s.p k (by first | omega | (simp only [List.length_set, List.length_replicate, List.length_append, List.length_take, List.length_drop, List.length_cons, List.length_nil, List.length_map]; omega))
  have hky43 := g2 y43 (List.mem_of_getElem? hy44)
  obtain ⟨b45, o46, hI47, hC48⟩ := sl_at (f := el) (k := 4) (fun _ => rfl) (by decide) (hs_s) hy44
  obtain ⟨b53, o54, hI55, hC56⟩ := sl_at (f := el) (k := 4) (fun _ => rfl) (by decide) (hs_s) hy44
  refine C_draw (p := 13) (l := [(some 55, elV F.p), (some 56, .pointer (some ⟨b1, 4, none⟩)), (some 57, s.v), (some 58, .int .i64 (k : Int)), (some 59, .pointer (some ⟨b45, o46, none⟩)), (some 60, elV y43), (some 61, elV (sbN F.p y43 0)), (some 62, .pointer (some ⟨b1, 4, none⟩)), (some 63, s.v), (some 64, .int .i64 (k : Int)), (some 65, .pointer (some ⟨b53, o54, none⟩)), (some 66, elV y43), (some 67, .bool (decide ((sbN F.p y43 0) ≠ y43)))]) (G := []) (J := fun w => St [] w0 w [some (b32, .cells (elA (F.p)) 40), some (b1, .cells #[.int .i64 s.f, .int .i64 s.t, .int .i64 s.i, .int .i64 s.n, s.v] 46)] []) mixed ?_ (hS39.draw _)
  refine node1 13 [] [] [] (by kernel_rfl) rfl rfl (nd rfl) rfl (by kernel_rfl) ?_ ?_ ?_
  ·intro S wd hSd
   refine ⟨n0 rfl rfl rfl (ex_loads (vs := (el (F.p))) rfl (hSd.at 0 rfl) ag40 rfl rfl) rfl hSd, n0 rfl rfl rfl (ex_field (o' := 4) rfl fi46_4 rfl) rfl hSd, n1 rfl rfl rfl rfl (fun hq1 => (ex_load (v := s.v) (evS hq1 rfl rfl) (hSd.at 1 rfl) on44 rfl)) rfl hSd, n0 rfl rfl rfl (ex_move (v := .int .i64 (k : Int)) rfl) rfl hSd, n2 rfl rfl rfl rfl (fun hq2 hq3 => (ex_sindexO hI47 (evS hq2 rfl rfl) (evS hq3 rfl rfl) sl44 rfl)) rfl hSd, n1 rfl rfl rfl rfl (fun hq4 => (ex_loadsC (r := 0) (vs := (el y43)) hC48 (hSd.holds0 hZ0) (evS hq4 rfl rfl) ag49 rfl rfl rfl)) rfl hSd, ?_, n0 rfl rfl rfl (ex_field (o' := 4) rfl fi46_4 rfl) rfl hSd, n1 rfl rfl rfl rfl (fun hq7 => (ex_load (v := s.v) (evS hq7 rfl rfl) (hSd.at 1 rfl) on44 rfl)) rfl hSd, n0 rfl rfl rfl (ex_move (v := .int .i64 (k : Int)) rfl) rfl hSd, n2 rfl rfl rfl rfl (fun hq8 hq9 => (ex_sindexO hI55 (evS hq8 rfl rfl) (evS hq9 rfl rfl) sl44 rfl)) rfl hSd, n1 rfl rfl rfl rfl (fun hq10 => (ex_loadsC (r := 0) (vs := (el y43)) hC56 (hSd.holds0 hZ0) (evS hq10 rfl rfl) ag49 rfl rfl rfl)) rfl hSd, ?_, tt⟩
   ·refine needG rfl ?_
    rintro ⟨hq0, hq5, _⟩ hno
    refine dxC (wanted_none rfl) rfl (exe_call (args := #[elV F.p, elV y43, .int .u64 0]) en61 (args_of3 (evS hq0 rfl rfl) (evS hq5 rfl rfl) rfl)) (c_rSubtract F.p y43 0 wd (f_lt hF) (by assumption) (by first | omega | exact (bI_range _).1)) ?_
    rintro _ W49 ⟨rfl, hT51⟩
    have hS50 := hSd.call hT51
    exact ⟨rfl, hS50⟩
   refine needG rfl ?_
   rintro ⟨hq6, hq11, _⟩ hno
   exact dx (wanted_none rfl) rfl (ex_eqEl (x := (sbN F.p y43 0)) (y := y43) (t := decide ((sbN F.p y43 0) ≠ y43)) a4_40 (by first | assumption | exact sbN_lt (by assumption)) (by first | assumption | exact sbN_lt (by assumption)) (evS hq6 rfl rfl) (evS hq11 rfl rfl) rfl) ⟨rfl, hSd⟩
  ·exact fun S wd hSd => ⟨True.intro, True.intro, True.intro, True.intro, True.intro, True.intro, True.intro, True.intro, True.intro, True.intro, True.intro, True.intro, True.intro, True.intro⟩
  intro _ W57 hS58
  show C _ _ _ _ _ _
  refine C_dec ((sbN F.p y43 0) ≠ y43) rfl (fun hc59 => ?_) (fun hc59 => ?_)
  ·refine C_sr ?_
   refine sqv (ex_assign (v := .int .i64 9) rfl) ?_
   show C _ _ _ _ _ _
   refine C_ret ?_
   refine blk_ret ?_
   refine thn_ret ?_
   refine thn_ret ?_
   refine blk_ret ?_
   refine thn_ret ?_
   refine done_1 (v := .int .i64 9) rfl rfl ?_
   have hb9 := all_bad hy44 ((sb_ne (p_pos hF) (f_lt hF) hky43).1 (by assumption))
   rw [← fieldOf'_eq hF g1] at hb9
   exact ⟨congrArg _ (show (9 : Int) = ckSh s from (ckSh_9 (by omega) (by omega) (by omega) (by omega) (by omega) hb9.symm).symm), hS58.none⟩
  refine C_skip ?_
  refine blk_normal ?_
  show C _ _ _ _ _ _
  refine C_region ?_
  refine sqv (ex_move (v := .int .i64 (k : Int)) rfl) ?_
  refine nm ((k : Int) + 1) fun x60 hx60 => ?_
  refine sqv (ex_add (x := (k : Int)) (y := 1) rfl rfl (w64 hx60 (by omega))) ?_
  refine sqv (ex_assign (v := .int .i64 x60) rfl) ?_
  exact ⟨_, (by omega), ⟨_, (k + 1), rfl, act_upds ⟨rfl, rfl, (congrArg (Value.int .i64) (by first | rfl | omega)), trivial⟩, (St.pick (L := [some (b32, .cells (elA (F.p)) 40), some (b1, .cells #[.int .i64 s.f, .int .i64 s.t, .int .i64 s.i, .int .i64 s.n, s.v] 46)]) hS58 [0, 1] (by decide)), (by omega), (all_take hb hy44 (Classical.byContradiction fun hh => absurd ((sb_ne (p_pos hF) (f_lt hF) hky43).2 hh) hc59))⟩⟩
 refine C_exit ?_
 refine thn_exit ?_
 refine thn_exit ?_
 refine blk_exit ?_
 show C _ _ _ _ _ _
 refine C_sr ?_
 refine sqv (ex_assign (v := .int .i64 0) rfl) ?_
 show C _ _ _ _ _ _
 refine C_ret ?_
 refine done_1 (v := .int .i64 0) rfl rfl ?_
 obtain rfl : k = s.p.length := by omega
 rw [List.take_length, ← fieldOf'_eq hF g1] at hb
 exact ⟨congrArg _ (show (0 : Int) = ckSh s from (ckSh_9 (by omega) (by omega) (by omega) (by omega) (by omega) hb.symm).symm), hS39.none⟩
theorem c_rCheckShare0  (s : Sh) (Z0 : List Fact) (w0 : World) (g0 : ¬ (s.f = 1 ∨ s.f = 2)) (hZ0 : Holds w0 Z0) (hs_s : Sl Z0 49 4 s.v (s.p.flatMap el)) : Calls Tryz.prog 65 #[.agg #[.int .i64 s.f, .int .i64 s.t, .int .i64 s.i, .int .i64 s.n, s.v]] w0 (Ret fun uu w' => uu = .int .i64 (ckSh s) ∧ St [] w0 w' [] []) := by
 refine calls_of Tryz.func65 rfl Tryz.ntmps65 (Nat.le_of_ble_eq_true rfl) ?_
 have hS0 := St.nil w0
 refine C_sr ?_
 refine sqE (st_box (v := .agg #[.int .i64 s.f, .int .i64 s.t, .int .i64 s.i, .int .i64 s.n, s.v]) (cs := #[.int .i64 s.f, .int .i64 s.t, .int .i64 s.i, .int .i64 s.n, s.v]) hS0 rfl rfl) fun b1 W2 hS3 => ?_
 refine sqv (ex_assign (v := .int .i64 0) rfl) ?_
 show C _ _ _ _ _ _
 refine C_seq ?_
 refine C_block ?_
 refine C_sr ?_
 refine sqv (ex_field (o' := 0) rfl fi46_0 rfl) ?_
 refine sqv (ex_load (v := .int .i64 s.f) rfl (hS3.at 0 rfl) on3 rfl) ?_
 refine sqc (exe_call (args := #[.int .i64 s.f]) en107 (args_of1 rfl)) (c_known s.f W2) ?_
 rintro _ W4 ⟨rfl, hT6⟩
 have hS5 := hS3.call hT6
 refine sqv (ex_not (t := (decide (s.f = 1 ∨ s.f = 2))) rfl) ?_
 rw [show (!(decide (s.f = 1 ∨ s.f = 2))) = decide (¬ (s.f = 1 ∨ s.f = 2)) from by rw [Bool.eq_iff_iff]; first | (simp; done) | (simp; omega)]
 refine sqv (ex_assign (v := .bool (decide (¬ (s.f = 1 ∨ s.f = 2)))) rfl) ?_
 show C _ _ _ _ _ _
 refine C_dec (¬ (s.f = 1 ∨ s.f = 2)) rfl (fun hc8 => ?_) (fun hc8 => ?_)
 ·refine C_sr ?_
  refine sqv (ex_assign (v := .int .i64 3) rfl) ?_
  show C _ _ _ _ _ _
  refine C_ret ?_
  refine blk_ret ?_
  refine thn_ret ?_
  refine done_1 (v := .int .i64 3) rfl rfl ?_
  exact ⟨congrArg _ (show (3 : Int) = ckSh s from by unfold ckSh; rw [if_pos g0]), hS5.none⟩
 exact absurd g0 (by assumption)
theorem c_rCheckShare  (s : Sh) (Z0 : List Fact) (w0 : World) (g0 : ∀ y ∈ s.p, y < B256) (hZ0 : Holds w0 Z0) (hs_s : Sl Z0 49 4 s.v (s.p.flatMap el)) : Calls Tryz.prog 65 #[.agg #[.int .i64 s.f, .int .i64 s.t, .int .i64 s.i, .int .i64 s.n, s.v]] w0 (Ret fun uu w' => uu = .int .i64 (ckSh s) ∧ St [] w0 w' [] []) := by
 by_cases h : s.f = 1 ∨ s.f = 2
 ·exact c_rCheckShare1 (fieldOf' s.f) s Z0 w0 (fieldOf'_ok _) (fieldOf'_id h) g0 hZ0 hs_s
 exact c_rCheckShare0 s Z0 w0 h hZ0 hs_s
end Go.Proofs
end
section
set_option linter.unusedVariables false
set_option linter.unusedSimpArgs false
set_option maxRecDepth 20000
set_option maxHeartbeats 2000000
namespace Go.Proofs
open Sc
theorem en65 : enters Tryz.prog 65 = true := by kernel_rfl
theorem c_rCheckShares  (s : Value) (l : List Sh) (Z0 : List Fact) (w0 : World) (g0 : ∀ s ∈ l, ∀ y ∈ s.p, y < B256) (g1 : l.length < 1000000) (hZ0 : Holds w0 Z0) (hs_s : Shs Z0 46 49 s l) : Calls Tryz.prog 27 #[s] w0 (Ret fun uu w' => uu = .int .i64 (ckShs l) ∧ St [] w0 w' [] []) := by
 refine calls_of Tryz.func27 rfl Tryz.ntmps27 (Nat.le_of_ble_eq_true rfl) ?_
 have hS0 := St.nil w0
 refine C_sr ?_
 refine sqv (ex_assign (v := .int .i64 0) rfl) ?_
 show C _ _ _ _ _ _
 refine C_seq ?_
 refine C_sr ?_
 refine sqv (ex_assign (v := .int .i64 0) rfl) ?_
 show C _ _ _ _ _ _
 refine C_block ?_
 refine C_loop (fun nn aa ww => ∃ (m0 : Nat → Value) (k : Nat), nn = l.length - k ∧ aa = act 96 (upds m0 [(0, s), (3, .int .i64 (k : Int))]) [] ∧ St [] w0 ww [] [] ∧ (k ≤ l.length) ∧ (ckEach (l.take k) = 0)) l.length ?_ ?_
 ·exact ⟨_, 0, rfl, act_upds ⟨rfl, (congrArg (Value.int .i64) (by first | rfl | omega)), trivial⟩, (St.pick (L := []) hS0 [] (by decide)), (Nat.zero_le _), rfl⟩
 rintro n4 a5 W2 ⟨m1, k, rfl, rfl, hS3, hk, hE⟩
 refine C_seq ?_
 refine C_sr ?_
 refine sqv (ex_move (v := .int .i64 (k : Int)) rfl) ?_
 refine sqv (ex_move (v := s) rfl) ?_
 refine sqv (ex_lenO (f := cS) (k := 5) (r := (l.length : Int)) (fun _ => rfl) (by decide) ((hs_s).1) rfl sl22 rfl) ?_
 refine sqv (ex_cmp (x := (k : Int)) (y := (l.length : Int)) (r := decide ((k : Int) < (l.length : Int))) rfl rfl rfl) ?_
 show C _ _ _ _ _ _
 refine C_dec ((k : Int) < (l.length : Int)) rfl (fun hc6 => ?_) (fun hc6 => ?_)
 ·refine C_skip ?_
  show C _ _ _ _ _ _
  refine C_seq ?_
  refine C_block ?_
  refine C_sr ?_
  refine sqv (ex_move (v := s) rfl) ?_
  refine sqv (ex_move (v := .int .i64 (k : Int)) rfl) ?_
  obtain ⟨y7, hy8⟩ := get_lt l k (by first | omega | (simp only [List.length_set, List.length_replicate, List.length_append, List.length_take, List.length_drop, List.length_cons, List.length_nil, List.length_map]; omega))
  have hky7 := g0 y7 (List.mem_of_getElem? hy8)
  obtain ⟨b9, o10, hI11, hC12⟩ := sl_at (f := cS) (k := 5) (fun _ => rfl) (by decide) ((hs_s).1) hy8
  refine sqv (ex_sindexO hI11 rfl rfl sl22 rfl) ?_
  refine sqv (ex_loadsC (r := 0) (vs := [.int .i64 y7.f, .int .i64 y7.t, .int .i64 y7.i, .int .i64 y7.n, y7.v]) hC12 (hS3.holds0 hZ0) rfl ag46 rfl rfl rfl) ?_
  refine sqc (exe_call (args := #[.agg #[.int .i64 y7.f, .int .i64 y7.t, .int .i64 y7.i, .int .i64 y7.n, y7.v]]) en65 (args_of1 rfl)) (c_rCheckShare y7 Z0 W2 (by assumption) (hS3.holds0 hZ0) ((hs_s).2 y7 (List.mem_of_getElem? hy8))) ?_
  rintro _ W13 ⟨rfl, hT15⟩
  have hS14 := hS3.call hT15
  refine sqv (ex_assign (v := .int .i64 (ckSh y7)) rfl) ?_
  show C _ _ _ _ _ _
  refine C_sr ?_
  refine sqv (ex_move (v := .int .i64 (ckSh y7)) rfl) ?_
  refine sqv (ex_cmp (x := (ckSh y7)) (y := 0) (r := decide ((ckSh y7) ≠ 0)) rfl rfl rfl) ?_
  show C _ _ _ _ _ _
  refine C_dec ((ckSh y7) ≠ 0) rfl (fun hc17 => ?_) (fun hc17 => ?_)
  ·refine C_sr ?_
   refine sqv (ex_move (v := .int .i64 (ckSh y7)) rfl) ?_
   refine sqv (ex_assign (v := .int .i64 (ckSh y7)) rfl) ?_
   show C _ _ _ _ _ _
   refine C_ret ?_
   refine blk_ret ?_
   refine thn_ret ?_
   refine thn_ret ?_
   refine blk_ret ?_
   refine thn_ret ?_
   refine done_1 (v := .int .i64 (ckSh y7)) rfl rfl ?_
   exact ⟨congrArg _ (ckShs_each hy8 hE (by omega)), (St.pick (L := []) hS14 [] (by decide))⟩
  refine C_skip ?_
  refine blk_normal ?_
  show C _ _ _ _ _ _
  refine C_region ?_
  refine sqv (ex_move (v := .int .i64 (k : Int)) rfl) ?_
  refine nm ((k : Int) + 1) fun x18 hx18 => ?_
  refine sqv (ex_add (x := (k : Int)) (y := 1) rfl rfl (w64 hx18 (by omega))) ?_
  refine sqv (ex_assign (v := .int .i64 x18) rfl) ?_
  exact ⟨_, (by omega), ⟨_, (k + 1), rfl, act_upds ⟨rfl, (congrArg (Value.int .i64) (by first | rfl | omega)), trivial⟩, (St.pick (L := []) hS14 [] (by decide)), (by omega), (by rw [ckEach_take hy8 hE]; omega)⟩⟩
 refine C_exit ?_
 refine thn_exit ?_
 refine thn_exit ?_
 refine blk_exit ?_
 show C _ _ _ _ _ _
 refine C_seq ?_
 refine C_sr ?_
 refine sqv (ex_assign (v := .int .i64 1) rfl) ?_
 show C _ _ _ _ _ _
 refine C_block ?_
 obtain rfl : k = l.length := by omega
 rw [List.take_length] at hE
 refine C_loop (fun nn aa ww => ∃ (m0 : Nat → Value) (k : Nat), nn = l.length - k ∧ aa = act 96 (upds m0 [(0, s), (5, .int .i64 (k : Int))]) [] ∧ St [] w0 ww [] [] ∧ (1 ≤ k ∧ (k ≤ l.length ∨ k = 1)) ∧ (mixH (l.take k) = false)) (l.length - 1) ?_ ?_
 ·exact ⟨_, 1, rfl, act_upds ⟨rfl, (congrArg (Value.int .i64) (by first | rfl | omega)), trivial⟩, (St.pick (L := []) hS3 [] (by decide)), (by omega), (mix_1 l)⟩
 rintro n22 a23 W20 ⟨m19, k, rfl, rfl, hS21, hk, hm⟩
 refine C_seq ?_
 refine C_sr ?_
 refine sqv (ex_move (v := .int .i64 (k : Int)) rfl) ?_
 refine sqv (ex_move (v := s) rfl) ?_
 refine sqv (ex_lenO (f := cS) (k := 5) (r := (l.length : Int)) (fun _ => rfl) (by decide) ((hs_s).1) rfl sl22 rfl) ?_
 refine sqv (ex_cmp (x := (k : Int)) (y := (l.length : Int)) (r := decide ((k : Int) < (l.length : Int))) rfl rfl rfl) ?_
 show C _ _ _ _ _ _
 refine C_dec ((k : Int) < (l.length : Int)) rfl (fun hc24 => ?_) (fun hc24 => ?_)
 ·refine C_skip ?_
  show C _ _ _ _ _ _
  refine C_seq ?_
  refine C_block ?_
  refine C_seq ?_
  obtain ⟨y25, hy26⟩ := get_lt l k (by first | omega | (simp only [List.length_set, List.length_replicate, List.length_append, List.length_take, List.length_drop, List.length_cons, List.length_nil, List.length_map]; omega))
  have hky25 := g0 y25 (List.mem_of_getElem? hy26)
  obtain ⟨b27, o28, hI29, hC30⟩ := sl_at (f := cS) (k := 5) (fun _ => rfl) (by decide) ((hs_s).1) hy26
  obtain ⟨y31, hy32⟩ := get_lt l 0 (by first | omega | (simp only [List.length_set, List.length_replicate, List.length_append, List.length_take, List.length_drop, List.length_cons, List.length_nil, List.length_map]; omega))
  have hky31 := g0 y31 (List.mem_of_getElem? hy32)
  obtain ⟨b33, o34, hI35, hC36⟩ := sl_at (f := cS) (k := 5) (fun _ => rfl) (by decide) ((hs_s).1) hy32
  refine nm (decide (y25.f ≠ y31.f)) fun t37 ht37 => ?_
  rcases bool_cases t37 with hb38 | hb38
  ·subst hb38
   have hb38 := of_decide_eq_true ht37.symm
   refine C_draw (p := 34) (l := [(some 28, s), (some 29, .int .i64 (k : Int)), (some 30, .pointer (some ⟨b27, o28, none⟩)), (some 31, .pointer (some ⟨b27, o28, none⟩)), (some 32, .int .i64 y25.f), (some 33, s), (some 34, .pointer (some ⟨b33, o34, none⟩)), (some 35, .pointer (some ⟨b33, o34, none⟩)), (some 36, .int .i64 y31.f), (some 37, .bool true), (some 38, .bool true), (some 39, undef), (some 40, undef), (some 41, undef), (some 42, undef), (some 43, undef), (some 44, undef), (some 45, undef), (some 46, undef), (some 47, undef), (some 48, undef), (some 49, .bool true), (some 50, .bool true), (some 51, undef), (some 52, undef), (some 53, undef), (some 54, undef), (some 55, undef), (some 56, undef), (some 57, undef), (some 58, undef), (some 59, undef), (some 60, undef), (some 61, .bool true)]) (G := []) (J := fun w => St [] w0 w [] []) mixed ?_ (hS21.draw _)
   refine node1 34 [] [] [] (by kernel_rfl) rfl rfl (nd rfl) rfl (by kernel_rfl) ?_ ?_ ?_
   ·intro S wd hSd
    refine ⟨n0 rfl rfl rfl (ex_move (v := s) rfl) rfl hSd, n0 rfl rfl rfl (ex_move (v := .int .i64 (k : Int)) rfl) rfl hSd, n2 rfl rfl rfl rfl (fun hq0 hq1 => (ex_sindexO hI29 (evS hq0 rfl rfl) (evS hq1 rfl rfl) sl22 rfl)) rfl hSd, n1 rfl rfl rfl rfl (fun hq2 => (ex_field (o' := o28) (evS hq2 rfl rfl) fi46_0 rfl)) rfl hSd, n1 rfl rfl rfl rfl (fun hq3 => (ex_loadC (r := 0) (u := .int .i64 y25.f) hC30 (hSd.holds0 hZ0) (evS hq3 rfl rfl) on3 rfl rfl)) rfl hSd, n0 rfl rfl rfl (ex_move (v := s) rfl) rfl hSd, n1 rfl rfl rfl rfl (fun hq5 => (ex_sindexO hI35 (evS hq5 rfl rfl) rfl sl22 (by omega))) rfl hSd, n1 rfl rfl rfl rfl (fun hq6 => (ex_field (o' := o34) (evS hq6 rfl rfl) fi46_0 rfl)) rfl hSd, n1 rfl rfl rfl rfl (fun hq7 => (ex_loadC (r := 0) (u := .int .i64 y31.f) hC36 (hSd.holds0 hZ0) (evS hq7 rfl rfl) on3 rfl rfl)) rfl hSd, n2 rfl rfl rfl rfl (fun hq4 hq8 => (ex_cmp (x := y25.f) (y := y31.f) (evS hq4 rfl rfl) (evS hq8 rfl rfl) ht37)) rfl hSd, n1 rfl rfl rfl rfl (fun hq9 => (ex_move (v := .bool true) (evS hq9 rfl rfl))) rfl hSd, ?_, ?_, ?_, ?_, ?_, ?_, ?_, ?_, ?_, ?_, n2 rfl rfl rfl rfl (fun hq10 hq20 => (ex_pickT (v := .bool true) (evS hq10 rfl rfl) rfl)) rfl hSd, n2 rfl rfl rfl rfl (fun hq21 hq10 => (ex_move (v := .bool true) (evS hq21 rfl rfl))) rfl hSd, ?_, ?_, ?_, ?_, ?_, ?_, ?_, ?_, ?_, ?_, ?_, tt⟩
    ·refine needG rfl ?_
     rintro ⟨hq10, _⟩ hno
     exact dxS (wanted_no (b' := true) rfl rfl (evS hq10 rfl rfl) (by decide)) ⟨rfl, hSd⟩
    ·refine needG rfl ?_
     rintro ⟨hq10, _⟩ hno
     exact dxS (wanted_no (b' := true) rfl rfl (evS hq10 rfl rfl) (by decide)) ⟨rfl, hSd⟩
    ·refine needG rfl ?_
     rintro ⟨hq11, hq12, hq10, _⟩ hno
     exact dxS (wanted_no (b' := true) rfl rfl (evS hq10 rfl rfl) (by decide)) ⟨rfl, hSd⟩
    ·refine needG rfl ?_
     rintro ⟨hq13, hq10, _⟩ hno
     exact dxS (wanted_no (b' := true) rfl rfl (evS hq10 rfl rfl) (by decide)) ⟨rfl, hSd⟩
    ·refine needG rfl ?_
     rintro ⟨hq14, hq10, _⟩ hno
     exact dxS (wanted_no (b' := true) rfl rfl (evS hq10 rfl rfl) (by decide)) ⟨rfl, hSd⟩
    ·refine needG rfl ?_
     rintro ⟨hq10, _⟩ hno
     exact dxS (wanted_no (b' := true) rfl rfl (evS hq10 rfl rfl) (by decide)) ⟨rfl, hSd⟩
    ·refine needG rfl ?_
     rintro ⟨hq16, hq10, _⟩ hno
     exact dxS (wanted_no (b' := true) rfl rfl (evS hq10 rfl rfl) (by decide)) ⟨rfl, hSd⟩
    ·refine needG rfl ?_
     rintro ⟨hq17, hq10, _⟩ hno
     exact dxS (wanted_no (b' := true) rfl rfl (evS hq10 rfl rfl) (by decide)) ⟨rfl, hSd⟩
    ·refine needG rfl ?_
     rintro ⟨hq18, hq10, _⟩ hno
     exact dxS (wanted_no (b' := true) rfl rfl (evS hq10 rfl rfl) (by decide)) ⟨rfl, hSd⟩
    ·refine needG rfl ?_
     rintro ⟨hq15, hq19, hq10, _⟩ hno
     exact dxS (wanted_no (b' := true) rfl rfl (evS hq10 rfl rfl) (by decide)) ⟨rfl, hSd⟩
    ·refine needG rfl ?_
     rintro ⟨hq22, _⟩ hno
     exact dxS (wanted_no (b' := true) rfl rfl (evS hq22 rfl rfl) (by decide)) ⟨rfl, hSd⟩
    ·refine needG rfl ?_
     rintro ⟨hq22, _⟩ hno
     exact dxS (wanted_no (b' := true) rfl rfl (evS hq22 rfl rfl) (by decide)) ⟨rfl, hSd⟩
    ·refine needG rfl ?_
     rintro ⟨hq23, hq24, hq22, _⟩ hno
     exact dxS (wanted_no (b' := true) rfl rfl (evS hq22 rfl rfl) (by decide)) ⟨rfl, hSd⟩
    ·refine needG rfl ?_
     rintro ⟨hq25, hq22, _⟩ hno
     exact dxS (wanted_no (b' := true) rfl rfl (evS hq22 rfl rfl) (by decide)) ⟨rfl, hSd⟩
    ·refine needG rfl ?_
     rintro ⟨hq26, hq22, _⟩ hno
     exact dxS (wanted_no (b' := true) rfl rfl (evS hq22 rfl rfl) (by decide)) ⟨rfl, hSd⟩
    ·refine needG rfl ?_
     rintro ⟨hq22, _⟩ hno
     exact dxS (wanted_no (b' := true) rfl rfl (evS hq22 rfl rfl) (by decide)) ⟨rfl, hSd⟩
    ·refine needG rfl ?_
     rintro ⟨hq28, hq22, _⟩ hno
     exact dxS (wanted_no (b' := true) rfl rfl (evS hq22 rfl rfl) (by decide)) ⟨rfl, hSd⟩
    ·refine needG rfl ?_
     rintro ⟨hq29, hq22, _⟩ hno
     exact dxS (wanted_no (b' := true) rfl rfl (evS hq22 rfl rfl) (by decide)) ⟨rfl, hSd⟩
    ·refine needG rfl ?_
     rintro ⟨hq30, hq22, _⟩ hno
     exact dxS (wanted_no (b' := true) rfl rfl (evS hq22 rfl rfl) (by decide)) ⟨rfl, hSd⟩
    ·refine needG rfl ?_
     rintro ⟨hq27, hq31, hq22, _⟩ hno
     exact dxS (wanted_no (b' := true) rfl rfl (evS hq22 rfl rfl) (by decide)) ⟨rfl, hSd⟩
    refine needG rfl ?_
    rintro ⟨hq22, hq32, _⟩ hno
    exact dx (wanted_none rfl) rfl (ex_pickT (v := .bool true) (evS hq22 rfl rfl) rfl) ⟨rfl, hSd⟩
   ·exact fun S wd hSd => ⟨True.intro, True.intro, True.intro, True.intro, True.intro, True.intro, True.intro, True.intro, True.intro, True.intro, True.intro, True.intro, True.intro, True.intro, True.intro, True.intro, True.intro, True.intro, True.intro, True.intro, True.intro, True.intro, True.intro, True.intro, True.intro, True.intro, True.intro, True.intro, True.intro, True.intro, True.intro, True.intro, True.intro, True.intro, True.intro⟩
   intro _ W39 hS40
   show C _ _ _ _ _ _
   refine C_true rfl ?_
   refine C_sr ?_
   refine sqv (ex_assign (v := .int .i64 14) rfl) ?_
   show C _ _ _ _ _ _
   refine C_ret ?_
   refine blk_ret ?_
   refine thn_ret ?_
   refine thn_ret ?_
   refine blk_ret ?_
   refine thn_ret ?_
   refine done_1 (v := .int .i64 14) rfl rfl ?_
   exact ⟨congrArg _ (ckShs_14 hE (mix_bad hk.1 hy26 hy32 (by omega))), (St.pick (L := []) hS40 [] (by decide))⟩
  subst hb38
  have hb38 := of_decide_eq_false ht37.symm
  obtain ⟨b41, o42, hI43, hC44⟩ := sl_at (f := cS) (k := 5) (fun _ => rfl) (by decide) ((hs_s).1) hy26
  obtain ⟨b45, o46, hI47, hC48⟩ := sl_at (f := cS) (k := 5) (fun _ => rfl) (by decide) ((hs_s).1) hy32
  refine nm (decide (y25.t ≠ y31.t)) fun t49 ht49 => ?_
  rcases bool_cases t49 with hb50 | hb50
  ·subst hb50
   have hb50 := of_decide_eq_true ht49.symm
   refine C_draw (p := 34) (l := [(some 28, s), (some 29, .int .i64 (k : Int)), (some 30, .pointer (some ⟨b27, o28, none⟩)), (some 31, .pointer (some ⟨b27, o28, none⟩)), (some 32, .int .i64 y25.f), (some 33, s), (some 34, .pointer (some ⟨b33, o34, none⟩)), (some 35, .pointer (some ⟨b33, o34, none⟩)), (some 36, .int .i64 y31.f), (some 37, .bool false), (some 38, .bool false), (some 39, s), (some 40, .int .i64 (k : Int)), (some 41, .pointer (some ⟨b41, o42, none⟩)), (some 42, .pointer (some ⟨b41, o42 + 1, none⟩)), (some 43, .int .i64 y25.t), (some 44, s), (some 45, .pointer (some ⟨b45, o46, none⟩)), (some 46, .pointer (some ⟨b45, o46 + 1, none⟩)), (some 47, .int .i64 y31.t), (some 48, .bool true), (some 49, .bool true), (some 50, .bool true), (some 51, undef), (some 52, undef), (some 53, undef), (some 54, undef), (some 55, undef), (some 56, undef), (some 57, undef), (some 58, undef), (some 59, undef), (some 60, undef), (some 61, .bool true)]) (G := []) (J := fun w => St [] w0 w [] []) mixed ?_ (hS21.draw _)
   refine node1 34 [] [] [] (by kernel_rfl) rfl rfl (nd rfl) rfl (by kernel_rfl) ?_ ?_ ?_
   ·intro S wd hSd
    refine ⟨n0 rfl rfl rfl (ex_move (v := s) rfl) rfl hSd, n0 rfl rfl rfl (ex_move (v := .int .i64 (k : Int)) rfl) rfl hSd, n2 rfl rfl rfl rfl (fun hq0 hq1 => (ex_sindexO hI29 (evS hq0 rfl rfl) (evS hq1 rfl rfl) sl22 rfl)) rfl hSd, n1 rfl rfl rfl rfl (fun hq2 => (ex_field (o' := o28) (evS hq2 rfl rfl) fi46_0 rfl)) rfl hSd, n1 rfl rfl rfl rfl (fun hq3 => (ex_loadC (r := 0) (u := .int .i64 y25.f) hC30 (hSd.holds0 hZ0) (evS hq3 rfl rfl) on3 rfl rfl)) rfl hSd, n0 rfl rfl rfl (ex_move (v := s) rfl) rfl hSd, n1 rfl rfl rfl rfl (fun hq5 => (ex_sindexO hI35 (evS hq5 rfl rfl) rfl sl22 (by omega))) rfl hSd, n1 rfl rfl rfl rfl (fun hq6 => (ex_field (o' := o34) (evS hq6 rfl rfl) fi46_0 rfl)) rfl hSd, n1 rfl rfl rfl rfl (fun hq7 => (ex_loadC (r := 0) (u := .int .i64 y31.f) hC36 (hSd.holds0 hZ0) (evS hq7 rfl rfl) on3 rfl rfl)) rfl hSd, n2 rfl rfl rfl rfl (fun hq4 hq8 => (ex_cmp (x := y25.f) (y := y31.f) (evS hq4 rfl rfl) (evS hq8 rfl rfl) ht37)) rfl hSd, n1 rfl rfl rfl rfl (fun hq9 => (ex_move (v := .bool false) (evS hq9 rfl rfl))) rfl hSd, ?_, ?_, ?_, ?_, ?_, ?_, ?_, ?_, ?_, ?_, n2 rfl rfl rfl rfl (fun hq10 hq20 => (ex_pickF (v := .bool true) (evS hq10 rfl rfl) (evS hq20 rfl rfl))) rfl hSd, n2 rfl rfl rfl rfl (fun hq21 hq10 => (ex_move (v := .bool true) (evS hq21 rfl rfl))) rfl hSd, ?_, ?_, ?_, ?_, ?_, ?_, ?_, ?_, ?_, ?_, ?_, tt⟩
    ·refine needG rfl ?_
     rintro ⟨hq10, _⟩ hno
     exact dx (wanted_yes rfl rfl (evS hq10 rfl rfl)) rfl (ex_move (v := s) rfl) ⟨rfl, hSd⟩
    ·refine needG rfl ?_
     rintro ⟨hq10, _⟩ hno
     exact dx (wanted_yes rfl rfl (evS hq10 rfl rfl)) rfl (ex_move (v := .int .i64 (k : Int)) rfl) ⟨rfl, hSd⟩
    ·refine needG rfl ?_
     rintro ⟨hq11, hq12, hq10, _⟩ hno
     exact dx (wanted_yes rfl rfl (evS hq10 rfl rfl)) rfl (ex_sindexO hI43 (evS hq11 rfl rfl) (evS hq12 rfl rfl) sl22 rfl) ⟨rfl, hSd⟩
    ·refine needG rfl ?_
     rintro ⟨hq13, hq10, _⟩ hno
     exact dx (wanted_yes rfl rfl (evS hq10 rfl rfl)) rfl (ex_field (o' := (o42 + 1)) (evS hq13 rfl rfl) fi46_1 rfl) ⟨rfl, hSd⟩
    ·refine needG rfl ?_
     rintro ⟨hq14, hq10, _⟩ hno
     exact dx (wanted_yes rfl rfl (evS hq10 rfl rfl)) rfl (ex_loadC (r := 1) (u := .int .i64 y25.t) hC44 (hSd.holds0 hZ0) (evS hq14 rfl rfl) on3 rfl rfl) ⟨rfl, hSd⟩
    ·refine needG rfl ?_
     rintro ⟨hq10, _⟩ hno
     exact dx (wanted_yes rfl rfl (evS hq10 rfl rfl)) rfl (ex_move (v := s) rfl) ⟨rfl, hSd⟩
    ·refine needG rfl ?_
     rintro ⟨hq16, hq10, _⟩ hno
     exact dx (wanted_yes rfl rfl (evS hq10 rfl rfl)) rfl (ex_sindexO hI47 (evS hq16 rfl rfl) rfl sl22 (by omega)) ⟨rfl, hSd⟩
    ·refine needG rfl ?_
     rintro ⟨hq17, hq10, _⟩ hno
     exact dx (wanted_yes rfl rfl (evS hq10 rfl rfl)) rfl (ex_field (o' := (o46 + 1)) (evS hq17 rfl rfl) fi46_1 rfl) ⟨rfl, hSd⟩
    ·refine needG rfl ?_
     rintro ⟨hq18, hq10, _⟩ hno
     exact dx (wanted_yes rfl rfl (evS hq10 rfl rfl)) rfl (ex_loadC (r := 1) (u := .int .i64 y31.t) hC48 (hSd.holds0 hZ0) (evS hq18 rfl rfl) on3 rfl rfl) ⟨rfl, hSd⟩
    ·refine needG rfl ?_
     rintro ⟨hq15, hq19, hq10, _⟩ hno
     exact dx (wanted_yes rfl rfl (evS hq10 rfl rfl)) rfl (ex_cmp (x := y25.t) (y := y31.t) (evS hq15 rfl rfl) (evS hq19 rfl rfl) ht49) ⟨rfl, hSd⟩
    ·refine needG rfl ?_
     rintro ⟨hq22, _⟩ hno
     exact dxS (wanted_no (b' := true) rfl rfl (evS hq22 rfl rfl) (by decide)) ⟨rfl, hSd⟩
    ·refine needG rfl ?_
     rintro ⟨hq22, _⟩ hno
     exact dxS (wanted_no (b' := true) rfl rfl (evS hq22 rfl rfl) (by decide)) ⟨rfl, hSd⟩
    ·refine needG rfl ?_
     rintro ⟨hq23, hq24, hq22, _⟩ hno
     exact dxS (wanted_no (b' := true) rfl rfl (evS hq22 rfl rfl) (by decide)) ⟨rfl, hSd⟩
    ·refine needG rfl ?_
     rintro ⟨hq25, hq22, _⟩ hno
     exact dxS (wanted_no (b' := true) rfl rfl (evS hq22 rfl rfl) (by decide)) ⟨rfl, hSd⟩
    ·refine needG rfl ?_
     rintro ⟨hq26, hq22, _⟩ hno
     exact dxS (wanted_no (b' := true) rfl rfl (evS hq22 rfl rfl) (by decide)) ⟨rfl, hSd⟩
    ·refine needG rfl ?_
     rintro ⟨hq22, _⟩ hno
     exact dxS (wanted_no (b' := true) rfl rfl (evS hq22 rfl rfl) (by decide)) ⟨rfl, hSd⟩
    ·refine needG rfl ?_
     rintro ⟨hq28, hq22, _⟩ hno
     exact dxS (wanted_no (b' := true) rfl rfl (evS hq22 rfl rfl) (by decide)) ⟨rfl, hSd⟩
    ·refine needG rfl ?_
     rintro ⟨hq29, hq22, _⟩ hno
     exact dxS (wanted_no (b' := true) rfl rfl (evS hq22 rfl rfl) (by decide)) ⟨rfl, hSd⟩
    ·refine needG rfl ?_
     rintro ⟨hq30, hq22, _⟩ hno
     exact dxS (wanted_no (b' := true) rfl rfl (evS hq22 rfl rfl) (by decide)) ⟨rfl, hSd⟩
    ·refine needG rfl ?_
     rintro ⟨hq27, hq31, hq22, _⟩ hno
     exact dxS (wanted_no (b' := true) rfl rfl (evS hq22 rfl rfl) (by decide)) ⟨rfl, hSd⟩
    refine needG rfl ?_
    rintro ⟨hq22, hq32, _⟩ hno
    exact dx (wanted_none rfl) rfl (ex_pickT (v := .bool true) (evS hq22 rfl rfl) rfl) ⟨rfl, hSd⟩
   ·exact fun S wd hSd => ⟨True.intro, True.intro, True.intro, True.intro, True.intro, True.intro, True.intro, True.intro, True.intro, True.intro, True.intro, True.intro, True.intro, True.intro, True.intro, True.intro, True.intro, True.intro, True.intro, True.intro, True.intro, True.intro, True.intro, True.intro, True.intro, True.intro, True.intro, True.intro, True.intro, True.intro, True.intro, True.intro, True.intro, True.intro, True.intro⟩
   intro _ W51 hS52
   show C _ _ _ _ _ _
   refine C_true rfl ?_
   refine C_sr ?_
   refine sqv (ex_assign (v := .int .i64 14) rfl) ?_
   show C _ _ _ _ _ _
   refine C_ret ?_
   refine blk_ret ?_
   refine thn_ret ?_
   refine thn_ret ?_
   refine blk_ret ?_
   refine thn_ret ?_
   refine done_1 (v := .int .i64 14) rfl rfl ?_
   exact ⟨congrArg _ (ckShs_14 hE (mix_bad hk.1 hy26 hy32 (by omega))), (St.pick (L := []) hS52 [] (by decide))⟩
  subst hb50
  have hb50 := of_decide_eq_false ht49.symm
  obtain ⟨b53, o54, hI55, hC56⟩ := sl_at (f := cS) (k := 5) (fun _ => rfl) (by decide) ((hs_s).1) hy26
  obtain ⟨b57, o58, hI59, hC60⟩ := sl_at (f := cS) (k := 5) (fun _ => rfl) (by decide) ((hs_s).1) hy32
  refine nm (decide (y25.n ≠ y31.n)) fun t61 ht61 => ?_
  refine C_draw (p := 34) (l := [(some 28, s), (some 29, .int .i64 (k : Int)), (some 30, .pointer (some ⟨b27, o28, none⟩)), (some 31, .pointer (some ⟨b27, o28, none⟩)), (some 32, .int .i64 y25.f), (some 33, s), (some 34, .pointer (some ⟨b33, o34, none⟩)), (some 35, .pointer (some ⟨b33, o34, none⟩)), (some 36, .int .i64 y31.f), (some 37, .bool false), (some 38, .bool false), (some 39, s), (some 40, .int .i64 (k : Int)), (some 41, .pointer (some ⟨b41, o42, none⟩)), (some 42, .pointer (some ⟨b41, o42 + 1, none⟩)), (some 43, .int .i64 y25.t), (some 44, s), (some 45, .pointer (some ⟨b45, o46, none⟩)), (some 46, .pointer (some ⟨b45, o46 + 1, none⟩)), (some 47, .int .i64 y31.t), (some 48, .bool false), (some 49, .bool false), (some 50, .bool false), (some 51, s), (some 52, .int .i64 (k : Int)), (some 53, .pointer (some ⟨b53, o54, none⟩)), (some 54, .pointer (some ⟨b53, o54 + 3, none⟩)), (some 55, .int .i64 y25.n), (some 56, s), (some 57, .pointer (some ⟨b57, o58, none⟩)), (some 58, .pointer (some ⟨b57, o58 + 3, none⟩)), (some 59, .int .i64 y31.n), (some 60, .bool t61), (some 61, .bool t61)]) (G := []) (J := fun w => St [] w0 w [] []) mixed ?_ (hS21.draw _)
  refine node1 34 [] [] [] (by kernel_rfl) rfl rfl (nd rfl) rfl (by kernel_rfl) ?_ ?_ ?_
  ·intro S wd hSd
   refine ⟨n0 rfl rfl rfl (ex_move (v := s) rfl) rfl hSd, n0 rfl rfl rfl (ex_move (v := .int .i64 (k : Int)) rfl) rfl hSd, n2 rfl rfl rfl rfl (fun hq0 hq1 => (ex_sindexO hI29 (evS hq0 rfl rfl) (evS hq1 rfl rfl) sl22 rfl)) rfl hSd, n1 rfl rfl rfl rfl (fun hq2 => (ex_field (o' := o28) (evS hq2 rfl rfl) fi46_0 rfl)) rfl hSd, n1 rfl rfl rfl rfl (fun hq3 => (ex_loadC (r := 0) (u := .int .i64 y25.f) hC30 (hSd.holds0 hZ0) (evS hq3 rfl rfl) on3 rfl rfl)) rfl hSd, n0 rfl rfl rfl (ex_move (v := s) rfl) rfl hSd, n1 rfl rfl rfl rfl (fun hq5 => (ex_sindexO hI35 (evS hq5 rfl rfl) rfl sl22 (by omega))) rfl hSd, n1 rfl rfl rfl rfl (fun hq6 => (ex_field (o' := o34) (evS hq6 rfl rfl) fi46_0 rfl)) rfl hSd, n1 rfl rfl rfl rfl (fun hq7 => (ex_loadC (r := 0) (u := .int .i64 y31.f) hC36 (hSd.holds0 hZ0) (evS hq7 rfl rfl) on3 rfl rfl)) rfl hSd, n2 rfl rfl rfl rfl (fun hq4 hq8 => (ex_cmp (x := y25.f) (y := y31.f) (evS hq4 rfl rfl) (evS hq8 rfl rfl) ht37)) rfl hSd, n1 rfl rfl rfl rfl (fun hq9 => (ex_move (v := .bool false) (evS hq9 rfl rfl))) rfl hSd, ?_, ?_, ?_, ?_, ?_, ?_, ?_, ?_, ?_, ?_, n2 rfl rfl rfl rfl (fun hq10 hq20 => (ex_pickF (v := .bool false) (evS hq10 rfl rfl) (evS hq20 rfl rfl))) rfl hSd, n2 rfl rfl rfl rfl (fun hq21 hq10 => (ex_move (v := .bool false) (evS hq21 rfl rfl))) rfl hSd, ?_, ?_, ?_, ?_, ?_, ?_, ?_, ?_, ?_, ?_, ?_, tt⟩
   ·refine needG rfl ?_
    rintro ⟨hq10, _⟩ hno
    exact dx (wanted_yes rfl rfl (evS hq10 rfl rfl)) rfl (ex_move (v := s) rfl) ⟨rfl, hSd⟩
   ·refine needG rfl ?_
    rintro ⟨hq10, _⟩ hno
    exact dx (wanted_yes rfl rfl (evS hq10 rfl rfl)) rfl (ex_move (v := .int .i64 (k : Int)) rfl) ⟨rfl, hSd⟩
   ·refine needG rfl ?_
    rintro ⟨hq11, hq12, hq10, _⟩ hno
    exact dx (wanted_yes rfl rfl (evS hq10 rfl rfl)) rfl (ex_sindexO hI43 (evS hq11 rfl rfl) (evS hq12 rfl rfl) sl22 rfl) ⟨rfl, hSd⟩
   ·refine needG rfl ?_
    rintro ⟨hq13, hq10, _⟩ hno
    exact dx (wanted_yes rfl rfl (evS hq10 rfl rfl)) rfl (ex_field (o' := (o42 + 1)) (evS hq13 rfl rfl) fi46_1 rfl) ⟨rfl, hSd⟩
   ·refine needG rfl ?_
    rintro ⟨hq14, hq10, _⟩ hno
    exact dx (wanted_yes rfl rfl (evS hq10 rfl rfl)) rfl (ex_loadC (r := 1) (u := .int .i64 y25.t) hC44 (hSd.holds0 hZ0) (evS hq14 rfl rfl) on3 rfl rfl) ⟨rfl, hSd⟩
   ·refine needG rfl ?_
    rintro ⟨hq10, _⟩ hno
    exact dx (wanted_yes rfl rfl (evS hq10 rfl rfl)) rfl (ex_move (v := s) rfl) ⟨rfl, hSd⟩
   ·refine needG rfl ?_
    rintro ⟨hq16, hq10, _⟩ hno
    exact dx (wanted_yes rfl rfl (evS hq10 rfl rfl)) rfl (ex_sindexO hI47 (evS hq16 rfl rfl) rfl sl22 (by omega)) ⟨rfl, hSd⟩
   ·refine needG rfl ?_
    rintro ⟨hq17, hq10, _⟩ hno
    exact dx (wanted_yes rfl rfl (evS hq10 rfl rfl)) rfl (ex_field (o' := (o46 + 1)) (evS hq17 rfl rfl) fi46_1 rfl) ⟨rfl, hSd⟩
   ·refine needG rfl ?_
    rintro ⟨hq18, hq10, _⟩ hno
    exact dx (wanted_yes rfl rfl (evS hq10 rfl rfl)) rfl (ex_loadC (r := 1) (u := .int .i64 y31.t) hC48 (hSd.holds0 hZ0) (evS hq18 rfl rfl) on3 rfl rfl) ⟨rfl, hSd⟩
   ·refine needG rfl ?_
    rintro ⟨hq15, hq19, hq10, _⟩ hno
    exact dx (wanted_yes rfl rfl (evS hq10 rfl rfl)) rfl (ex_cmp (x := y25.t) (y := y31.t) (evS hq15 rfl rfl) (evS hq19 rfl rfl) ht49) ⟨rfl, hSd⟩
   ·refine needG rfl ?_
    rintro ⟨hq22, _⟩ hno
    exact dx (wanted_yes rfl rfl (evS hq22 rfl rfl)) rfl (ex_move (v := s) rfl) ⟨rfl, hSd⟩
   ·refine needG rfl ?_
    rintro ⟨hq22, _⟩ hno
    exact dx (wanted_yes rfl rfl (evS hq22 rfl rfl)) rfl (ex_move (v := .int .i64 (k : Int)) rfl) ⟨rfl, hSd⟩
   ·refine needG rfl ?_
    rintro ⟨hq23, hq24, hq22, _⟩ hno
    exact dx (wanted_yes rfl rfl (evS hq22 rfl rfl)) rfl (ex_sindexO hI55 (evS hq23 rfl rfl) (evS hq24 rfl rfl) sl22 rfl) ⟨rfl, hSd⟩
   ·refine needG rfl ?_
    rintro ⟨hq25, hq22, _⟩ hno
    exact dx (wanted_yes rfl rfl (evS hq22 rfl rfl)) rfl (ex_field (o' := (o54 + 3)) (evS hq25 rfl rfl) fi46_3 rfl) ⟨rfl, hSd⟩
   ·refine needG rfl ?_
    rintro ⟨hq26, hq22, _⟩ hno
    exact dx (wanted_yes rfl rfl (evS hq22 rfl rfl)) rfl (ex_loadC (r := 3) (u := .int .i64 y25.n) hC56 (hSd.holds0 hZ0) (evS hq26 rfl rfl) on3 rfl rfl) ⟨rfl, hSd⟩
   ·refine needG rfl ?_
    rintro ⟨hq22, _⟩ hno
    exact dx (wanted_yes rfl rfl (evS hq22 rfl rfl)) rfl (ex_move (v := s) rfl) ⟨rfl, hSd⟩
   ·refine needG rfl ?_
    rintro ⟨hq28, hq22, _⟩ hno
    exact dx (wanted_yes rfl rfl (evS hq22 rfl rfl)) rfl (ex_sindexO hI59 (evS hq28 rfl rfl) rfl sl22 (by omega)) ⟨rfl, hSd⟩
   ·refine needG rfl ?_
    rintro ⟨hq29, hq22, _⟩ hno
    exact dx (wanted_yes rfl rfl (evS hq22 rfl rfl)) rfl (ex_field (o' := (o58 + 3)) (evS hq29 rfl rfl) fi46_3 rfl) ⟨rfl, hSd⟩
   ·refine needG rfl ?_
    rintro ⟨hq30, hq22, _⟩ hno
    exact dx (wanted_yes rfl rfl (evS hq22 rfl rfl)) rfl (ex_loadC (r := 3) (u := .int .i64 y31.n) hC60 (hSd.holds0 hZ0) (evS hq30 rfl rfl) on3 rfl rfl) ⟨rfl, hSd⟩
   ·refine needG rfl ?_
    rintro ⟨hq27, hq31, hq22, _⟩ hno
    exact dx (wanted_yes rfl rfl (evS hq22 rfl rfl)) rfl (ex_cmp (x := y25.n) (y := y31.n) (evS hq27 rfl rfl) (evS hq31 rfl rfl) ht61) ⟨rfl, hSd⟩
   refine needG rfl ?_
   rintro ⟨hq22, hq32, _⟩ hno
   exact dx (wanted_none rfl) rfl (ex_pickF (v := .bool t61) (evS hq22 rfl rfl) (evS hq32 rfl rfl)) ⟨rfl, hSd⟩
  ·exact fun S wd hSd => ⟨True.intro, True.intro, True.intro, True.intro, True.intro, True.intro, True.intro, True.intro, True.intro, True.intro, True.intro, True.intro, True.intro, True.intro, True.intro, True.intro, True.intro, True.intro, True.intro, True.intro, True.intro, True.intro, True.intro, True.intro, True.intro, True.intro, True.intro, True.intro, True.intro, True.intro, True.intro, True.intro, True.intro, True.intro, True.intro⟩
  intro _ W62 hS63
  show C _ _ _ _ _ _
  refine C_if (t := t61) rfl (fun hc64 => ?_) (fun hc64 => ?_)
  ·have hc64' := of_decide_eq_true (ht61.symm.trans hc64)
   refine C_sr ?_
   refine sqv (ex_assign (v := .int .i64 14) rfl) ?_
   show C _ _ _ _ _ _
   refine C_ret ?_
   refine blk_ret ?_
   refine thn_ret ?_
   refine thn_ret ?_
   refine blk_ret ?_
   refine thn_ret ?_
   refine done_1 (v := .int .i64 14) rfl rfl ?_
   exact ⟨congrArg _ (ckShs_14 hE (mix_bad hk.1 hy26 hy32 (by omega))), (St.pick (L := []) hS63 [] (by decide))⟩
  have hc64' := of_decide_eq_false (ht61.symm.trans hc64)
  refine C_skip ?_
  refine blk_normal ?_
  show C _ _ _ _ _ _
  refine C_region ?_
  refine sqv (ex_move (v := .int .i64 (k : Int)) rfl) ?_
  refine nm ((k : Int) + 1) fun x65 hx65 => ?_
  refine sqv (ex_add (x := (k : Int)) (y := 1) rfl rfl (w64 hx65 (by omega))) ?_
  refine sqv (ex_assign (v := .int .i64 x65) rfl) ?_
  exact ⟨_, (by omega), ⟨_, (k + 1), rfl, act_upds ⟨rfl, (congrArg (Value.int .i64) (by first | rfl | omega)), trivial⟩, (St.pick (L := []) hS63 [] (by decide)), (by omega), (mix_ok hm hy26 hy32 (by omega))⟩⟩
 refine C_exit ?_
 refine thn_exit ?_
 refine thn_exit ?_
 refine blk_exit ?_
 show C _ _ _ _ _ _
 refine C_seq ?_
 refine C_sr ?_
 refine sqv (ex_assign (v := .int .i64 0) rfl) ?_
 show C _ _ _ _ _ _
 refine C_block ?_
 have hM : mixH l = false := by rw [← List.take_of_length_le (show l.length ≤ k by omega)]; exact hm
 refine C_loop (fun nn aa ww => ∃ (m0 : Nat → Value) (i : Nat), nn = l.length - i ∧ aa = act 96 (upds m0 [(0, s), (6, .int .i64 (i : Int))]) [] ∧ St [] w0 ww [] [] ∧ (i ≤ l.length) ∧ ((idxL (l.take i)).Nodup)) l.length ?_ ?_
 ·exact ⟨_, 0, rfl, act_upds ⟨rfl, (congrArg (Value.int .i64) (by first | rfl | omega)), trivial⟩, (St.pick (L := []) hS21 [] (by decide)), (Nat.zero_le _), List.nodup_nil⟩
 rintro n69 a70 W67 ⟨m66, i, rfl, rfl, hS68, hi, hn⟩
 refine C_seq ?_
 refine C_sr ?_
 refine sqv (ex_move (v := .int .i64 (i : Int)) rfl) ?_
 refine sqv (ex_move (v := s) rfl) ?_
 refine sqv (ex_lenO (f := cS) (k := 5) (r := (l.length : Int)) (fun _ => rfl) (by decide) ((hs_s).1) rfl sl22 rfl) ?_
 refine sqv (ex_cmp (x := (i : Int)) (y := (l.length : Int)) (r := decide ((i : Int) < (l.length : Int))) rfl rfl rfl) ?_
 show C _ _ _ _ _ _
 refine C_dec ((i : Int) < (l.length : Int)) rfl (fun hc71 => ?_) (fun hc71 => ?_)
 ·refine C_skip ?_
  show C _ _ _ _ _ _
  refine C_seq ?_
  refine C_block ?_
  refine C_sr ?_
  refine sqv (ex_assign (v := .int .i64 0) rfl) ?_
  show C _ _ _ _ _ _
  refine C_block ?_
  refine C_loop (fun nn aa ww => ∃ (m0 : Nat → Value) (j : Nat), nn = i - j ∧ aa = act 96 (upds m0 [(0, s), (6, .int .i64 (i : Int)), (7, .int .i64 (j : Int))]) [] ∧ St [] w0 ww [] [] ∧ (j ≤ i) ∧ (∀ (y : Sh) (j2 : Nat) (z : Sh), l[i]? = some y → j2 < j → l[j2]? = some z → y.i ≠ z.i)) i ?_ ?_
  ·exact ⟨_, 0, rfl, act_upds ⟨rfl, (congrArg (Value.int .i64) (by first | rfl | omega)), (congrArg (Value.int .i64) (by first | rfl | omega)), trivial⟩, (St.pick (L := []) hS68 [] (by decide)), (Nat.zero_le _), (fun y j2 z _ h _ => absurd h (by omega))⟩
  rintro n75 a76 W73 ⟨m72, j, rfl, rfl, hS74, hj, hd⟩
  refine C_seq ?_
  refine C_sr ?_
  refine sqv (ex_move (v := .int .i64 (j : Int)) rfl) ?_
  refine sqv (ex_move (v := .int .i64 (i : Int)) rfl) ?_
  refine sqv (ex_cmp (x := (j : Int)) (y := (i : Int)) (r := decide ((j : Int) < (i : Int))) rfl rfl rfl) ?_
  show C _ _ _ _ _ _
  refine C_dec ((j : Int) < (i : Int)) rfl (fun hc77 => ?_) (fun hc77 => ?_)
  ·refine C_skip ?_
   show C _ _ _ _ _ _
   refine C_seq ?_
   refine C_block ?_
   refine C_seq ?_
   obtain ⟨y78, hy79⟩ := get_lt l i (by first | omega | (simp only [List.length_set, List.length_replicate, List.length_append, List.length_take, List.length_drop, List.length_cons, List.length_nil, List.length_map]; omega))
   have hky78 := g0 y78 (List.mem_of_getElem? hy79)
   obtain ⟨b80, o81, hI82, hC83⟩ := sl_at (f := cS) (k := 5) (fun _ => rfl) (by decide) ((hs_s).1) hy79
   obtain ⟨y84, hy85⟩ := get_lt l j (by first | omega | (simp only [List.length_set, List.length_replicate, List.length_append, List.length_take, List.length_drop, List.length_cons, List.length_nil, List.length_map]; omega))
   have hky84 := g0 y84 (List.mem_of_getElem? hy85)
   obtain ⟨b86, o87, hI88, hC89⟩ := sl_at (f := cS) (k := 5) (fun _ => rfl) (by decide) ((hs_s).1) hy85
   refine C_draw (p := 11) (l := [(some 73, s), (some 74, .int .i64 (i : Int)), (some 75, .pointer (some ⟨b80, o81, none⟩)), (some 76, .pointer (some ⟨b80, o81 + 2, none⟩)), (some 77, .int .i64 y78.i), (some 78, s), (some 79, .int .i64 (j : Int)), (some 80, .pointer (some ⟨b86, o87, none⟩)), (some 81, .pointer (some ⟨b86, o87 + 2, none⟩)), (some 82, .int .i64 y84.i), (some 83, .bool (decide (y78.i = y84.i)))]) (G := []) (J := fun w => St [] w0 w [] []) mixed ?_ (hS74.draw _)
   refine node1 11 [] [] [] (by kernel_rfl) rfl rfl (nd rfl) rfl (by kernel_rfl) ?_ ?_ ?_
   ·intro S wd hSd
    refine ⟨n0 rfl rfl rfl (ex_move (v := s) rfl) rfl hSd, n0 rfl rfl rfl (ex_move (v := .int .i64 (i : Int)) rfl) rfl hSd, n2 rfl rfl rfl rfl (fun hq0 hq1 => (ex_sindexO hI82 (evS hq0 rfl rfl) (evS hq1 rfl rfl) sl22 rfl)) rfl hSd, n1 rfl rfl rfl rfl (fun hq2 => (ex_field (o' := (o81 + 2)) (evS hq2 rfl rfl) fi46_2 rfl)) rfl hSd, n1 rfl rfl rfl rfl (fun hq3 => (ex_loadC (r := 2) (u := .int .i64 y78.i) hC83 (hSd.holds0 hZ0) (evS hq3 rfl rfl) on3 rfl rfl)) rfl hSd, n0 rfl rfl rfl (ex_move (v := s) rfl) rfl hSd, n0 rfl rfl rfl (ex_move (v := .int .i64 (j : Int)) rfl) rfl hSd, n2 rfl rfl rfl rfl (fun hq5 hq6 => (ex_sindexO hI88 (evS hq5 rfl rfl) (evS hq6 rfl rfl) sl22 rfl)) rfl hSd, n1 rfl rfl rfl rfl (fun hq7 => (ex_field (o' := (o87 + 2)) (evS hq7 rfl rfl) fi46_2 rfl)) rfl hSd, n1 rfl rfl rfl rfl (fun hq8 => (ex_loadC (r := 2) (u := .int .i64 y84.i) hC89 (hSd.holds0 hZ0) (evS hq8 rfl rfl) on3 rfl rfl)) rfl hSd, ?_, tt⟩
    refine needG rfl ?_
    rintro ⟨hq4, hq9, _⟩ hno
    exact dx (wanted_none rfl) rfl (ex_cmp (x := y78.i) (y := y84.i) (r := decide (y78.i = y84.i)) (evS hq4 rfl rfl) (evS hq9 rfl rfl) rfl) ⟨rfl, hSd⟩
   ·exact fun S wd hSd => ⟨True.intro, True.intro, True.intro, True.intro, True.intro, True.intro, True.intro, True.intro, True.intro, True.intro, True.intro, True.intro⟩
   intro _ W90 hS91
   show C _ _ _ _ _ _
   refine C_dec (y78.i = y84.i) rfl (fun hc92 => ?_) (fun hc92 => ?_)
   ·refine C_sr ?_
    refine sqv (ex_assign (v := .int .i64 15) rfl) ?_
    show C _ _ _ _ _ _
    refine C_ret ?_
    refine blk_ret ?_
    refine thn_ret ?_
    refine thn_ret ?_
    refine blk_ret ?_
    refine blk_ret ?_
    refine thn_ret ?_
    refine thn_ret ?_
    refine blk_ret ?_
    refine thn_ret ?_
    refine done_1 (v := .int .i64 15) rfl rfl ?_
    exact ⟨congrArg _ (ckShs_15 hE hM.symm (by have h := keys_lt (idxL l); rw [idxL_len] at h; exact h.2 (nd_bad (by omega) hy79 hy85 (by assumption)))), (St.pick (L := []) hS91 [] (by decide))⟩
   refine C_skip ?_
   refine blk_normal ?_
   show C _ _ _ _ _ _
   refine C_region ?_
   refine sqv (ex_move (v := .int .i64 (j : Int)) rfl) ?_
   refine nm ((j : Int) + 1) fun x93 hx93 => ?_
   refine sqv (ex_add (x := (j : Int)) (y := 1) rfl rfl (w64 hx93 (by omega))) ?_
   refine sqv (ex_assign (v := .int .i64 x93) rfl) ?_
   exact ⟨_, (by omega), ⟨_, (j + 1), rfl, act_upds ⟨rfl, (congrArg (Value.int .i64) (by first | rfl | omega)), (congrArg (Value.int .i64) (by first | rfl | omega)), trivial⟩, (St.pick (L := []) hS91 [] (by decide)), (by omega), (fun y j2 z hy hj hz => by rcases Nat.lt_or_ge j2 j with h | h; exact hd y j2 z hy h hz; obtain rfl : j2 = j := (by omega); rw [hy79] at hy; rw [hy85] at hz; cases hy; cases hz; assumption)⟩⟩
  refine C_exit ?_
  refine thn_exit ?_
  refine thn_exit ?_
  refine blk_exit ?_
  refine blk_normal ?_
  show C _ _ _ _ _ _
  refine C_region ?_
  refine sqv (ex_move (v := .int .i64 (i : Int)) rfl) ?_
  refine nm ((i : Int) + 1) fun x94 hx94 => ?_
  refine sqv (ex_add (x := (i : Int)) (y := 1) rfl rfl (w64 hx94 (by omega))) ?_
  refine sqv (ex_assign (v := .int .i64 x94) rfl) ?_
  obtain ⟨yi, hyi⟩ := get_lt l i (by omega)
  exact ⟨_, (by omega), ⟨_, (i + 1), rfl, act_upds ⟨rfl, (congrArg (Value.int .i64) (by first | rfl | omega)), trivial⟩, (St.pick (L := []) hS74 [] (by decide)), (by omega), (nd_ok hn hyi (fun j z hj hz => hd _ j z hyi (by omega) hz))⟩⟩
 refine C_exit ?_
 refine thn_exit ?_
 refine thn_exit ?_
 refine blk_exit ?_
 show C _ _ _ _ _ _
 refine C_seq ?_
 refine C_sr ?_
 refine sqv (ex_move (v := s) rfl) ?_
 refine sqv (ex_lenO (f := cS) (k := 5) (r := (l.length : Int)) (fun _ => rfl) (by decide) ((hs_s).1) rfl sl22 rfl) ?_
 refine nm (decide ((l.length : Int) = 0)) fun t95 ht95 => ?_
 refine sqv (ex_cmp (x := (l.length : Int)) (y := 0) rfl rfl ht95) ?_
 refine sqv (ex_move (v := .bool t95) rfl) ?_
 rcases bool_cases t95 with hb96 | hb96
 ·subst hb96
  have hb96 := of_decide_eq_true ht95.symm
  refine guard_no (b' := true) rfl rfl (by decide) ?_
  refine guard_no (b' := true) rfl rfl (by decide) ?_
  refine guard_no (b' := true) rfl rfl (by decide) ?_
  refine guard_no (b' := true) rfl rfl (by decide) ?_
  refine guard_no (b' := true) rfl rfl (by decide) ?_
  refine guard_no (b' := true) rfl rfl (by decide) ?_
  refine guard_no (b' := true) rfl rfl (by decide) ?_
  refine sqv (ex_pick (t := true) (v := .bool true) rfl rfl) ?_
  show C _ _ _ _ _ _
  refine C_true rfl ?_
  refine C_sr ?_
  refine sqv (ex_assign (v := .int .i64 16) rfl) ?_
  show C _ _ _ _ _ _
  refine C_ret ?_
  refine thn_ret ?_
  refine done_1 (v := .int .i64 16) rfl rfl ?_
  obtain rfl : i = l.length := by omega
  rw [List.take_length] at hn
  exact ⟨congrArg _ (ckShs_16a hE hM.symm (by have h := keys_lt (idxL l); rw [idxL_len] at h; exact fun hlt => h.1 hlt hn) (by omega)), (St.pick (L := []) hS68 [] (by decide))⟩
 subst hb96
 have hb96 := of_decide_eq_false ht95.symm
 refine guard_yes (b := false) rfl rfl ?_
 refine sqv (ex_move (v := s) rfl) ?_
 refine guard_yes (b := false) rfl rfl ?_
 refine sqv (ex_lenO (f := cS) (k := 5) (r := (l.length : Int)) (fun _ => rfl) (by decide) ((hs_s).1) rfl sl22 rfl) ?_
 refine guard_yes (b := false) rfl rfl ?_
 refine sqv (ex_move (v := s) rfl) ?_
 refine guard_yes (b := false) rfl rfl ?_
 obtain ⟨y97, hy98⟩ := get_lt l 0 (by first | omega | (simp only [List.length_set, List.length_replicate, List.length_append, List.length_take, List.length_drop, List.length_cons, List.length_nil, List.length_map]; omega))
 have hky97 := g0 y97 (List.mem_of_getElem? hy98)
 obtain ⟨b99, o100, hI101, hC102⟩ := sl_at (f := cS) (k := 5) (fun _ => rfl) (by decide) ((hs_s).1) hy98
 refine sqv (ex_sindexO hI101 rfl rfl sl22 (by omega)) ?_
 refine guard_yes (b := false) rfl rfl ?_
 refine sqv (ex_field (o' := (o100 + 1)) rfl fi46_1 rfl) ?_
 refine guard_yes (b := false) rfl rfl ?_
 refine sqv (ex_loadC (r := 1) (u := .int .i64 y97.t) hC102 (hS68.holds0 hZ0) rfl on3 rfl rfl) ?_
 refine guard_yes (b := false) rfl rfl ?_
 refine nm (decide ((l.length : Int) < y97.t)) fun t103 ht103 => ?_
 refine sqv (ex_cmp (x := (l.length : Int)) (y := y97.t) rfl rfl ht103) ?_
 refine sqv (ex_pick (t := false) (v := .bool t103) rfl rfl) ?_
 show C _ _ _ _ _ _
 refine C_if (t := t103) rfl (fun hc104 => ?_) (fun hc104 => ?_)
 ·have hc104' := of_decide_eq_true (ht103.symm.trans hc104)
  refine C_sr ?_
  refine sqv (ex_assign (v := .int .i64 16) rfl) ?_
  show C _ _ _ _ _ _
  refine C_ret ?_
  refine thn_ret ?_
  refine done_1 (v := .int .i64 16) rfl rfl ?_
  obtain rfl : i = l.length := by omega
  rw [List.take_length] at hn
  exact ⟨congrArg _ (ckShs_16b hE hM.symm (by have h := keys_lt (idxL l); rw [idxL_len] at h; exact fun hlt => h.1 hlt hn) hy98 (by omega)), (St.pick (L := []) hS68 [] (by decide))⟩
 have hc104' := of_decide_eq_false (ht103.symm.trans hc104)
 refine C_skip ?_
 show C _ _ _ _ _ _
 refine C_sr ?_
 refine sqv (ex_assign (v := .int .i64 0) rfl) ?_
 show C _ _ _ _ _ _
 refine C_ret ?_
 refine done_1 (v := .int .i64 0) rfl rfl ?_
 obtain rfl : i = l.length := by omega
 rw [List.take_length] at hn
 exact ⟨congrArg _ (ckShs_0 hE hM.symm (by have h := keys_lt (idxL l); rw [idxL_len] at h; exact fun hlt => h.1 hlt hn) hy98 (by omega)), (St.pick (L := []) hS68 [] (by decide))⟩
theorem c_rColumn (c : Int) (s : Value) (l : List Sh) (Z0 : List Fact) (w0 : World) (g0 : l.length < 1000000) (g1 : 0 ≤ c) (g2 : ∀ s ∈ l, c < s.p.length) (hZ0 : Holds w0 Z0) (hs_s : Shs Z0 46 49 s l) : Calls Tryz.prog 88 #[s, .int .i64 c] w0 (Ret fun uu w' => ∃ (v : Value), ∃ (en : Ent), uu = v ∧ (Own 40 4 el v (colL l (c).toNat) en) ∧ St [] w0 w' [en] []) := by
 have hpl : ∀ s ∈ l, (s.p.length : Int) ≤ 9223372036854775807 := fun s h => sl_lt (f := el) (k := 4) (fun _ => rfl) (by decide) (hs_s.2 s h)
 refine calls_of Tryz.func88 rfl Tryz.ntmps88 (Nat.le_of_ble_eq_true rfl) ?_
 have hS0 := St.nil w0
 refine C_sr ?_
 refine sqv (ex_assign (v := .slice none 0 0) rfl) ?_
 show C _ _ _ _ _ _
 refine C_sr ?_
 refine sqv (ex_assign (v := .slice none 0 0) rfl) ?_
 show C _ _ _ _ _ _
 refine C_seq ?_
 refine C_sr ?_
 refine sqv (ex_assign (v := .int .i64 0) rfl) ?_
 show C _ _ _ _ _ _
 refine C_block ?_
 have hS1 := St.non hS0
 refine C_loop (fun nn aa ww => ∃ (m0 : Nat → Value) (k : Nat) (v : Value) (en : Ent) (o : List Nat), nn = l.length - k ∧ aa = act 40 (upds m0 [(0, s), (1, .int .i64 c), (4, .slice none 0 0), (5, v), (6, .int .i64 (k : Int))]) [] ∧ St [] w0 ww [en] [] ∧ (k ≤ l.length) ∧ (Own 40 4 el v o en) ∧ (o = colL (l.take k) c.toNat)) l.length ?_ ?_
 ·exact ⟨_, 0, (.slice none 0 0), none, [], rfl, act_upds ⟨rfl, (congrArg (Value.int .i64) (by first | rfl | omega)), rfl, rfl, (congrArg (Value.int .i64) (by first | rfl | omega)), trivial⟩, (St.pick (L := [none]) hS1 [0] (by decide)), (Nat.zero_le _), (Own.nil _ _ _), rfl⟩
 rintro n5 a6 W3 ⟨m2, k, v, en, o, rfl, rfl, hS4, hk, hO, ho⟩
 have hol : o.length = k := by rw [ho, colL_len, List.length_take]; omega
 refine C_seq ?_
 refine C_sr ?_
 refine sqv (ex_move (v := .int .i64 (k : Int)) rfl) ?_
 refine sqv (ex_move (v := s) rfl) ?_
 refine sqv (ex_lenO (f := cS) (k := 5) (r := (l.length : Int)) (fun _ => rfl) (by decide) ((hs_s).1) rfl sl22 rfl) ?_
 refine sqv (ex_cmp (x := (k : Int)) (y := (l.length : Int)) (r := decide ((k : Int) < (l.length : Int))) rfl rfl rfl) ?_
 show C _ _ _ _ _ _
 refine C_dec ((k : Int) < (l.length : Int)) rfl (fun hc7 => ?_) (fun hc7 => ?_)
 ·refine C_skip ?_
  show C _ _ _ _ _ _
  refine C_seq ?_
  refine C_block ?_
  refine C_sr ?_
  refine sqv (ex_build (vs := []) (cells := #[.int .u64 0, .int .u64 0, .int .u64 0, .int .u64 0]) rfl (by kernel_rfl)) ?_
  refine sqE (st_alloc hS4 ze40) fun b8 W9 hS10 => ?_
  refine sqUE (st_stores (v := .agg #[.int .u64 0, .int .u64 0, .int .u64 0, .int .u64 0]) (cs' := #[.int .u64 0, .int .u64 0, .int .u64 0, .int .u64 0]) 0 hS10 rfl rfl rfl ag40 rfl (Nat.le_of_ble_eq_true rfl) (ones_of rfl) rfl) fun W11 hS12 => ?_
  show C _ _ _ _ _ _
  refine C_seq ?_
  refine C_sr ?_
  refine sqv (ex_move (v := .int .i64 c) rfl) ?_
  refine nm (decide (0 ≤ c)) fun t13 ht13 => ?_
  refine sqv (ex_cmp (x := c) (y := 0) rfl rfl ht13) ?_
  refine sqv (ex_move (v := .bool t13) rfl) ?_
  rcases bool_cases t13 with hb14 | hb14
  ·subst hb14
   have hb14 := of_decide_eq_true ht13.symm
   refine guard_yes (b := true) rfl rfl ?_
   refine sqv (ex_move (v := .int .i64 c) rfl) ?_
   refine guard_yes (b := true) rfl rfl ?_
   refine sqv (ex_move (v := s) rfl) ?_
   refine guard_yes (b := true) rfl rfl ?_
   refine sqv (ex_move (v := .int .i64 (k : Int)) rfl) ?_
   refine guard_yes (b := true) rfl rfl ?_
   obtain ⟨y15, hy16⟩ := get_lt l k (by first | omega | (simp only [List.length_set, List.length_replicate, List.length_append, List.length_take, List.length_drop, List.length_cons, List.length_nil, List.length_map]; omega))
   have hky15 := g2 y15 (List.mem_of_getElem? hy16)
   have hqy15 := hpl y15 (List.mem_of_getElem? hy16)
   obtain ⟨b17, o18, hI19, hC20⟩ := sl_at (f := cS) (k := 5) (fun _ => rfl) (by decide) ((hs_s).1) hy16
   refine sqv (ex_sindexO hI19 rfl rfl sl22 rfl) ?_
   refine guard_yes (b := true) rfl rfl ?_
   refine sqv (ex_field (o' := (o18 + 4)) rfl fi46_4 rfl) ?_
   refine guard_yes (b := true) rfl rfl ?_
   refine sqv (ex_loadC (r := 4) (u := y15.v) hC20 (hS12.holds0 hZ0) rfl on44 rfl rfl) ?_
   refine guard_yes (b := true) rfl rfl ?_
   refine sqv (ex_lenO (f := el) (k := 4) (r := (y15.p.length : Int)) (fun _ => rfl) (by decide) ((hs_s).2 y15 (List.mem_of_getElem? hy16)) rfl sl44 rfl) ?_
   refine guard_yes (b := true) rfl rfl ?_
   refine nm (decide (c < (y15.p.length : Int))) fun t21 ht21 => ?_
   refine sqv (ex_cmp (x := c) (y := (y15.p.length : Int)) rfl rfl ht21) ?_
   refine sqv (ex_pick (t := true) (v := .bool t21) rfl rfl) ?_
   show C _ _ _ _ _ _
   refine C_if (t := t21) rfl (fun hc22 => ?_) (fun hc22 => ?_)
   ·have hc22' := of_decide_eq_true (ht21.symm.trans hc22)
    refine C_region ?_
    refine sqv (ex_move (v := s) rfl) ?_
    refine sqv (ex_move (v := .int .i64 (k : Int)) rfl) ?_
    obtain ⟨b23, o24, hI25, hC26⟩ := sl_at (f := cS) (k := 5) (fun _ => rfl) (by decide) ((hs_s).1) hy16
    refine sqv (ex_sindexO hI25 rfl rfl sl22 rfl) ?_
    refine sqv (ex_field (o' := (o24 + 4)) rfl fi46_4 rfl) ?_
    refine sqv (ex_loadC (r := 4) (u := y15.v) hC26 (hS12.holds0 hZ0) rfl on44 rfl rfl) ?_
    refine sqv (ex_move (v := .int .i64 c) rfl) ?_
    obtain ⟨j27, hj28⟩ := ex_nat c (by omega)
    obtain ⟨y29, hy30⟩ := get_lt y15.p j27 (by first | omega | (simp only [List.length_set, List.length_replicate, List.length_append, List.length_take, List.length_drop, List.length_cons, List.length_nil, List.length_map]; omega))
    obtain ⟨b31, o32, hI33, hC34⟩ := sl_at (f := el) (k := 4) (fun _ => rfl) (by decide) ((hs_s).2 y15 (List.mem_of_getElem? hy16)) hy30
    refine sqv (ex_sindexO hI33 rfl rfl sl44 (by omega)) ?_
    refine sqv (ex_loadsC (r := 0) (vs := (el y29)) hC34 (hS12.holds0 hZ0) rfl ag49 rfl rfl rfl) ?_
    refine sqUE (st_stores (v := elV y29) (cs' := (elA y29)) 0 hS12 rfl rfl rfl ag40 rfl (Nat.le_of_ble_eq_true rfl) (ones_of rfl) rfl) fun W35 hS36 => ?_
    show C _ _ _ _ _ _
    refine C_region ?_
    refine sqv (ex_move (v := v) rfl) ?_
    refine sqv (ex_loads (vs := (el y29)) rfl (hS36.at 0 rfl) ag40 rfl rfl) ?_
    refine sqE (st_bslice (vs := [elV y29]) hS36 sl70 ze40 rfl (by simp [Value.cells, elV, el]) rfl (by decide)) fun b37 W38 hS39 => ?_
    refine sqA (st_appendM (f := el) (k := 4) (xs := o) (ys := [y29]) (fun _ => rfl) (fun _ => ones_of rfl) (by decide) 2 hS39 (hO) ((sl_row (f := el) (k := 4) (t := 40) (b := b37) (n := 1) (cs := (elA y29)) (ys := [y29]) (fun _ => rfl) rfl (Nat.le_of_ble_eq_true rfl) rfl)) (hS39.entH 0 rfl) rfl rfl rfl sl70 ze40 rfl (by simp only [List.length_append, List.length_cons, List.length_nil, maxLen]; omega) (by simp only [List.length_append, List.length_cons, List.length_nil, maxLen]; omega)) fun u40 en41 W42 ⟨hS43, ho44⟩ => ?_
    refine sqv (ex_assign (v := u40) rfl) ?_
    refine blk_normal ?_
    show C _ _ _ _ _ _
    refine C_region ?_
    refine sqv (ex_move (v := .int .i64 (k : Int)) rfl) ?_
    refine nm ((k : Int) + 1) fun x45 hx45 => ?_
    refine sqv (ex_add (x := (k : Int)) (y := 1) rfl rfl (w64 hx45 (by omega))) ?_
    refine sqv (ex_assign (v := .int .i64 x45) rfl) ?_
    exact ⟨_, (by omega), ⟨_, (k + 1), u40, en41, (o ++ ([y29])), rfl, act_upds ⟨rfl, (congrArg (Value.int .i64) (by first | rfl | omega)), rfl, rfl, (congrArg (Value.int .i64) (by first | rfl | omega)), trivial⟩, (St.pick (L := [some (b37, .cells (elA y29) 40), some (b8, .cells (elA y29) 40), en41]) hS43 [2] (by decide)), (by omega), ho44, (by rw [take_snoc hy16, colL, List.map_append, List.map_cons, List.map_nil, show c.toNat = j27 from by omega, getD_some hy30, ho, show c.toNat = j27 from by omega]; rfl)⟩⟩
   have hc22' := of_decide_eq_false (ht21.symm.trans hc22)
   exfalso; omega
  subst hb14
  have hb14 := of_decide_eq_false ht13.symm
  exact absurd hb14 (by omega)
 refine C_exit ?_
 refine thn_exit ?_
 refine thn_exit ?_
 refine blk_exit ?_
 show C _ _ _ _ _ _
 refine C_sr ?_
 refine sqv (ex_move (v := v) rfl) ?_
 refine sqv (ex_assign (v := v) rfl) ?_
 show C _ _ _ _ _ _
 refine C_ret ?_
 refine done_1 (v := v) rfl rfl ?_
 obtain rfl : k = l.length := by omega
 have ho' : o = colL l c.toNat := by rw [ho, List.take_length]
 exact ⟨_, _, rfl, by rw [← ho']; exact hO, (St.pick (L := [en]) hS4 [0] (by decide))⟩
end Go.Proofs
end
section
set_option linter.unusedVariables false
set_option linter.unusedSimpArgs false
set_option maxRecDepth 20000
set_option maxHeartbeats 2000000
namespace Go.Proofs
open Sc
theorem en134 : enters Tryz.prog 134 = true := by kernel_rfl
theorem en27 : enters Tryz.prog 27 = true := by kernel_rfl
theorem en54 : enters Tryz.prog 54 = true := by kernel_rfl
theorem en55 : enters Tryz.prog 55 = true := by kernel_rfl
theorem en88 : enters Tryz.prog 88 = true := by kernel_rfl
theorem en89 : enters Tryz.prog 89 = true := by kernel_rfl
theorem en97 : enters Tryz.prog 97 = true := by kernel_rfl
theorem pts_acc {F : PrF} {l : List Sh} {s0 : Sh} (h : Acc F l s0) : Sm.Pts (idxL l) := by
 obtain ⟨z, _, _, h2, _⟩ := ckShs_iff.1 h.ck
 exact ⟨chk_0 h.chk, h2⟩
theorem fit_acc {F : PrF} {l : List Sh} {s0 : Sh} (h : Acc F l s0) {c : Nat} (hc : c < s0.p.length) : rFit F.p (idxL l) (valL F.p (colL l c)) (min s0.t.toNat (idxL l).length) = fitB F (idxL l) (colL l c) s0.t := by
 haveI := Sm.neF h.ok
 have h1 := h.t1
 exact Sm.fit_eq h.ok (pts_acc h) (col_lt h hc) (by rw [idxL_len, colL_len]) (by omega) (by rw [idxL_len]; exact h1.2.2)
theorem f_p256 {F : PrF} (h : FOk F) : 255 < F.p := Sm.f_p255 h
theorem f_odd' {F : PrF} (h : FOk F) : F.p % 2 = 1 := Sm.f_odd h
theorem c_rChunks (F : PrF) (s0 : Sh) (s : Value) (l : List Sh) (Z0 : List Fact) (w0 : World) (g0 : Acc F l s0) (g1 : ∀ s ∈ l, ∀ y ∈ s.p, y < B256) (g2 : l.length < 900) (g3 : s0.p.length < 1000000) (hZ0 : Holds w0 Z0) (hs_s : Shs Z0 46 49 s l) : Calls Tryz.prog 97 #[s] w0 (Ret fun uu w' => ∃ (v : Value), ∃ (en : Ent), uu = v ∧ (Own 4 1 cT v (chuL F l s0.t s0.p.length) en) ∧ St [] w0 w' [en] []) := by
 have hF := g0.ok
 have hlen := sl_lt (f := cS) (k := 5) (fun _ => rfl) (by decide) hs_s.1
 have hl0 : 0 < l.length := (List.getElem?_eq_some_iff.1 g0.h0).1
 have hs0 := (List.getElem?_eq_some_iff.1 g0.h0).2
 have h0m : s0 ∈ l := List.mem_of_getElem? g0.h0
 have h0f := (g0.hd s0 h0m).1
 have hpl0 := sl_lt (f := el) (k := 4) (fun _ => rfl) (by decide) (hs_s.2 s0 h0m)
 have hxp := chk_0 g0.chk
 have hp2 := f_p256 hF
 have hpb := f_lt hF
 have hcl := colL_len l
 have hil := idxL_len l
 refine calls_of Tryz.func97 rfl Tryz.ntmps97 (Nat.le_of_ble_eq_true rfl) ?_
 have hS0 := St.nil w0
 refine C_sr ?_
 refine sqv (ex_assign (v := .slice none 0 0) rfl) ?_
 show C _ _ _ _ _ _
 refine C_sr ?_
 refine sqv (ex_move (v := s) rfl) ?_
 obtain ⟨b1, o2, hI3, hC4⟩ := sl_at (f := cS) (k := 5) (fun _ => rfl) (by decide) ((hs_s).1) g0.h0
 refine sqv (ex_sindexO hI3 rfl rfl sl22 (by omega)) ?_
 refine sqv (ex_field (o' := o2) rfl fi46_0 rfl) ?_
 refine sqv (ex_loadC (r := 0) (u := .int .i64 s0.f) hC4 (hS0.holds0 hZ0) rfl on3 rfl rfl) ?_
 refine sqc (exe_call (args := #[.int .i64 s0.f]) en20 (args_of1 rfl)) (c_Modulus F s0.f w0 hF h0f) ?_
 rintro _ W5 ⟨rfl, hT7⟩
 have hS6 := hS0.call hT7
 refine sqE (st_alloc hS6 ze40) fun b9 W10 hS11 => ?_
 refine sqUE (st_stores (v := elV F.p) (cs' := (elA (F.p))) 0 hS11 rfl rfl rfl ag40 rfl (Nat.le_of_ble_eq_true rfl) (ones_of rfl) rfl) fun W12 hS13 => ?_
 show C _ _ _ _ _ _
 refine C_sr ?_
 refine sqv (ex_assign (v := .slice none 0 0) rfl) ?_
 show C _ _ _ _ _ _
 refine C_seq ?_
 refine C_sr ?_
 refine sqv (ex_assign (v := .int .i64 0) rfl) ?_
 show C _ _ _ _ _ _
 refine C_block ?_
 have hS14 := St.non hS13
 refine C_loop (fun nn aa ww => ∃ (m0 : Nat → Value) (i : Nat) (v1 : Value) (en1 : Ent) (o1 : List Int), nn = l.length - i ∧ aa = act 69 (upds m0 [(0, s), (2, .slice none 0 0), (3, pt b9), (4, v1), (5, .int .i64 (i : Int))]) [] ∧ St [] w0 ww [en1, some (b9, .cells (elA (F.p)) 40)] [] ∧ (i ≤ l.length) ∧ (Own 3 1 cI v1 o1 en1) ∧ (o1 = idxL (l.take i))) l.length ?_ ?_
 ·exact ⟨_, 0, (.slice none 0 0), none, [], rfl, act_upds ⟨rfl, rfl, rfl, rfl, (congrArg (Value.int .i64) (by first | rfl | omega)), trivial⟩, (St.pick (L := [none, some (b9, .cells (elA (F.p)) 40)]) hS14 [0, 1] (by decide)), (Nat.zero_le _), (Own.nil _ _ _), rfl⟩
 rintro n18 a19 W16 ⟨m15, i, v1, en1, o1, rfl, rfl, hS17, hi, hO1, ho1⟩
 have hol1 : o1.length = i := by rw [ho1, idxL_len, List.length_take]; omega
 refine C_seq ?_
 refine C_sr ?_
 refine sqv (ex_move (v := .int .i64 (i : Int)) rfl) ?_
 refine sqv (ex_move (v := s) rfl) ?_
 refine sqv (ex_lenO (f := cS) (k := 5) (r := (l.length : Int)) (fun _ => rfl) (by decide) ((hs_s).1) rfl sl22 rfl) ?_
 refine sqv (ex_cmp (x := (i : Int)) (y := (l.length : Int)) (r := decide ((i : Int) < (l.length : Int))) rfl rfl rfl) ?_
 show C _ _ _ _ _ _
 refine C_dec ((i : Int) < (l.length : Int)) rfl (fun hc20 => ?_) (fun hc20 => ?_)
 ·refine C_skip ?_
  show C _ _ _ _ _ _
  refine C_seq ?_
  refine C_block ?_
  refine C_region ?_
  refine sqv (ex_move (v := v1) rfl) ?_
  refine sqv (ex_move (v := s) rfl) ?_
  refine sqv (ex_move (v := .int .i64 (i : Int)) rfl) ?_
  obtain ⟨y21, hy22⟩ := get_lt l i (by first | omega | (simp only [List.length_set, List.length_replicate, List.length_append, List.length_take, List.length_drop, List.length_cons, List.length_nil, List.length_map]; omega))
  obtain ⟨b23, o24, hI25, hC26⟩ := sl_at (f := cS) (k := 5) (fun _ => rfl) (by decide) ((hs_s).1) hy22
  refine sqv (ex_sindexO hI25 rfl rfl sl22 rfl) ?_
  refine sqv (ex_field (o' := (o24 + 2)) rfl fi46_2 rfl) ?_
  refine sqv (ex_loadC (r := 2) (u := .int .i64 y21.i) hC26 (hS17.holds0 hZ0) rfl on3 rfl rfl) ?_
  refine sqE (st_bslice (vs := [.int .i64 y21.i]) hS17 sl25 ze3 rfl (by simp [Value.cells]) rfl (by decide)) fun b27 W28 hS29 => ?_
  refine sqA (st_appendM (f := cI) (k := 1) (xs := o1) (ys := [y21.i]) (fun _ => rfl) (fun _ => ones_of rfl) (by decide) 1 hS29 (hO1) ((sl_row (f := cI) (k := 1) (t := 3) (b := b27) (n := 1) (cs := #[.int .i64 y21.i]) (ys := [y21.i]) (fun _ => rfl) rfl (Nat.le_of_ble_eq_true rfl) rfl)) (hS29.entH 0 rfl) rfl rfl rfl sl25 ze3 rfl (by simp only [List.length_append, List.length_cons, List.length_nil, maxLen]; omega) (by simp only [List.length_append, List.length_cons, List.length_nil, maxLen]; omega)) fun u30 en31 W32 ⟨hS33, ho34⟩ => ?_
  refine sqv (ex_assign (v := u30) rfl) ?_
  refine blk_normal ?_
  show C _ _ _ _ _ _
  refine C_region ?_
  refine sqv (ex_move (v := .int .i64 (i : Int)) rfl) ?_
  refine nm ((i : Int) + 1) fun x35 hx35 => ?_
  refine sqv (ex_add (x := (i : Int)) (y := 1) rfl rfl (w64 hx35 (by omega))) ?_
  refine sqv (ex_assign (v := .int .i64 x35) rfl) ?_
  exact ⟨_, (by omega), ⟨_, (i + 1), u30, en31, (o1 ++ ([y21.i])), rfl, act_upds ⟨rfl, rfl, rfl, rfl, (congrArg (Value.int .i64) (by first | rfl | omega)), trivial⟩, (St.pick (L := [some (b27, .cells #[.int .i64 y21.i] 3), en31, some (b9, .cells (elA (F.p)) 40)]) hS33 [1, 2] (by decide)), (by omega), ho34, (by rw [take_snoc hy22, idxL, List.map_append, ho1]; rfl)⟩⟩
 refine C_exit ?_
 refine thn_exit ?_
 refine thn_exit ?_
 refine blk_exit ?_
 show C _ _ _ _ _ _
 refine C_sr ?_
 obtain rfl : i = l.length := by omega
 rw [List.take_length] at ho1
 subst ho1
 refine sqv (ex_assign (v := .slice none 0 0) rfl) ?_
 show C _ _ _ _ _ _
 refine C_seq ?_
 refine C_sr ?_
 refine sqv (ex_assign (v := .int .i64 0) rfl) ?_
 show C _ _ _ _ _ _
 refine C_block ?_
 have hS36 := St.non hS17
 refine C_loop (fun nn aa ww => ∃ (m0 : Nat → Value) (k : Nat) (v2 : Value) (en2 : Ent) (o2 : List Bool), nn = s0.p.length - k ∧ aa = act 69 (upds m0 [(0, s), (2, .slice none 0 0), (3, pt b9), (4, v1), (6, v2), (7, .int .i64 (k : Int))]) [] ∧ St [] w0 ww [en2, en1, some (b9, .cells (elA (F.p)) 40)] [] ∧ (k ≤ s0.p.length) ∧ (Own 4 1 cT v2 o2 en2) ∧ (o2 = chuL F l s0.t k)) s0.p.length ?_ ?_
 ·exact ⟨_, 0, (.slice none 0 0), none, [], rfl, act_upds ⟨rfl, rfl, rfl, rfl, rfl, (congrArg (Value.int .i64) (by first | rfl | omega)), trivial⟩, (St.pick (L := [none, en1, some (b9, .cells (elA (F.p)) 40)]) hS36 [0, 1, 2] (by decide)), (Nat.zero_le _), (Own.nil _ _ _), rfl⟩
 rintro n40 a41 W38 ⟨m37, k, v2, en2, o2, rfl, rfl, hS39, hk, hO2, ho2⟩
 have hol2 : o2.length = k := by rw [ho2, chuL_len]
 have hclk := colL_len l ((k : Int)).toNat
 refine C_seq ?_
 refine C_sr ?_
 refine sqv (ex_move (v := .int .i64 (k : Int)) rfl) ?_
 refine sqv (ex_move (v := s) rfl) ?_
 obtain ⟨b42, o43, hI44, hC45⟩ := sl_at (f := cS) (k := 5) (fun _ => rfl) (by decide) ((hs_s).1) g0.h0
 refine sqv (ex_sindexO hI44 rfl rfl sl22 (by omega)) ?_
 refine sqv (ex_field (o' := (o43 + 4)) rfl fi46_4 rfl) ?_
 refine sqv (ex_loadC (r := 4) (u := s0.v) hC45 (hS39.holds0 hZ0) rfl on44 rfl rfl) ?_
 refine sqv (ex_lenO (f := el) (k := 4) (r := (s0.p.length : Int)) (fun _ => rfl) (by decide) ((hs_s).2 s0 (List.mem_of_getElem? g0.h0)) rfl sl44 rfl) ?_
 refine sqv (ex_cmp (x := (k : Int)) (y := (s0.p.length : Int)) (r := decide ((k : Int) < (s0.p.length : Int))) rfl rfl rfl) ?_
 show C _ _ _ _ _ _
 refine C_dec ((k : Int) < (s0.p.length : Int)) rfl (fun hc46 => ?_) (fun hc46 => ?_)
 ·refine C_skip ?_
  show C _ _ _ _ _ _
  refine C_seq ?_
  refine C_block ?_
  refine C_sr ?_
  refine sqv (ex_move (v := s) rfl) ?_
  refine sqv (ex_move (v := .int .i64 (k : Int)) rfl) ?_
  refine sqc (exe_call (args := #[s, .int .i64 (k : Int)]) en88 (args_of2 rfl rfl)) (c_rColumn (k : Int) s l Z0 W38 (by omega) (by omega) (fun s hs => by have := (g0.hd s hs).2.2.2; omega) (hS39.holds0 hZ0) (hs_s)) ?_
  rintro v51 W47 ⟨_, en52, rfl, hp53, hT49⟩
  have hS48 := hS39.call hT49
  refine sqv (ex_assign (v := v51) rfl) ?_
  show C _ _ _ _ _ _
  refine C_sr ?_
  refine sqv (ex_assign (v := .slice none 0 0) rfl) ?_
  show C _ _ _ _ _ _
  refine C_seq ?_
  refine C_sr ?_
  refine sqv (ex_assign (v := .int .i64 0) rfl) ?_
  show C _ _ _ _ _ _
  refine C_block ?_
  have hS54 := St.non hS48
  refine C_loop (fun nn aa ww => ∃ (m0 : Nat → Value) (j : Nat) (v3 : Value) (en3 : Ent) (o3 : List Nat), nn = l.length - j ∧ aa = act 69 (upds m0 [(0, s), (2, .slice none 0 0), (3, pt b9), (4, v1), (6, v2), (7, .int .i64 (k : Int)), (8, v51), (9, v3), (10, .int .i64 (j : Int))]) [] ∧ St [] w0 ww [en3, en52, en2, en1, some (b9, .cells (elA (F.p)) 40)] [] ∧ (j ≤ l.length) ∧ (Own 40 4 el v3 o3 en3) ∧ (o3 = valL F.p ((colL l ((k : Int)).toNat).take j))) l.length ?_ ?_
  ·exact ⟨_, 0, (.slice none 0 0), none, [], rfl, act_upds ⟨rfl, rfl, rfl, rfl, rfl, (congrArg (Value.int .i64) (by first | rfl | omega)), rfl, rfl, (congrArg (Value.int .i64) (by first | rfl | omega)), trivial⟩, (St.pick (L := [none, en52, en2, en1, some (b9, .cells (elA (F.p)) 40)]) hS54 [0, 1, 2, 3, 4] (by decide)), (Nat.zero_le _), (Own.nil _ _ _), rfl⟩
  rintro n58 a59 W56 ⟨m55, j, v3, en3, o3, rfl, rfl, hS57, hj, hO3, ho3⟩
  have hol3 : o3.length = j := by rw [ho3, valL_len, List.length_take]; simp only [colL_len]; omega
  refine C_seq ?_
  refine C_sr ?_
  refine sqv (ex_move (v := .int .i64 (j : Int)) rfl) ?_
  refine sqv (ex_move (v := v51) rfl) ?_
  refine sqv (ex_lenW (r := ((colL l ((k : Int)).toNat).length : Int)) hp53 rfl sl70 rfl) ?_
  refine sqv (ex_cmp (x := (j : Int)) (y := ((colL l ((k : Int)).toNat).length : Int)) (r := decide ((j : Int) < ((colL l ((k : Int)).toNat).length : Int))) rfl rfl rfl) ?_
  show C _ _ _ _ _ _
  refine C_dec ((j : Int) < ((colL l ((k : Int)).toNat).length : Int)) rfl (fun hc60 => ?_) (fun hc60 => ?_)
  ·refine C_skip ?_
   show C _ _ _ _ _ _
   refine C_seq ?_
   refine C_block ?_
   obtain ⟨y61, hy62⟩ := get_lt (colL l ((k : Int)).toNat) j (by first | omega | (simp only [List.length_set, List.length_replicate, List.length_append, List.length_take, List.length_drop, List.length_cons, List.length_nil, List.length_map]; omega))
   have hky61 := col_lt g0 (show k < s0.p.length by omega) y61 (List.mem_of_getElem? hy62)
   obtain ⟨b63, o64, hI65, hC66⟩ := sl_at (f := el) (k := 4) (fun _ => rfl) (by decide) ((hp53).slF) hy62
   refine C_draw (p := 9) (l := [(some 48, v3), (some 49, elV F.p), (some 50, v51), (some 51, .int .i64 (j : Int)), (some 52, .pointer (some ⟨b63, o64, none⟩)), (some 53, elV y61), (some 54, elV (rVal F.p y61)), (some 55, undef), (some 56, undef)]) (G := [7, 8]) (J := fun w => St [] w0 w [en3, en52, en2, en1, some (b9, .cells (elA (F.p)) 40)] []) mixed ?_ (hS57.draw _)
   refine node1 9 [7, 8] [] [8] (by kernel_rfl) rfl rfl (nd rfl) rfl (by kernel_rfl) ?_ ?_ ?_
   ·intro S wd hSd
    refine ⟨n0 rfl rfl rfl (ex_move (v := v3) rfl) rfl hSd, n0 rfl rfl rfl (ex_loads (vs := (el (F.p))) rfl (hSd.at 4 rfl) ag40 rfl rfl) rfl hSd, n0 rfl rfl rfl (ex_move (v := v51) rfl) rfl hSd, n0 rfl rfl rfl (ex_move (v := .int .i64 (j : Int)) rfl) rfl hSd, n2 rfl rfl rfl rfl (fun hq2 hq3 => (ex_sindexO hI65 (evS hq2 rfl rfl) (evS hq3 rfl rfl) sl70 rfl)) rfl hSd, n1 rfl rfl rfl rfl (fun hq4 => (ex_loadsC (r := 0) (vs := (el y61)) hC66 (hSd.entH 1 rfl) (evS hq4 rfl rfl) ag40 rfl rfl rfl)) rfl hSd, ?_, sG rfl, sG rfl, tt⟩
    refine needG rfl ?_
    rintro ⟨hq1, hq5, _⟩ hno
    refine dxC (wanted_none rfl) rfl (exe_call (args := #[elV F.p, elV y61]) en89 (args_of2 (evS hq1 rfl rfl) (evS hq5 rfl rfl))) (c_rVal F.p y61 wd (by assumption) (by assumption) (f_odd' hF)) ?_
    rintro _ W67 ⟨rfl, hT69⟩
    have hS68 := hSd.call hT69
    exact ⟨rfl, hS68⟩
   ·intro S wd hSd
    refine ⟨tt, tt, tt, tt, tt, tt, tt, ?_, tt, tt⟩
    refine needH rfl ?_
    rintro ⟨hq6, _⟩ hno
    refine dxE (wanted_none rfl) rfl (st_bslice (vs := [elV (rVal F.p y61)]) hSd sl70 ze40 (parts1 (evS hq6 rfl rfl)) (by simp [Value.cells, elV, el]) rfl (by decide)) fun b71 W72 hS73 => ?_
    refine ⟨fun w => St [] w0 w [some (b71, .cells (elA (rVal F.p y61)) 40), en3, en52, en2, en1, some (b9, .cells (elA (F.p)) 40)] [], [(some 48, v3), (some 49, elV F.p), (some 50, v51), (some 51, .int .i64 (j : Int)), (some 52, .pointer (some ⟨b63, o64, none⟩)), (some 53, elV y61), (some 54, elV (rVal F.p y61)), (some 55, .slice (so b71) 1 1), (some 56, undef)], [8], hS73, by kernel_rfl, ⟨rfl, rfl, rfl, rfl, rfl, rfl, rfl, rfl, rfl, rfl, rfl, rfl, rfl, rfl, rfl, True.intro, rfl, True.intro, True.intro⟩, rfl, ?_⟩
    show Sc.Node _ _ _ _ _ _ _ 9 [(some 48, v3), (some 49, elV F.p), (some 50, v51), (some 51, .int .i64 (j : Int)), (some 52, .pointer (some ⟨b63, o64, none⟩)), (some 53, elV y61), (some 54, elV (rVal F.p y61)), (some 55, .slice (so b71) 1 1), (some 56, undef)] [8] [7] _
    refine node1 9 [8] [7] [] (by kernel_rfl) rfl rfl (nd rfl) rfl (by kernel_rfl) ?_ ?_ ?_
    ·intro S wd hSd
     refine ⟨n0 rfl rfl rfl (ex_move (v := v3) rfl) rfl hSd, n0 rfl rfl rfl (ex_loads (vs := (el (F.p))) rfl (hSd.at 5 rfl) ag40 rfl rfl) rfl hSd, n0 rfl rfl rfl (ex_move (v := v51) rfl) rfl hSd, n0 rfl rfl rfl (ex_move (v := .int .i64 (j : Int)) rfl) rfl hSd, n2 rfl rfl rfl rfl (fun hq2 hq3 => (ex_sindexO hI65 (evS hq2 rfl rfl) (evS hq3 rfl rfl) sl70 rfl)) rfl hSd, n1 rfl rfl rfl rfl (fun hq4 => (ex_loadsC (r := 0) (vs := (el y61)) hC66 (hSd.entH 2 rfl) (evS hq4 rfl rfl) ag40 rfl rfl rfl)) rfl hSd, ?_, sG rfl, sG rfl, tt⟩
     refine needG rfl ?_
     rintro ⟨hq1, hq5, _⟩ hno
     refine dxC (wanted_none rfl) rfl (exe_call (args := #[elV F.p, elV y61]) en89 (args_of2 (evS hq1 rfl rfl) (evS hq5 rfl rfl))) (c_rVal F.p y61 wd (by assumption) (by assumption) (f_odd' hF)) ?_
     rintro _ W67 ⟨rfl, hT69⟩
     have hS68 := hSd.call hT69
     exact ⟨rfl, hS68⟩
    ·intro S wd hSd
     refine ⟨tt, tt, tt, tt, tt, tt, tt, tt, ?_, tt⟩
     refine needH rfl ?_
     rintro ⟨hq0, hq7, hq6, _⟩ hno
     refine dxA (wanted_none rfl) rfl (st_appendM (f := el) (k := 4) (xs := o3) (ys := [rVal F.p y61]) (fun _ => rfl) (fun _ => ones_of rfl) (by decide) 1 hSd (hO3) ((sl_row (f := el) (k := 4) (t := 40) (b := b71) (n := 1) (cs := (elA (rVal F.p y61))) (ys := [rVal F.p y61]) (fun _ => rfl) rfl (Nat.le_of_ble_eq_true rfl) rfl)) (hSd.entH 0 rfl) (evS hq0 rfl rfl) (evS hq7 rfl rfl) rfl sl70 ze40 rfl (by simp only [List.length_append, List.length_cons, List.length_nil, maxLen]; omega) (by simp only [List.length_append, List.length_cons, List.length_nil, maxLen]; omega)) fun u74 en75 W76 ⟨hS77, ho78⟩ => ?_
     refine ⟨fun w => St [] w0 w [some (b71, .cells (elA (rVal F.p y61)) 40), en75, en52, en2, en1, some (b9, .cells (elA (F.p)) 40)] [], [(some 48, v3), (some 49, elV F.p), (some 50, v51), (some 51, .int .i64 (j : Int)), (some 52, .pointer (some ⟨b63, o64, none⟩)), (some 53, elV y61), (some 54, elV (rVal F.p y61)), (some 55, .slice (so b71) 1 1), (some 56, u74)], [], hS77, by kernel_rfl, ⟨rfl, rfl, rfl, rfl, rfl, rfl, rfl, rfl, rfl, rfl, rfl, rfl, rfl, rfl, rfl, rfl, rfl, True.intro, True.intro⟩, rfl, ?_⟩
     show Sc.Node _ _ _ _ _ _ _ 9 [(some 48, v3), (some 49, elV F.p), (some 50, v51), (some 51, .int .i64 (j : Int)), (some 52, .pointer (some ⟨b63, o64, none⟩)), (some 53, elV y61), (some 54, elV (rVal F.p y61)), (some 55, .slice (so b71) 1 1), (some 56, u74)] [] [8, 7] _
     refine node1 9 [] [8, 7] [] (by kernel_rfl) rfl rfl (nd rfl) rfl (by kernel_rfl) ?_ ?_ ?_
     ·intro S wd hSd
      refine ⟨n0 rfl rfl rfl (ex_move (v := v3) rfl) rfl hSd, n0 rfl rfl rfl (ex_loads (vs := (el (F.p))) rfl (hSd.at 5 rfl) ag40 rfl rfl) rfl hSd, n0 rfl rfl rfl (ex_move (v := v51) rfl) rfl hSd, n0 rfl rfl rfl (ex_move (v := .int .i64 (j : Int)) rfl) rfl hSd, n2 rfl rfl rfl rfl (fun hq2 hq3 => (ex_sindexO hI65 (evS hq2 rfl rfl) (evS hq3 rfl rfl) sl70 rfl)) rfl hSd, n1 rfl rfl rfl rfl (fun hq4 => (ex_loadsC (r := 0) (vs := (el y61)) hC66 (hSd.entH 2 rfl) (evS hq4 rfl rfl) ag40 rfl rfl rfl)) rfl hSd, ?_, sG rfl, sG rfl, tt⟩
      refine needG rfl ?_
      rintro ⟨hq1, hq5, _⟩ hno
      refine dxC (wanted_none rfl) rfl (exe_call (args := #[elV F.p, elV y61]) en89 (args_of2 (evS hq1 rfl rfl) (evS hq5 rfl rfl))) (c_rVal F.p y61 wd (by assumption) (by assumption) (f_odd' hF)) ?_
      rintro _ W67 ⟨rfl, hT69⟩
      have hS68 := hSd.call hT69
      exact ⟨rfl, hS68⟩
     ·exact fun S wd hSd => ⟨True.intro, True.intro, True.intro, True.intro, True.intro, True.intro, True.intro, True.intro, True.intro, True.intro⟩
     intro _ W79 hS80
     refine sqv (ex_assign (v := u74) rfl) ?_
     refine blk_normal ?_
     show C _ _ _ _ _ _
     refine C_region ?_
     refine sqv (ex_move (v := .int .i64 (j : Int)) rfl) ?_
     refine nm ((j : Int) + 1) fun x81 hx81 => ?_
     refine sqv (ex_add (x := (j : Int)) (y := 1) rfl rfl (w64 hx81 (by omega))) ?_
     refine sqv (ex_assign (v := .int .i64 x81) rfl) ?_
     exact ⟨_, (by omega), ⟨_, (j + 1), u74, en75, (o3 ++ ([rVal F.p y61])), rfl, act_upds ⟨rfl, rfl, rfl, rfl, rfl, (congrArg (Value.int .i64) (by first | rfl | omega)), rfl, rfl, (congrArg (Value.int .i64) (by first | rfl | omega)), trivial⟩, (St.pick (L := [some (b71, .cells (elA (rVal F.p y61)) 40), en75, en52, en2, en1, some (b9, .cells (elA (F.p)) 40)]) hS80 [1, 2, 3, 4, 5] (by decide)), (by omega), ho78, (by rw [valL_snoc _ hy62, ho3])⟩⟩
    exact fun h => absurd h (by decide)
   exact fun h => absurd h (by decide)
  refine C_exit ?_
  refine thn_exit ?_
  refine thn_exit ?_
  refine blk_exit ?_
  show C _ _ _ _ _ _
  rw [List.take_of_length_le (show (colL l ((k : Int)).toNat).length ≤ j by rw [colL_len]; omega)] at ho3
  have ho3' : o3 = valL F.p (colL l k) := ho3
  clear ho3
  subst ho3'
  obtain ⟨b82, o83, hI84, hC85⟩ := sl_at (f := cS) (k := 5) (fun _ => rfl) (by decide) ((hs_s).1) g0.h0
  refine C_draw (p := 11) (l := [(some 57, v2), (some 58, elV F.p), (some 59, v1), (some 60, v3), (some 61, s), (some 62, .pointer (some ⟨b82, o83, none⟩)), (some 63, .pointer (some ⟨b82, o83 + 1, none⟩)), (some 64, .int .i64 s0.t), (some 65, .bool (rFit F.p (idxL l) (valL F.p (colL l k)) (min (s0.t).toNat ((idxL l)).length))), (some 66, undef), (some 67, undef)]) (G := [9, 10]) (J := fun w => St [] w0 w [en3, en52, en2, en1, some (b9, .cells (elA (F.p)) 40)] []) mixed ?_ (hS57.draw _)
  refine node1 11 [9, 10] [] [10] (by kernel_rfl) rfl rfl (nd rfl) rfl (by kernel_rfl) ?_ ?_ ?_
  ·intro S wd hSd
   refine ⟨n0 rfl rfl rfl (ex_move (v := v2) rfl) rfl hSd, n0 rfl rfl rfl (ex_loads (vs := (el (F.p))) rfl (hSd.at 4 rfl) ag40 rfl rfl) rfl hSd, n0 rfl rfl rfl (ex_move (v := v1) rfl) rfl hSd, n0 rfl rfl rfl (ex_move (v := v3) rfl) rfl hSd, n0 rfl rfl rfl (ex_move (v := s) rfl) rfl hSd, n1 rfl rfl rfl rfl (fun hq4 => (ex_sindexO hI84 (evS hq4 rfl rfl) rfl sl22 (by omega))) rfl hSd, n1 rfl rfl rfl rfl (fun hq5 => (ex_field (o' := (o83 + 1)) (evS hq5 rfl rfl) fi46_1 rfl)) rfl hSd, n1 rfl rfl rfl rfl (fun hq6 => (ex_loadC (r := 1) (u := .int .i64 s0.t) hC85 (hSd.holds0 hZ0) (evS hq6 rfl rfl) on3 rfl rfl)) rfl hSd, ?_, sG rfl, sG rfl, tt⟩
   refine needG rfl ?_
   rintro ⟨hq1, hq2, hq3, hq7, _⟩ hno
   refine dxC (wanted_none rfl) rfl (exe_call (args := #[elV F.p, v1, v3, .int .i64 s0.t]) en134 (args_of4 (evS hq1 rfl rfl) (evS hq2 rfl rfl) (evS hq3 rfl rfl) (evS hq7 rfl rfl))) (c_rFits F.p s0.t v1 (idxL l) v3 (valL F.p (colL l k)) ((entF en1) ++ (entF en3)) wd (by assumption) (by assumption) hxp (valL_lt (col_lt g0 (by omega))) (by rw [idxL_len, valL_len, colL_len]) (by rw [idxL_len]; omega) (by have := g0.t1; omega) (Holds.app (hSd.entH 3 rfl) (hSd.entH 0 rfl)) (Sl.mono ((hO1).slF) fun _ hp => (List.mem_append_left _ hp)) (Sl.mono ((hO3).slF) fun _ hp => (List.mem_append_right _ hp))) ?_
   rintro _ W86 ⟨rfl, hT88⟩
   have hS87 := hSd.call hT88
   exact ⟨rfl, hS87⟩
  ·intro S wd hSd
   refine ⟨tt, tt, tt, tt, tt, tt, tt, tt, tt, ?_, tt, tt⟩
   refine needH rfl ?_
   rintro ⟨hq8, _⟩ hno
   refine dxE (wanted_none rfl) rfl (st_bslice (vs := [.bool (rFit F.p (idxL l) (valL F.p (colL l k)) (min (s0.t).toNat ((idxL l)).length))]) hSd sl53 ze4 (parts1 (evS hq8 rfl rfl)) (by simp [Value.cells]) rfl (by decide)) fun b90 W91 hS92 => ?_
   refine ⟨fun w => St [] w0 w [some (b90, .cells #[.bool (rFit F.p (idxL l) (valL F.p (colL l k)) (min (s0.t).toNat ((idxL l)).length))] 4), en3, en52, en2, en1, some (b9, .cells (elA (F.p)) 40)] [], [(some 57, v2), (some 58, elV F.p), (some 59, v1), (some 60, v3), (some 61, s), (some 62, .pointer (some ⟨b82, o83, none⟩)), (some 63, .pointer (some ⟨b82, o83 + 1, none⟩)), (some 64, .int .i64 s0.t), (some 65, .bool (rFit F.p (idxL l) (valL F.p (colL l k)) (min (s0.t).toNat ((idxL l)).length))), (some 66, .slice (so b90) 1 1), (some 67, undef)], [10], hS92, by kernel_rfl, ⟨rfl, rfl, rfl, rfl, rfl, rfl, rfl, rfl, rfl, rfl, rfl, rfl, rfl, rfl, rfl, rfl, rfl, rfl, rfl, True.intro, rfl, True.intro, True.intro⟩, rfl, ?_⟩
   show Sc.Node _ _ _ _ _ _ _ 11 [(some 57, v2), (some 58, elV F.p), (some 59, v1), (some 60, v3), (some 61, s), (some 62, .pointer (some ⟨b82, o83, none⟩)), (some 63, .pointer (some ⟨b82, o83 + 1, none⟩)), (some 64, .int .i64 s0.t), (some 65, .bool (rFit F.p (idxL l) (valL F.p (colL l k)) (min (s0.t).toNat ((idxL l)).length))), (some 66, .slice (so b90) 1 1), (some 67, undef)] [10] [9] _
   refine node1 11 [10] [9] [] (by kernel_rfl) rfl rfl (nd rfl) rfl (by kernel_rfl) ?_ ?_ ?_
   ·intro S wd hSd
    refine ⟨n0 rfl rfl rfl (ex_move (v := v2) rfl) rfl hSd, n0 rfl rfl rfl (ex_loads (vs := (el (F.p))) rfl (hSd.at 5 rfl) ag40 rfl rfl) rfl hSd, n0 rfl rfl rfl (ex_move (v := v1) rfl) rfl hSd, n0 rfl rfl rfl (ex_move (v := v3) rfl) rfl hSd, n0 rfl rfl rfl (ex_move (v := s) rfl) rfl hSd, n1 rfl rfl rfl rfl (fun hq4 => (ex_sindexO hI84 (evS hq4 rfl rfl) rfl sl22 (by omega))) rfl hSd, n1 rfl rfl rfl rfl (fun hq5 => (ex_field (o' := (o83 + 1)) (evS hq5 rfl rfl) fi46_1 rfl)) rfl hSd, n1 rfl rfl rfl rfl (fun hq6 => (ex_loadC (r := 1) (u := .int .i64 s0.t) hC85 (hSd.holds0 hZ0) (evS hq6 rfl rfl) on3 rfl rfl)) rfl hSd, ?_, sG rfl, sG rfl, tt⟩
    refine needG rfl ?_
    rintro ⟨hq1, hq2, hq3, hq7, _⟩ hno
    refine dxC (wanted_none rfl) rfl (exe_call (args := #[elV F.p, v1, v3, .int .i64 s0.t]) en134 (args_of4 (evS hq1 rfl rfl) (evS hq2 rfl rfl) (evS hq3 rfl rfl) (evS hq7 rfl rfl))) (c_rFits F.p s0.t v1 (idxL l) v3 (valL F.p (colL l k)) ((entF en1) ++ (entF en3)) wd (by assumption) (by assumption) hxp (valL_lt (col_lt g0 (by omega))) (by rw [idxL_len, valL_len, colL_len]) (by rw [idxL_len]; omega) (by have := g0.t1; omega) (Holds.app (hSd.entH 4 rfl) (hSd.entH 1 rfl)) (Sl.mono ((hO1).slF) fun _ hp => (List.mem_append_left _ hp)) (Sl.mono ((hO3).slF) fun _ hp => (List.mem_append_right _ hp))) ?_
    rintro _ W86 ⟨rfl, hT88⟩
    have hS87 := hSd.call hT88
    exact ⟨rfl, hS87⟩
   ·intro S wd hSd
    refine ⟨tt, tt, tt, tt, tt, tt, tt, tt, tt, tt, ?_, tt⟩
    refine needH rfl ?_
    rintro ⟨hq0, hq9, hq8, _⟩ hno
    refine dxA (wanted_none rfl) rfl (st_appendM (f := cT) (k := 1) (xs := o2) (ys := [rFit F.p (idxL l) (valL F.p (colL l k)) (min (s0.t).toNat ((idxL l)).length)]) (fun _ => rfl) (fun _ => ones_of rfl) (by decide) 3 hSd (hO2) ((sl_row (f := cT) (k := 1) (t := 4) (b := b90) (n := 1) (cs := #[.bool (rFit F.p (idxL l) (valL F.p (colL l k)) (min (s0.t).toNat ((idxL l)).length))]) (ys := [rFit F.p (idxL l) (valL F.p (colL l k)) (min (s0.t).toNat ((idxL l)).length)]) (fun _ => rfl) rfl (Nat.le_of_ble_eq_true rfl) rfl)) (hSd.entH 0 rfl) (evS hq0 rfl rfl) (evS hq9 rfl rfl) rfl sl53 ze4 rfl (by simp only [List.length_append, List.length_cons, List.length_nil, maxLen]; omega) (by simp only [List.length_append, List.length_cons, List.length_nil, maxLen]; omega)) fun u93 en94 W95 ⟨hS96, ho97⟩ => ?_
    refine ⟨fun w => St [] w0 w [some (b90, .cells #[.bool (rFit F.p (idxL l) (valL F.p (colL l k)) (min (s0.t).toNat ((idxL l)).length))] 4), en3, en52, en94, en1, some (b9, .cells (elA (F.p)) 40)] [], [(some 57, v2), (some 58, elV F.p), (some 59, v1), (some 60, v3), (some 61, s), (some 62, .pointer (some ⟨b82, o83, none⟩)), (some 63, .pointer (some ⟨b82, o83 + 1, none⟩)), (some 64, .int .i64 s0.t), (some 65, .bool (rFit F.p (idxL l) (valL F.p (colL l k)) (min (s0.t).toNat ((idxL l)).length))), (some 66, .slice (so b90) 1 1), (some 67, u93)], [], hS96, by kernel_rfl, ⟨rfl, rfl, rfl, rfl, rfl, rfl, rfl, rfl, rfl, rfl, rfl, rfl, rfl, rfl, rfl, rfl, rfl, rfl, rfl, rfl, rfl, True.intro, True.intro⟩, rfl, ?_⟩
    show Sc.Node _ _ _ _ _ _ _ 11 [(some 57, v2), (some 58, elV F.p), (some 59, v1), (some 60, v3), (some 61, s), (some 62, .pointer (some ⟨b82, o83, none⟩)), (some 63, .pointer (some ⟨b82, o83 + 1, none⟩)), (some 64, .int .i64 s0.t), (some 65, .bool (rFit F.p (idxL l) (valL F.p (colL l k)) (min (s0.t).toNat ((idxL l)).length))), (some 66, .slice (so b90) 1 1), (some 67, u93)] [] [10, 9] _
    refine node1 11 [] [10, 9] [] (by kernel_rfl) rfl rfl (nd rfl) rfl (by kernel_rfl) ?_ ?_ ?_
    ·intro S wd hSd
     refine ⟨n0 rfl rfl rfl (ex_move (v := v2) rfl) rfl hSd, n0 rfl rfl rfl (ex_loads (vs := (el (F.p))) rfl (hSd.at 5 rfl) ag40 rfl rfl) rfl hSd, n0 rfl rfl rfl (ex_move (v := v1) rfl) rfl hSd, n0 rfl rfl rfl (ex_move (v := v3) rfl) rfl hSd, n0 rfl rfl rfl (ex_move (v := s) rfl) rfl hSd, n1 rfl rfl rfl rfl (fun hq4 => (ex_sindexO hI84 (evS hq4 rfl rfl) rfl sl22 (by omega))) rfl hSd, n1 rfl rfl rfl rfl (fun hq5 => (ex_field (o' := (o83 + 1)) (evS hq5 rfl rfl) fi46_1 rfl)) rfl hSd, n1 rfl rfl rfl rfl (fun hq6 => (ex_loadC (r := 1) (u := .int .i64 s0.t) hC85 (hSd.holds0 hZ0) (evS hq6 rfl rfl) on3 rfl rfl)) rfl hSd, ?_, sG rfl, sG rfl, tt⟩
     refine needG rfl ?_
     rintro ⟨hq1, hq2, hq3, hq7, _⟩ hno
     refine dxC (wanted_none rfl) rfl (exe_call (args := #[elV F.p, v1, v3, .int .i64 s0.t]) en134 (args_of4 (evS hq1 rfl rfl) (evS hq2 rfl rfl) (evS hq3 rfl rfl) (evS hq7 rfl rfl))) (c_rFits F.p s0.t v1 (idxL l) v3 (valL F.p (colL l k)) ((entF en1) ++ (entF en3)) wd (by assumption) (by assumption) hxp (valL_lt (col_lt g0 (by omega))) (by rw [idxL_len, valL_len, colL_len]) (by rw [idxL_len]; omega) (by have := g0.t1; omega) (Holds.app (hSd.entH 4 rfl) (hSd.entH 1 rfl)) (Sl.mono ((hO1).slF) fun _ hp => (List.mem_append_left _ hp)) (Sl.mono ((hO3).slF) fun _ hp => (List.mem_append_right _ hp))) ?_
     rintro _ W86 ⟨rfl, hT88⟩
     have hS87 := hSd.call hT88
     exact ⟨rfl, hS87⟩
    ·exact fun S wd hSd => ⟨True.intro, True.intro, True.intro, True.intro, True.intro, True.intro, True.intro, True.intro, True.intro, True.intro, True.intro, True.intro⟩
    intro _ W98 hS99
    refine sqv (ex_assign (v := u93) rfl) ?_
    refine blk_normal ?_
    show C _ _ _ _ _ _
    refine C_region ?_
    refine sqv (ex_move (v := .int .i64 (k : Int)) rfl) ?_
    refine nm ((k : Int) + 1) fun x100 hx100 => ?_
    refine sqv (ex_add (x := (k : Int)) (y := 1) rfl rfl (w64 hx100 (by omega))) ?_
    refine sqv (ex_assign (v := .int .i64 x100) rfl) ?_
    exact ⟨_, (by omega), ⟨_, (k + 1), u93, en94, (o2 ++ ([rFit F.p (idxL l) (valL F.p (colL l k)) (min (s0.t).toNat ((idxL l)).length)])), rfl, act_upds ⟨rfl, rfl, rfl, rfl, rfl, (congrArg (Value.int .i64) (by first | rfl | omega)), trivial⟩, (St.pick (L := [some (b90, .cells #[.bool (rFit F.p (idxL l) (valL F.p (colL l k)) (min (s0.t).toNat ((idxL l)).length))] 4), en3, en52, en94, en1, some (b9, .cells (elA (F.p)) 40)]) hS99 [3, 4, 5] (by decide)), (by omega), ho97, (by rw [chuL_succ, ho2, ← fit_acc g0 (show k < s0.p.length by omega)])⟩⟩
   exact fun h => absurd h (by decide)
  exact fun h => absurd h (by decide)
 refine C_exit ?_
 refine thn_exit ?_
 refine thn_exit ?_
 refine blk_exit ?_
 show C _ _ _ _ _ _
 refine C_sr ?_
 refine sqv (ex_move (v := v2) rfl) ?_
 refine sqv (ex_assign (v := v2) rfl) ?_
 show C _ _ _ _ _ _
 refine C_ret ?_
 refine done_1 (v := v2) rfl rfl ?_
 obtain rfl : k = s0.p.length := by omega
 exact ⟨_, _, rfl, by rw [show chuL F l s0.t s0.p.length = o2 from ho2.symm]; exact hO2, (St.pick (L := [en2, en1, some (b9, .cells (elA (F.p)) 40)]) hS39 [0] (by decide)).less (fun _ h => absurd h (by simp))⟩
theorem c_rConsistent (F : PrF) (s0 : Sh) (s : Value) (l : List Sh) (Z0 : List Fact) (w0 : World) (g0 : Acc F l s0) (g1 : ∀ s ∈ l, ∀ y ∈ s.p, y < B256) (g2 : l.length < 900) (g3 : s0.p.length < 1000000) (hZ0 : Holds w0 Z0) (hs_s : Shs Z0 46 49 s l) : Calls Tryz.prog 54 #[s] w0 (Ret fun uu w' => uu = .bool (conB F l s0.t s0.p.length) ∧ St [] w0 w' [] []) := by
 have hml := chuL_len F l s0.t s0.p.length
 refine calls_of Tryz.func54 rfl Tryz.ntmps54 (Nat.le_of_ble_eq_true rfl) ?_
 have hS0 := St.nil w0
 refine C_sr ?_
 refine sqv (ex_assign (v := .bool false) rfl) ?_
 show C _ _ _ _ _ _
 refine C_sr ?_
 refine sqv (ex_move (v := s) rfl) ?_
 refine sqc (exe_call (args := #[s]) en97 (args_of1 rfl)) (c_rChunks F s0 s l Z0 w0 g0 g1 g2 g3 (hS0.holds0 hZ0) (hs_s)) ?_
 rintro v5 W1 ⟨_, en6, rfl, hp7, hT3⟩
 have hS2 := hS0.call hT3
 refine sqv (ex_assign (v := v5) rfl) ?_
 show C _ _ _ _ _ _
 refine C_seq ?_
 refine C_sr ?_
 refine sqv (ex_assign (v := .int .i64 0) rfl) ?_
 show C _ _ _ _ _ _
 refine C_block ?_
 refine C_loop (fun nn aa ww => ∃ (m0 : Nat → Value) (k : Nat), nn = s0.p.length - k ∧ aa = act 18 (upds m0 [(3, v5), (4, .int .i64 (k : Int))]) [] ∧ St [] w0 ww [en6] [] ∧ (k ≤ s0.p.length) ∧ (conB F l s0.t k = true)) s0.p.length ?_ ?_
 ·exact ⟨_, 0, rfl, act_upds ⟨rfl, (congrArg (Value.int .i64) (by first | rfl | omega)), trivial⟩, (St.pick (L := [en6]) hS2 [0] (by decide)), (Nat.zero_le _), rfl⟩
 rintro n11 a12 W9 ⟨m8, k, rfl, rfl, hS10, hk, hcon⟩
 refine C_seq ?_
 refine C_sr ?_
 refine sqv (ex_move (v := .int .i64 (k : Int)) rfl) ?_
 refine sqv (ex_move (v := v5) rfl) ?_
 refine sqv (ex_lenW (r := ((chuL F l s0.t s0.p.length).length : Int)) hp7 rfl sl53 rfl) ?_
 refine sqv (ex_cmp (x := (k : Int)) (y := ((chuL F l s0.t s0.p.length).length : Int)) (r := decide ((k : Int) < ((chuL F l s0.t s0.p.length).length : Int))) rfl rfl rfl) ?_
 show C _ _ _ _ _ _
 refine C_dec ((k : Int) < ((chuL F l s0.t s0.p.length).length : Int)) rfl (fun hc13 => ?_) (fun hc13 => ?_)
 ·refine C_skip ?_
  show C _ _ _ _ _ _
  refine C_seq ?_
  refine C_block ?_
  refine C_sr ?_
  refine sqv (ex_move (v := v5) rfl) ?_
  refine sqv (ex_move (v := .int .i64 (k : Int)) rfl) ?_
  obtain ⟨y14, hy15⟩ := get_lt (chuL F l s0.t s0.p.length) k (by first | omega | (simp only [List.length_set, List.length_replicate, List.length_append, List.length_take, List.length_drop, List.length_cons, List.length_nil, List.length_map]; omega))
  obtain ⟨b16, o17, hI18, hC19⟩ := sl_at (f := cT) (k := 1) (fun _ => rfl) (by decide) ((hp7).slF) hy15
  refine sqv (ex_sindexO hI18 rfl rfl sl53 rfl) ?_
  refine sqv (ex_loadC (r := 0) (u := .bool y14) hC19 (hS10.entH 0 rfl) rfl on4 rfl rfl) ?_
  obtain rfl : y14 = fitB F (idxL l) (colL l k) s0.t := Option.some.inj (hy15.symm.trans (chuL_get (by omega)))
  refine sqv (ex_not (t := (fitB F (idxL l) (colL l k) s0.t)) rfl) ?_
  show C _ _ _ _ _ _
  refine C_if (t := !(fitB F (idxL l) (colL l k) s0.t)) rfl (fun hc20 => ?_) (fun hc20 => ?_)
  ·refine C_sr ?_
   refine sqv (ex_assign (v := .bool false) rfl) ?_
   show C _ _ _ _ _ _
   refine C_ret ?_
   refine blk_ret ?_
   refine thn_ret ?_
   refine thn_ret ?_
   refine blk_ret ?_
   refine thn_ret ?_
   refine done_1 (v := .bool false) rfl rfl ?_
   exact ⟨congrArg _ (con_false (k := k) (by omega) (by simpa using hc20)).symm, (St.pick (L := [en6]) hS10 [] (by decide))⟩
  refine C_skip ?_
  refine blk_normal ?_
  show C _ _ _ _ _ _
  refine C_region ?_
  refine sqv (ex_move (v := .int .i64 (k : Int)) rfl) ?_
  refine nm ((k : Int) + 1) fun x21 hx21 => ?_
  refine sqv (ex_add (x := (k : Int)) (y := 1) rfl rfl (w64 hx21 (by omega))) ?_
  refine sqv (ex_assign (v := .int .i64 x21) rfl) ?_
  exact ⟨_, (by omega), ⟨_, (k + 1), rfl, act_upds ⟨rfl, (congrArg (Value.int .i64) (by first | rfl | omega)), trivial⟩, (St.pick (L := [en6]) hS10 [0] (by decide)), (by omega), (by rw [← con_step hcon.symm, Bool.true_and]; simpa using hc20)⟩⟩
 refine C_exit ?_
 refine thn_exit ?_
 refine thn_exit ?_
 refine blk_exit ?_
 show C _ _ _ _ _ _
 refine C_sr ?_
 refine sqv (ex_assign (v := .bool true) rfl) ?_
 show C _ _ _ _ _ _
 refine C_ret ?_
 refine done_1 (v := .bool true) rfl rfl ?_
 obtain rfl : k = s0.p.length := by omega
 exact ⟨congrArg _ hcon.symm, (St.pick (L := [en6]) hS10 [] (by decide))⟩
theorem c_Without (i : Int) (s : Value) (l : List Sh) (Z0 : List Fact) (w0 : World) (g0 : 0 ≤ i ∧ i < l.length) (g1 : l.length < 900) (hZ0 : Holds w0 Z0) (hs_s : Shs Z0 46 49 s l) : Calls Tryz.prog 55 #[s, .int .i64 i] w0 (Ret fun uu w' => ∃ (v : Value), ∃ (en : Ent), uu = v ∧ (Own 46 5 cS v (omitL l (i).toNat) en) ∧ St [] w0 w' [en] []) := by
 have hlen := sl_lt (f := cS) (k := 5) (fun _ => rfl) (by decide) hs_s.1
 refine calls_of Tryz.func55 rfl Tryz.ntmps55 (Nat.le_of_ble_eq_true rfl) ?_
 have hS0 := St.nil w0
 refine C_sr ?_
 refine sqv (ex_assign (v := .slice none 0 0) rfl) ?_
 show C _ _ _ _ _ _
 refine C_sr ?_
 refine sqE (st_bslice (vs := []) hS0 sl22 ze46 rfl (by simp) rfl (by decide)) fun b1 W2 hS3 => ?_
 refine sqv (ex_move (v := s) rfl) ?_
 refine sqv (ex_move (v := .int .i64 i) rfl) ?_
 have hj4 : i = ((i.toNat : Nat) : Int) := by omega
 have hc5 := sl_cap (f := cS) (k := 5) (fun _ => rfl) (by decide) ((hs_s).1)
 refine nm (cutv s 5 0 i.toNat (capv s)) fun v7 hv7 => ?_
 have hs6 := sl_cutM (f := cS) (k := 5) (fun _ => rfl) (by decide) ((hs_s).1) 0 i.toNat (capv s) (by first | omega | (simp only [List.length_set, List.length_replicate, List.length_append, List.length_take, List.length_drop, List.length_cons, List.length_nil]; omega)) (by first | omega | (simp only [List.length_set, List.length_replicate, List.length_append, List.length_take, List.length_drop, List.length_cons, List.length_nil]; omega)) (by first | omega | (simp only [List.length_set, List.length_replicate, List.length_append, List.length_take, List.length_drop, List.length_cons, List.length_nil]; omega)) (by first | omega | (simp only [List.length_set, List.length_replicate, List.length_append, List.length_take, List.length_drop, List.length_cons, List.length_nil]; omega))
 rw [← hv7] at hs6
 rw [List.drop_zero] at hs6
 refine sqv (ex_cutE hv7 (f := cS) (k := 5) (l := 0) (hh := i.toNat) (m := (capv s)) (fun _ => rfl) (by decide) ((hs_s).1) rfl sl22 rfl ⟨_, _, rfl, (by omega)⟩ rfl (by decide) (by first | omega | (simp only [List.length_set, List.length_replicate, List.length_append, List.length_take, List.length_drop, List.length_cons, List.length_nil]; omega)) (by first | omega | (simp only [List.length_set, List.length_replicate, List.length_append, List.length_take, List.length_drop, List.length_cons, List.length_nil]; omega)) (by first | omega | (simp only [List.length_set, List.length_replicate, List.length_append, List.length_take, List.length_drop, List.length_cons, List.length_nil]; omega)) (by first | omega | (simp only [List.length_set, List.length_replicate, List.length_append, List.length_take, List.length_drop, List.length_cons, List.length_nil]; omega))) ?_
 refine sqA (st_appendMm (f := cS) (k := 5) (xs := []) (ys := l.take i.toNat) (fun _ => rfl) (fun x hx => cS_one (((hs_s).cut hs6 (fun z hz => List.mem_of_mem_take hz)).2 x hx)) (by decide) 0 hS3 ((own_of (f := cS) (k := 5) (t := 46) (b := b1) (cs := #[]) (ys := []) (fun _ => rfl) rfl (Nat.le_of_ble_eq_true rfl) rfl)) (((hs_s).cut hs6 (fun z hz => List.mem_of_mem_take hz)).1) ((hS3.holds0 hZ0)) rfl rfl rfl sl22 ze46 rfl (by simp only [List.length_append, List.length_cons, List.length_nil, List.length_take, List.length_drop, maxLen]; omega) (by simp only [List.length_append, List.length_cons, List.length_nil, List.length_take, List.length_drop, maxLen]; omega)) fun u9 en10 W11 ⟨hS12, ho13⟩ => ?_
 refine sqv (ex_assign (v := u9) rfl) ?_
 show C _ _ _ _ _ _
 refine C_sr ?_
 refine sqv (ex_move (v := u9) rfl) ?_
 refine sqv (ex_move (v := s) rfl) ?_
 refine sqv (ex_move (v := .int .i64 i) rfl) ?_
 refine nm (i + 1) fun x14 hx14 => ?_
 refine sqv (ex_add (x := i) (y := 1) rfl rfl (w64 hx14 (by omega))) ?_
 have hj15 : x14 = (((i.toNat + 1) : Nat) : Int) := by omega
 have hc16 := sl_cap (f := cS) (k := 5) (fun _ => rfl) (by decide) ((hs_s).1)
 refine nm (cutv s 5 (i.toNat + 1) l.length (capv s)) fun v18 hv18 => ?_
 have hs17 := sl_cutM (f := cS) (k := 5) (fun _ => rfl) (by decide) ((hs_s).1) (i.toNat + 1) l.length (capv s) (by first | omega | (simp only [List.length_set, List.length_replicate, List.length_append, List.length_take, List.length_drop, List.length_cons, List.length_nil]; omega)) (by first | omega | (simp only [List.length_set, List.length_replicate, List.length_append, List.length_take, List.length_drop, List.length_cons, List.length_nil]; omega)) (by first | omega | (simp only [List.length_set, List.length_replicate, List.length_append, List.length_take, List.length_drop, List.length_cons, List.length_nil]; omega)) (by first | omega | (simp only [List.length_set, List.length_replicate, List.length_append, List.length_take, List.length_drop, List.length_cons, List.length_nil]; omega))
 rw [← hv18] at hs17
 rw [List.take_length] at hs17
 refine sqv (ex_cutE hv18 (f := cS) (k := 5) (l := (i.toNat + 1)) (hh := l.length) (m := (capv s)) (fun _ => rfl) (by decide) ((hs_s).1) rfl sl22 ⟨_, _, rfl, (by omega)⟩ rfl rfl (by decide) (by first | omega | (simp only [List.length_set, List.length_replicate, List.length_append, List.length_take, List.length_drop, List.length_cons, List.length_nil]; omega)) (by first | omega | (simp only [List.length_set, List.length_replicate, List.length_append, List.length_take, List.length_drop, List.length_cons, List.length_nil]; omega)) (by first | omega | (simp only [List.length_set, List.length_replicate, List.length_append, List.length_take, List.length_drop, List.length_cons, List.length_nil]; omega)) (by first | omega | (simp only [List.length_set, List.length_replicate, List.length_append, List.length_take, List.length_drop, List.length_cons, List.length_nil]; omega))) ?_
 refine sqA (st_appendMm (f := cS) (k := 5) (xs := ([]) ++ (l.take i.toNat)) (ys := l.drop (i.toNat + 1)) (fun _ => rfl) (fun x hx => cS_one (((hs_s).cut hs17 (fun z hz => List.mem_of_mem_drop hz)).2 x hx)) (by decide) 0 hS12 (ho13) (((hs_s).cut hs17 (fun z hz => List.mem_of_mem_drop hz)).1) ((hS12.holds0 hZ0)) rfl rfl rfl sl22 ze46 rfl (by simp only [List.length_append, List.length_cons, List.length_nil, List.length_take, List.length_drop, maxLen]; omega) (by simp only [List.length_append, List.length_cons, List.length_nil, List.length_take, List.length_drop, maxLen]; omega)) fun u20 en21 W22 ⟨hS23, ho24⟩ => ?_
 refine sqv (ex_assign (v := u20) rfl) ?_
 show C _ _ _ _ _ _
 refine C_ret ?_
 refine done_1 (v := u20) rfl rfl ?_
 exact ⟨_, _, rfl, (show Own 46 5 cS _ (omitL l i.toNat) _ from ho24), (St.pick (L := [en21]) hS23 [0] (by decide)).less (fun _ h => absurd h (by simp))⟩
theorem c_rSuspects (F : PrF) (s0 : Sh) (s : Value) (l : List Sh) (Z0 : List Fact) (w0 : World) (g0 : Acc F l s0) (g1 : ∀ s ∈ l, ∀ y ∈ s.p, y < B256) (g2 : l.length < 900) (g3 : s0.t < l.length) (g4 : s0.p.length < 1000000) (hZ0 : Holds w0 Z0) (hs_s : Shs Z0 46 49 s l) : Calls Tryz.prog 16 #[s] w0 (Ret fun uu w' => ∃ (v : Value), ∃ (en : Ent), uu = .tuple #[v, .int .i64 0] ∧ (Own 3 1 cI v (susL F l s0.t s0.p.length (l).length) en) ∧ St [] w0 w' [en] []) := by
 have hF := g0.ok
 have hlen := sl_lt (f := cS) (k := 5) (fun _ => rfl) (by decide) hs_s.1
 have hl0 : 0 < l.length := (List.getElem?_eq_some_iff.1 g0.h0).1
 have hs0 := (List.getElem?_eq_some_iff.1 g0.h0).2
 have h0m : s0 ∈ l := List.mem_of_getElem? g0.h0
 have h0f := (g0.hd s0 h0m).1
 have hpl0 := sl_lt (f := el) (k := 4) (fun _ => rfl) (by decide) (hs_s.2 s0 h0m)
 refine calls_of Tryz.func16 rfl Tryz.ntmps16 (Nat.le_of_ble_eq_true rfl) ?_
 have hS0 := St.nil w0
 refine C_sr ?_
 refine sqv (ex_assign (v := .slice none 0 0) rfl) ?_
 refine sqv (ex_assign (v := .int .i64 0) rfl) ?_
 show C _ _ _ _ _ _
 refine C_sr ?_
 refine sqv (ex_move (v := s) rfl) ?_
 refine sqc (exe_call (args := #[s]) en27 (args_of1 rfl)) (c_rCheckShares s l Z0 w0 g1 (by omega) (hS0.holds0 hZ0) (hs_s)) ?_
 rintro _ W1 ⟨rfl, hT3⟩
 have hS2 := hS0.call hT3
 refine sqv (ex_assign (v := .int .i64 (ckShs l)) rfl) ?_
 show C _ _ _ _ _ _
 refine C_seq ?_
 refine C_sr ?_
 refine sqv (ex_move (v := .int .i64 (ckShs l)) rfl) ?_
 refine sqv (ex_cmp (x := (ckShs l)) (y := 0) (r := decide ((ckShs l) ≠ 0)) rfl rfl rfl) ?_
 show C _ _ _ _ _ _
 refine C_dec ((ckShs l) ≠ 0) rfl (fun hc5 => ?_) (fun hc5 => ?_)
 ·exact absurd g0.ck (by assumption)
 refine C_skip ?_
 show C _ _ _ _ _ _
 refine C_seq ?_
 refine C_sr ?_
 refine sqv (ex_move (v := s) rfl) ?_
 refine sqv (ex_lenO (f := cS) (k := 5) (r := (l.length : Int)) (fun _ => rfl) (by decide) ((hs_s).1) rfl sl22 rfl) ?_
 refine sqv (ex_move (v := s) rfl) ?_
 obtain ⟨b6, o7, hI8, hC9⟩ := sl_at (f := cS) (k := 5) (fun _ => rfl) (by decide) ((hs_s).1) g0.h0
 refine sqv (ex_sindexO hI8 rfl rfl sl22 (by omega)) ?_
 refine sqv (ex_field (o' := (o7 + 1)) rfl fi46_1 rfl) ?_
 refine sqv (ex_loadC (r := 1) (u := .int .i64 s0.t) hC9 (hS2.holds0 hZ0) rfl on3 rfl rfl) ?_
 refine sqv (ex_cmp (x := (l.length : Int)) (y := s0.t) (r := decide ((l.length : Int) ≤ s0.t)) rfl rfl rfl) ?_
 show C _ _ _ _ _ _
 refine C_dec ((l.length : Int) ≤ s0.t) rfl (fun hc10 => ?_) (fun hc10 => ?_)
 ·exfalso; omega
 refine C_skip ?_
 show C _ _ _ _ _ _
 refine C_sr ?_
 refine sqv (ex_assign (v := .slice none 0 0) rfl) ?_
 show C _ _ _ _ _ _
 refine C_seq ?_
 refine C_sr ?_
 refine sqv (ex_assign (v := .int .i64 0) rfl) ?_
 show C _ _ _ _ _ _
 refine C_block ?_
 have hS11 := St.non hS2
 refine C_loop (fun nn aa ww => ∃ (m0 : Nat → Value) (i : Nat) (v : Value) (en : Ent) (o : List Int), nn = l.length - i ∧ aa = act 34 (upds m0 [(0, s), (2, .slice none 0 0), (3, .int .i64 0), (5, v), (6, .int .i64 (i : Int))]) [] ∧ St [] w0 ww [en] [] ∧ (i ≤ l.length) ∧ (Own 3 1 cI v o en) ∧ (o = susL F l s0.t s0.p.length i)) l.length ?_ ?_
 ·exact ⟨_, 0, (.slice none 0 0), none, [], rfl, act_upds ⟨rfl, rfl, (congrArg (Value.int .i64) (by first | rfl | omega)), rfl, (congrArg (Value.int .i64) (by first | rfl | omega)), trivial⟩, (St.pick (L := [none]) hS11 [0] (by decide)), (Nat.zero_le _), (Own.nil _ _ _), rfl⟩
 rintro n15 a16 W13 ⟨m12, i, v, en, o, rfl, rfl, hS14, hi, hO, ho⟩
 have hol : o.length ≤ i := by rw [ho]; exact susL_len _ _ _ _ _
 refine C_seq ?_
 refine C_sr ?_
 refine sqv (ex_move (v := .int .i64 (i : Int)) rfl) ?_
 refine sqv (ex_move (v := s) rfl) ?_
 refine sqv (ex_lenO (f := cS) (k := 5) (r := (l.length : Int)) (fun _ => rfl) (by decide) ((hs_s).1) rfl sl22 rfl) ?_
 refine sqv (ex_cmp (x := (i : Int)) (y := (l.length : Int)) (r := decide ((i : Int) < (l.length : Int))) rfl rfl rfl) ?_
 show C _ _ _ _ _ _
 refine C_dec ((i : Int) < (l.length : Int)) rfl (fun hc17 => ?_) (fun hc17 => ?_)
 ·refine C_skip ?_
  show C _ _ _ _ _ _
  refine C_seq ?_
  refine C_block ?_
  refine C_sr ?_
  refine sqv (ex_move (v := s) rfl) ?_
  refine sqv (ex_move (v := .int .i64 (i : Int)) rfl) ?_
  refine sqc (exe_call (args := #[s, .int .i64 (i : Int)]) en55 (args_of2 rfl rfl)) (c_Without (i : Int) s l Z0 W13 (by omega) (by omega) (hS14.holds0 hZ0) (hs_s)) ?_
  rintro v22 W18 ⟨_, en23, rfl, hp24, hT20⟩
  have hS19 := hS14.call hT20
  obtain ⟨z, hza, hzt, hzp⟩ := acc_omit g0 (show i < l.length by omega) (by omega)
  have hom := omit_len (show i < l.length by omega)
  refine sqc (exe_call (args := #[v22]) en54 (args_of1 rfl)) (c_rConsistent F z v22 (omitL l i) (entF en23 ++ Z0) W18 hza (fun s hs => g1 s (omit_sub l i s hs)) (by omega) (by omega) (Holds.app (hS19.entH 0 rfl) (hS19.holds0 hZ0)) ((shs_own (show Own 46 5 cS v22 (omitL l i) en23 from hp24) (fun s hs => hs_s.2 s (omit_sub l i s hs))))) ?_
  rintro _ W25 ⟨rfl, hT27⟩
  have hS26 := hS19.call hT27
  show C _ _ _ _ _ _
  refine C_if (t := conB F (omitL l i) z.t z.p.length) rfl (fun hc29 => ?_) (fun hc29 => ?_)
  ·refine C_region ?_
   refine sqv (ex_move (v := v) rfl) ?_
   refine sqv (ex_move (v := .int .i64 (i : Int)) rfl) ?_
   refine sqE (st_bslice (vs := [.int .i64 (i : Int)]) hS26 sl25 ze3 rfl (by simp [Value.cells]) rfl (by decide)) fun b30 W31 hS32 => ?_
   refine sqA (st_appendM (f := cI) (k := 1) (xs := o) (ys := [(i : Int)]) (fun _ => rfl) (fun _ => ones_of rfl) (by decide) 2 hS32 (hO) ((sl_row (f := cI) (k := 1) (t := 3) (b := b30) (n := 1) (cs := #[.int .i64 (i : Int)]) (ys := [(i : Int)]) (fun _ => rfl) rfl (Nat.le_of_ble_eq_true rfl) rfl)) (hS32.entH 0 rfl) rfl rfl rfl sl25 ze3 rfl (by simp only [List.length_append, List.length_cons, List.length_nil, maxLen]; omega) (by simp only [List.length_append, List.length_cons, List.length_nil, maxLen]; omega)) fun u33 en34 W35 ⟨hS36, ho37⟩ => ?_
   refine sqv (ex_assign (v := u33) rfl) ?_
   refine blk_normal ?_
   show C _ _ _ _ _ _
   refine C_region ?_
   refine sqv (ex_move (v := .int .i64 (i : Int)) rfl) ?_
   refine nm ((i : Int) + 1) fun x38 hx38 => ?_
   refine sqv (ex_add (x := (i : Int)) (y := 1) rfl rfl (w64 hx38 (by omega))) ?_
   refine sqv (ex_assign (v := .int .i64 x38) rfl) ?_
   exact ⟨_, (by omega), ⟨_, (i + 1), u33, en34, (o ++ ([(i : Int)])), rfl, act_upds ⟨rfl, rfl, (congrArg (Value.int .i64) (by first | rfl | omega)), rfl, (congrArg (Value.int .i64) (by first | rfl | omega)), trivial⟩, (St.pick (L := [some (b30, .cells #[.int .i64 (i : Int)] 3), en23, en34]) hS36 [2] (by decide)), (by omega), ho37, (sus_step ho (t := true) (by rw [← hzt, ← hzp]; assumption) rfl)⟩⟩
  refine C_skip ?_
  refine blk_normal ?_
  show C _ _ _ _ _ _
  refine C_region ?_
  refine sqv (ex_move (v := .int .i64 (i : Int)) rfl) ?_
  refine nm ((i : Int) + 1) fun x39 hx39 => ?_
  refine sqv (ex_add (x := (i : Int)) (y := 1) rfl rfl (w64 hx39 (by omega))) ?_
  refine sqv (ex_assign (v := .int .i64 x39) rfl) ?_
  exact ⟨_, (by omega), ⟨_, (i + 1), v, en, o, rfl, act_upds ⟨rfl, rfl, (congrArg (Value.int .i64) (by first | rfl | omega)), rfl, (congrArg (Value.int .i64) (by first | rfl | omega)), trivial⟩, (St.pick (L := [en23, en]) hS26 [1] (by decide)), (by omega), hO, (sus_step ho (t := false) (by rw [← hzt, ← hzp]; assumption) rfl)⟩⟩
 refine C_exit ?_
 refine thn_exit ?_
 refine thn_exit ?_
 refine blk_exit ?_
 show C _ _ _ _ _ _
 refine C_sr ?_
 refine sqv (ex_move (v := v) rfl) ?_
 refine sqv (ex_assign (v := v) rfl) ?_
 refine sqv (ex_assign (v := .int .i64 0) rfl) ?_
 show C _ _ _ _ _ _
 refine C_ret ?_
 refine done_2 (v1 := v) (v2 := .int .i64 0) rfl rfl rfl ?_
 obtain rfl : i = l.length := by omega
 exact ⟨_, _, rfl, by rw [← ho]; exact hO, (St.pick (L := [en]) hS14 [0] (by decide)).less (fun _ h => absurd h (by simp))⟩
end Go.Proofs
end
