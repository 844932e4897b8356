/- AuditSuspects holds: Suspects of the audit gives the same positions, or the same error, as the reference, for all arguments that the statement admits, with no further condition. Part 12 of 12. -/
import Derived.Test.YtfhpmpmmckkgbaaGreatDoorS11
import Derived.Deep.Slices
import Derived.OpenShut
import Derived.ChangeArms
import Derived.ReadAgain
import Derived.ChangeBears
import Derived.Laws.IdiomArrays
import Derived.Below
import Derived.ChangeSame
import Derived.Handed
import Derived.RowKit
import Derived.ProofKit
import Derived.Test.YtfhpmpmmckkgbaaGreatDoorTie
import Derived.Test.YtfhpmpmmckkgbaaGreatDoorCards
import Derived.LaidMore
import Derived.Stop.Joined
set_option linter.unusedVariables false
set_option linter.unusedSimpArgs false
set_option linter.unusedSectionVars false
section
set_option linter.unusedVariables false
set_option linter.unusedSimpArgs false
set_option maxRecDepth 20000
set_option maxHeartbeats 2000000
namespace Go.Proofs
open Sc
theorem bo4 : boolOf Tryz.prog 4 = true := by kernel_rfl
theorem c_EqualI  (a : Value) (xs : List Int) (b : Value) (ys : List Int) (Z0 : List Fact) (w0 : World)  (hZ0 : Holds w0 Z0) (hs_a : Sl Z0 3 1 a (xs.flatMap cI)) (hs_b : Sl Z0 3 1 b (ys.flatMap cI)) : Calls Tryz.prog 17 #[a, b] w0 (Ret fun uu w' => uu = .bool (decide (xs = ys)) ∧ St [] w0 w' [] []) := by
 have hlen := sl_lt (f := cI) (k := 1) (fun _ => rfl) (by decide) hs_a
 refine calls_of Tryz.func17 rfl Tryz.ntmps17 (Nat.le_of_ble_eq_true rfl) ?_
 have hS0 := St.nil w0
 refine C_sr ?_
 refine sqv (ex_assign (v := .bool false) rfl) ?_
 show C _ _ _ _ _ _
 refine C_seq ?_
 refine C_sr ?_
 refine sqv (ex_move (v := a) rfl) ?_
 refine sqv (ex_lenO (f := cI) (k := 1) (r := (xs.length : Int)) (fun _ => rfl) (by decide) (hs_a) rfl sl25 rfl) ?_
 refine sqv (ex_move (v := b) rfl) ?_
 refine sqv (ex_lenO (f := cI) (k := 1) (r := (ys.length : Int)) (fun _ => rfl) (by decide) (hs_b) rfl sl25 rfl) ?_
 refine sqv (ex_cmp (x := (xs.length : Int)) (y := (ys.length : Int)) (r := decide ((xs.length : Int) ≠ (ys.length : Int))) rfl rfl rfl) ?_
 show C _ _ _ _ _ _
 refine C_dec ((xs.length : Int) ≠ (ys.length : Int)) rfl (fun hc1 => ?_) (fun hc1 => ?_)
 ·refine C_sr ?_
  refine sqv (ex_assign (v := .bool false) rfl) ?_
  show C _ _ _ _ _ _
  refine C_ret ?_
  refine thn_ret ?_
  refine done_1 (v := .bool false) rfl rfl ?_
  exact ⟨congrArg _ (decide_eq_false (ne_len (by omega))).symm, (St.pick (L := []) hS0 [] (by decide))⟩
 refine C_skip ?_
 show C _ _ _ _ _ _
 refine C_seq ?_
 refine C_sr ?_
 refine sqv (ex_move (v := a) rfl) ?_
 refine sqv (ex_lenO (f := cI) (k := 1) (r := (xs.length : Int)) (fun _ => rfl) (by decide) (hs_a) rfl sl25 rfl) ?_
 refine sqv (ex_move (v := .int .i64 0) rfl) ?_
 show C _ _ _ _ _ _
 refine C_block ?_
 refine C_loop (fun nn aa ww => ∃ (m0 : Nat → Value) (k : Nat), nn = xs.length - k ∧ aa = act 26 (upds m0 [(0, a), (1, b), (12, .int .i64 (xs.length : Int)), (13, .int .i64 (k : Int))]) [] ∧ St [] w0 ww [] [] ∧ (k ≤ xs.length) ∧ (xs.take k = ys.take k)) xs.length ?_ ?_
 ·exact ⟨_, 0, rfl, act_upds ⟨rfl, rfl, (congrArg (Value.int .i64) (by first | rfl | omega)), (congrArg (Value.int .i64) (by first | rfl | omega)), trivial⟩, (St.pick (L := []) hS0 [] (by decide)), (Nat.zero_le _), rfl⟩
 rintro n5 a6 W3 ⟨m2, k, rfl, rfl, hS4, hk, he⟩
 refine C_sr ?_
 refine sqv (ex_cmp (x := (k : Int)) (y := (xs.length : Int)) (r := decide ((k : Int) < (xs.length : Int))) rfl rfl rfl) ?_
 show C _ _ _ _ _ _
 refine C_seq ?_
 refine C_dec ((k : Int) < (xs.length : Int)) rfl (fun hc7 => ?_) (fun hc7 => ?_)
 ·refine C_skip ?_
  show C _ _ _ _ _ _
  refine C_seq ?_
  refine C_block ?_
  refine C_sr ?_
  refine sqv (ex_move (v := .int .i64 (k : Int)) rfl) ?_
  refine sqv (ex_assign (v := .int .i64 (k : Int)) rfl) ?_
  show C _ _ _ _ _ _
  refine C_seq ?_
  obtain ⟨y8, hy9⟩ := get_lt xs k (by first | omega | (simp only [List.length_set, List.length_replicate, List.length_append, List.length_take, List.length_drop, List.length_cons, List.length_nil, List.length_map]; omega))
  obtain ⟨b10, o11, hI12, hC13⟩ := sl_at (f := cI) (k := 1) (fun _ => rfl) (by decide) (hs_a) hy9
  obtain ⟨y14, hy15⟩ := get_lt ys k (by first | omega | (simp only [List.length_set, List.length_replicate, List.length_append, List.length_take, List.length_drop, List.length_cons, List.length_nil, List.length_map]; omega))
  obtain ⟨b16, o17, hI18, hC19⟩ := sl_at (f := cI) (k := 1) (fun _ => rfl) (by decide) (hs_b) hy15
  refine C_draw (p := 9) (l := [(some 16, a), (some 17, .int .i64 (k : Int)), (some 18, .pointer (some ⟨b10, o11, none⟩)), (some 19, .int .i64 y8), (some 20, b), (some 21, .int .i64 (k : Int)), (some 22, .pointer (some ⟨b16, o17, none⟩)), (some 23, .int .i64 y14), (some 24, .bool (decide (y8 ≠ y14)))]) (G := []) (J := fun w => St [] w0 w [] []) mixed ?_ (hS4.draw _)
  refine node1 9 [] [] [] (by kernel_rfl) rfl rfl (nd rfl) rfl (by kernel_rfl) ?_ ?_ ?_
  ·intro S wd hSd
   refine ⟨n0 rfl rfl rfl (ex_move (v := a) rfl) rfl hSd, n0 rfl rfl rfl (ex_move (v := .int .i64 (k : Int)) rfl) rfl hSd, n2 rfl rfl rfl rfl (fun hq0 hq1 => (ex_sindexO hI12 (evS hq0 rfl rfl) (evS hq1 rfl rfl) sl25 rfl)) rfl hSd, n1 rfl rfl rfl rfl (fun hq2 => (ex_loadC (r := 0) (u := .int .i64 y8) hC13 (hSd.holds0 hZ0) (evS hq2 rfl rfl) on3 rfl rfl)) rfl hSd, n0 rfl rfl rfl (ex_move (v := b) rfl) rfl hSd, n0 rfl rfl rfl (ex_move (v := .int .i64 (k : Int)) rfl) rfl hSd, n2 rfl rfl rfl rfl (fun hq4 hq5 => (ex_sindexO hI18 (evS hq4 rfl rfl) (evS hq5 rfl rfl) sl25 rfl)) rfl hSd, n1 rfl rfl rfl rfl (fun hq6 => (ex_loadC (r := 0) (u := .int .i64 y14) hC19 (hSd.holds0 hZ0) (evS hq6 rfl rfl) on3 rfl rfl)) rfl hSd, ?_, tt⟩
   refine needG rfl ?_
   rintro ⟨hq3, hq7, _⟩ hno
   exact dx (wanted_none rfl) rfl (ex_cmp (x := y8) (y := y14) (r := decide (y8 ≠ y14)) (evS hq3 rfl rfl) (evS hq7 rfl rfl) rfl) ⟨rfl, hSd⟩
  ·exact fun S wd hSd => ⟨True.intro, True.intro, True.intro, True.intro, True.intro, True.intro, True.intro, True.intro, True.intro, True.intro⟩
  intro _ W20 hS21
  show C _ _ _ _ _ _
  refine C_dec (y8 ≠ y14) rfl (fun hc22 => ?_) (fun hc22 => ?_)
  ·refine C_sr ?_
   refine sqv (ex_assign (v := .bool false) rfl) ?_
   show C _ _ _ _ _ _
   refine C_ret ?_
   refine blk_ret ?_
   refine thn_ret ?_
   refine thn_ret ?_
   refine blk_ret ?_
   refine thn_ret ?_
   refine done_1 (v := .bool false) rfl rfl ?_
   exact ⟨congrArg _ (decide_eq_false (ne_at hy9 hy15 (by assumption))).symm, (St.pick (L := []) hS21 [] (by decide))⟩
  refine C_skip ?_
  refine blk_normal ?_
  show C _ _ _ _ _ _
  refine C_region ?_
  refine nm ((k : Int) + 1) fun x23 hx23 => ?_
  refine sqv (ex_add (x := (k : Int)) (y := 1) rfl rfl (w64 hx23 (by omega))) ?_
  refine sqv (ex_move (v := .int .i64 x23) rfl) ?_
  exact ⟨_, (by omega), ⟨_, (k + 1), rfl, act_upds ⟨rfl, rfl, (congrArg (Value.int .i64) (by first | rfl | omega)), (congrArg (Value.int .i64) (by first | rfl | omega)), trivial⟩, (St.pick (L := []) hS21 [] (by decide)), (by omega), (eq_step he hy9 hy15 (Classical.not_not.1 hc22))⟩⟩
 refine C_exit ?_
 refine thn_exit ?_
 refine thn_exit ?_
 refine blk_exit ?_
 show C _ _ _ _ _ _
 refine C_sr ?_
 refine sqv (ex_assign (v := .bool true) rfl) ?_
 show C _ _ _ _ _ _
 refine C_ret ?_
 refine done_1 (v := .bool true) rfl rfl ?_
 obtain rfl : k = xs.length := by omega
 exact ⟨congrArg _ (decide_eq_true (by rw [List.take_length] at he; rw [he, List.take_of_length_le (by omega)])).symm, (St.pick (L := []) hS4 [] (by decide))⟩
theorem c_EqualB  (a : Value) (xs : List Bool) (b : Value) (ys : List Bool) (Z0 : List Fact) (w0 : World)  (hZ0 : Holds w0 Z0) (hs_a : Sl Z0 4 1 a (xs.flatMap cT)) (hs_b : Sl Z0 4 1 b (ys.flatMap cT)) : Calls Tryz.prog 50 #[a, b] w0 (Ret fun uu w' => uu = .bool (decide (xs = ys)) ∧ St [] w0 w' [] []) := by
 have hlen := sl_lt (f := cT) (k := 1) (fun _ => rfl) (by decide) hs_a
 refine calls_of Tryz.func50 rfl Tryz.ntmps50 (Nat.le_of_ble_eq_true rfl) ?_
 have hS0 := St.nil w0
 refine C_sr ?_
 refine sqv (ex_assign (v := .bool false) rfl) ?_
 show C _ _ _ _ _ _
 refine C_seq ?_
 refine C_sr ?_
 refine sqv (ex_move (v := a) rfl) ?_
 refine sqv (ex_lenO (f := cT) (k := 1) (r := (xs.length : Int)) (fun _ => rfl) (by decide) (hs_a) rfl sl53 rfl) ?_
 refine sqv (ex_move (v := b) rfl) ?_
 refine sqv (ex_lenO (f := cT) (k := 1) (r := (ys.length : Int)) (fun _ => rfl) (by decide) (hs_b) rfl sl53 rfl) ?_
 refine sqv (ex_cmp (x := (xs.length : Int)) (y := (ys.length : Int)) (r := decide ((xs.length : Int) ≠ (ys.length : Int))) rfl rfl rfl) ?_
 show C _ _ _ _ _ _
 refine C_dec ((xs.length : Int) ≠ (ys.length : Int)) rfl (fun hc1 => ?_) (fun hc1 => ?_)
 ·refine C_sr ?_
  refine sqv (ex_assign (v := .bool false) rfl) ?_
  show C _ _ _ _ _ _
  refine C_ret ?_
  refine thn_ret ?_
  refine done_1 (v := .bool false) rfl rfl ?_
  exact ⟨congrArg _ (decide_eq_false (ne_len (by omega))).symm, (St.pick (L := []) hS0 [] (by decide))⟩
 refine C_skip ?_
 show C _ _ _ _ _ _
 refine C_seq ?_
 refine C_sr ?_
 refine sqv (ex_move (v := a) rfl) ?_
 refine sqv (ex_lenO (f := cT) (k := 1) (r := (xs.length : Int)) (fun _ => rfl) (by decide) (hs_a) rfl sl53 rfl) ?_
 refine sqv (ex_move (v := .int .i64 0) rfl) ?_
 show C _ _ _ _ _ _
 refine C_block ?_
 refine C_loop (fun nn aa ww => ∃ (m0 : Nat → Value) (k : Nat), nn = xs.length - k ∧ aa = act 26 (upds m0 [(0, a), (1, b), (12, .int .i64 (xs.length : Int)), (13, .int .i64 (k : Int))]) [] ∧ St [] w0 ww [] [] ∧ (k ≤ xs.length) ∧ (xs.take k = ys.take k)) xs.length ?_ ?_
 ·exact ⟨_, 0, rfl, act_upds ⟨rfl, rfl, (congrArg (Value.int .i64) (by first | rfl | omega)), (congrArg (Value.int .i64) (by first | rfl | omega)), trivial⟩, (St.pick (L := []) hS0 [] (by decide)), (Nat.zero_le _), rfl⟩
 rintro n5 a6 W3 ⟨m2, k, rfl, rfl, hS4, hk, he⟩
 refine C_sr ?_
 refine sqv (ex_cmp (x := (k : Int)) (y := (xs.length : Int)) (r := decide ((k : Int) < (xs.length : Int))) rfl rfl rfl) ?_
 show C _ _ _ _ _ _
 refine C_seq ?_
 refine C_dec ((k : Int) < (xs.length : Int)) rfl (fun hc7 => ?_) (fun hc7 => ?_)
 ·refine C_skip ?_
  show C _ _ _ _ _ _
  refine C_seq ?_
  refine C_block ?_
  refine C_sr ?_
  refine sqv (ex_move (v := .int .i64 (k : Int)) rfl) ?_
  refine sqv (ex_assign (v := .int .i64 (k : Int)) rfl) ?_
  show C _ _ _ _ _ _
  refine C_seq ?_
  obtain ⟨y8, hy9⟩ := get_lt xs k (by first | omega | (simp only [List.length_set, List.length_replicate, List.length_append, List.length_take, List.length_drop, List.length_cons, List.length_nil, List.length_map]; omega))
  obtain ⟨b10, o11, hI12, hC13⟩ := sl_at (f := cT) (k := 1) (fun _ => rfl) (by decide) (hs_a) hy9
  obtain ⟨y14, hy15⟩ := get_lt ys k (by first | omega | (simp only [List.length_set, List.length_replicate, List.length_append, List.length_take, List.length_drop, List.length_cons, List.length_nil, List.length_map]; omega))
  obtain ⟨b16, o17, hI18, hC19⟩ := sl_at (f := cT) (k := 1) (fun _ => rfl) (by decide) (hs_b) hy15
  refine C_draw (p := 9) (l := [(some 16, a), (some 17, .int .i64 (k : Int)), (some 18, .pointer (some ⟨b10, o11, none⟩)), (some 19, .bool y8), (some 20, b), (some 21, .int .i64 (k : Int)), (some 22, .pointer (some ⟨b16, o17, none⟩)), (some 23, .bool y14), (some 24, .bool (decide (y8 ≠ y14)))]) (G := []) (J := fun w => St [] w0 w [] []) mixed ?_ (hS4.draw _)
  refine node1 9 [] [] [] (by kernel_rfl) rfl rfl (nd rfl) rfl (by kernel_rfl) ?_ ?_ ?_
  ·intro S wd hSd
   refine ⟨n0 rfl rfl rfl (ex_move (v := a) rfl) rfl hSd, n0 rfl rfl rfl (ex_move (v := .int .i64 (k : Int)) rfl) rfl hSd, n2 rfl rfl rfl rfl (fun hq0 hq1 => (ex_sindexO hI12 (evS hq0 rfl rfl) (evS hq1 rfl rfl) sl53 rfl)) rfl hSd, n1 rfl rfl rfl rfl (fun hq2 => (ex_loadC (r := 0) (u := .bool y8) hC13 (hSd.holds0 hZ0) (evS hq2 rfl rfl) on4 rfl rfl)) rfl hSd, n0 rfl rfl rfl (ex_move (v := b) rfl) rfl hSd, n0 rfl rfl rfl (ex_move (v := .int .i64 (k : Int)) rfl) rfl hSd, n2 rfl rfl rfl rfl (fun hq4 hq5 => (ex_sindexO hI18 (evS hq4 rfl rfl) (evS hq5 rfl rfl) sl53 rfl)) rfl hSd, n1 rfl rfl rfl rfl (fun hq6 => (ex_loadC (r := 0) (u := .bool y14) hC19 (hSd.holds0 hZ0) (evS hq6 rfl rfl) on4 rfl rfl)) rfl hSd, ?_, tt⟩
   refine needG rfl ?_
   rintro ⟨hq3, hq7, _⟩ hno
   exact dx (wanted_none rfl) rfl (ex_eqB (x := y8) (y := y14) (t := decide (y8 ≠ y14)) bo4 (evS hq3 rfl rfl) (evS hq7 rfl rfl) rfl) ⟨rfl, hSd⟩
  ·exact fun S wd hSd => ⟨True.intro, True.intro, True.intro, True.intro, True.intro, True.intro, True.intro, True.intro, True.intro, True.intro⟩
  intro _ W20 hS21
  show C _ _ _ _ _ _
  refine C_dec (y8 ≠ y14) rfl (fun hc22 => ?_) (fun hc22 => ?_)
  ·refine C_sr ?_
   refine sqv (ex_assign (v := .bool false) rfl) ?_
   show C _ _ _ _ _ _
   refine C_ret ?_
   refine blk_ret ?_
   refine thn_ret ?_
   refine thn_ret ?_
   refine blk_ret ?_
   refine thn_ret ?_
   refine done_1 (v := .bool false) rfl rfl ?_
   exact ⟨congrArg _ (decide_eq_false (ne_at hy9 hy15 (by assumption))).symm, (St.pick (L := []) hS21 [] (by decide))⟩
  refine C_skip ?_
  refine blk_normal ?_
  show C _ _ _ _ _ _
  refine C_region ?_
  refine nm ((k : Int) + 1) fun x23 hx23 => ?_
  refine sqv (ex_add (x := (k : Int)) (y := 1) rfl rfl (w64 hx23 (by omega))) ?_
  refine sqv (ex_move (v := .int .i64 x23) rfl) ?_
  exact ⟨_, (by omega), ⟨_, (k + 1), rfl, act_upds ⟨rfl, rfl, (congrArg (Value.int .i64) (by first | rfl | omega)), (congrArg (Value.int .i64) (by first | rfl | omega)), trivial⟩, (St.pick (L := []) hS21 [] (by decide)), (by omega), (eq_step he hy9 hy15 (Classical.not_not.1 hc22))⟩⟩
 refine C_exit ?_
 refine thn_exit ?_
 refine thn_exit ?_
 refine blk_exit ?_
 show C _ _ _ _ _ _
 refine C_sr ?_
 refine sqv (ex_assign (v := .bool true) rfl) ?_
 show C _ _ _ _ _ _
 refine C_ret ?_
 refine done_1 (v := .bool true) rfl rfl ?_
 obtain rfl : k = xs.length := by omega
 exact ⟨congrArg _ (decide_eq_true (by rw [List.take_length] at he; rw [he, List.take_of_length_le (by omega)])).symm, (St.pick (L := []) hS4 [] (by decide))⟩
theorem c_Large  (s : Value) (l : List Sh) (Z0 : List Fact) (w0 : World)  (hZ0 : Holds w0 Z0) (hs_s : Shs Z0 46 49 s l) : Calls Tryz.prog 13 #[s] w0 (Ret fun uu w' => uu = .int .i64 (lrg l) ∧ St [] w0 w' [] []) := by
 have hlen := sl_lt (f := cS) (k := 5) (fun _ => rfl) (by decide) hs_s.1
 refine calls_of Tryz.func13 rfl Tryz.ntmps13 (Nat.le_of_ble_eq_true rfl) ?_
 have hS0 := St.nil w0
 refine C_sr ?_
 refine sqv (ex_assign (v := .int .i64 0) rfl) ?_
 show C _ _ _ _ _ _
 refine C_seq ?_
 refine C_sr ?_
 refine sqv (ex_move (v := s) rfl) ?_
 refine sqv (ex_lenO (f := cS) (k := 5) (r := (l.length : Int)) (fun _ => rfl) (by decide) ((hs_s).1) rfl sl22 rfl) ?_
 refine sqv (ex_cmp (x := (l.length : Int)) (y := 12) (r := decide (12 < (l.length : Int))) rfl rfl rfl) ?_
 show C _ _ _ _ _ _
 refine C_dec (12 < (l.length : Int)) rfl (fun hc1 => ?_) (fun hc1 => ?_)
 ·refine C_sr ?_
  refine sqv (ex_assign (v := .int .i64 1) rfl) ?_
  show C _ _ _ _ _ _
  refine C_ret ?_
  refine thn_ret ?_
  refine done_1 (v := .int .i64 1) rfl rfl ?_
  exact ⟨congrArg _ (lrg_1 (by omega)), (St.pick (L := []) hS0 [] (by decide))⟩
 refine C_skip ?_
 show C _ _ _ _ _ _
 refine C_seq ?_
 refine C_sr ?_
 refine sqv (ex_move (v := s) rfl) ?_
 refine sqv (ex_lenO (f := cS) (k := 5) (r := (l.length : Int)) (fun _ => rfl) (by decide) ((hs_s).1) rfl sl22 rfl) ?_
 refine sqv (ex_move (v := .int .i64 0) rfl) ?_
 show C _ _ _ _ _ _
 refine C_block ?_
 refine C_loop (fun nn aa ww => ∃ (m0 : Nat → Value) (k : Nat), nn = l.length - k ∧ aa = act 19 (upds m0 [(8, s), (9, .int .i64 (l.length : Int)), (10, .int .i64 (k : Int))]) [] ∧ St [] w0 ww [] [] ∧ (k ≤ l.length) ∧ (((l.take k).all fun s => decide (s.p.length ≤ 4)) = true)) l.length ?_ ?_
 ·exact ⟨_, 0, rfl, act_upds ⟨rfl, (congrArg (Value.int .i64) (by first | rfl | omega)), (congrArg (Value.int .i64) (by first | rfl | omega)), trivial⟩, (St.pick (L := []) hS0 [] (by decide)), (Nat.zero_le _), rfl⟩
 rintro n5 a6 W3 ⟨m2, k, rfl, rfl, hS4, hk, ha⟩
 refine C_sr ?_
 refine sqv (ex_cmp (x := (k : Int)) (y := (l.length : Int)) (r := decide ((k : Int) < (l.length : Int))) rfl rfl rfl) ?_
 show C _ _ _ _ _ _
 refine C_seq ?_
 refine C_dec ((k : Int) < (l.length : Int)) rfl (fun hc7 => ?_) (fun hc7 => ?_)
 ·refine C_skip ?_
  show C _ _ _ _ _ _
  refine C_seq ?_
  refine C_block ?_
  refine C_sr ?_
  obtain ⟨y8, hy9⟩ := get_lt l k (by first | omega | (simp only [List.length_set, List.length_replicate, List.length_append, List.length_take, List.length_drop, List.length_cons, List.length_nil, List.length_map]; omega))
  obtain ⟨b10, o11, hI12, hC13⟩ := sl_at (f := cS) (k := 5) (fun _ => rfl) (by decide) ((hs_s).1) hy9
  refine sqv (ex_sindexO hI12 rfl rfl sl22 rfl) ?_
  refine sqv (ex_loadsC (r := 0) (vs := [.int .i64 y8.f, .int .i64 y8.t, .int .i64 y8.i, .int .i64 y8.n, y8.v]) hC13 (hS4.holds0 hZ0) rfl ag46 rfl rfl rfl) ?_
  refine sqE (st_alloc hS4 ze46) fun b14 W15 hS16 => ?_
  refine sqUE (st_stores (v := .agg #[.int .i64 y8.f, .int .i64 y8.t, .int .i64 y8.i, .int .i64 y8.n, y8.v]) (cs' := #[.int .i64 y8.f, .int .i64 y8.t, .int .i64 y8.i, .int .i64 y8.n, y8.v]) 0 hS16 rfl rfl rfl ag46 rfl (Nat.le_of_ble_eq_true rfl) (ones_cons rfl (ones_cons rfl (ones_cons rfl (ones_cons rfl (ones_cons (sl_1 ((hs_s).2 y8 (List.mem_of_getElem? hy9))).2 ones_nil))))) rfl) fun W17 hS18 => ?_
  show C _ _ _ _ _ _
  refine C_sr ?_
  refine sqv (ex_field (o' := 4) rfl fi46_4 rfl) ?_
  refine sqv (ex_load (v := y8.v) rfl (hS18.at 0 rfl) on44 rfl) ?_
  refine sqv (ex_lenO (f := el) (k := 4) (r := (y8.p.length : Int)) (fun _ => rfl) (by decide) ((hs_s).2 y8 (List.mem_of_getElem? hy9)) rfl sl44 rfl) ?_
  refine sqv (ex_cmp (x := (y8.p.length : Int)) (y := 4) (r := decide (4 < (y8.p.length : Int))) rfl rfl rfl) ?_
  show C _ _ _ _ _ _
  refine C_dec (4 < (y8.p.length : Int)) rfl (fun hc19 => ?_) (fun hc19 => ?_)
  ·refine C_sr ?_
   refine sqv (ex_assign (v := .int .i64 1) rfl) ?_
   show C _ _ _ _ _ _
   refine C_ret ?_
   refine blk_ret ?_
   refine thn_ret ?_
   refine thn_ret ?_
   refine blk_ret ?_
   refine thn_ret ?_
   refine done_1 (v := .int .i64 1) rfl rfl ?_
   exact ⟨congrArg _ (lrg_2 (by omega) hy9 (by assumption)), (St.pick (L := [some (b14, .cells #[.int .i64 y8.f, .int .i64 y8.t, .int .i64 y8.i, .int .i64 y8.n, y8.v] 46)]) hS18 [] (by decide))⟩
  refine C_skip ?_
  refine blk_normal ?_
  show C _ _ _ _ _ _
  refine C_region ?_
  refine nm ((k : Int) + 1) fun x20 hx20 => ?_
  refine sqv (ex_add (x := (k : Int)) (y := 1) rfl rfl (w64 hx20 (by omega))) ?_
  refine sqv (ex_move (v := .int .i64 x20) rfl) ?_
  exact ⟨_, (by omega), ⟨_, (k + 1), rfl, act_upds ⟨rfl, (congrArg (Value.int .i64) (by first | rfl | omega)), (congrArg (Value.int .i64) (by first | rfl | omega)), trivial⟩, (St.pick (L := [some (b14, .cells #[.int .i64 y8.f, .int .i64 y8.t, .int .i64 y8.i, .int .i64 y8.n, y8.v] 46)]) hS18 [] (by decide)), (by omega), (lrg_step ha hy9 (by assumption))⟩⟩
 refine C_exit ?_
 refine thn_exit ?_
 refine thn_exit ?_
 refine blk_exit ?_
 show C _ _ _ _ _ _
 refine C_sr ?_
 refine sqv (ex_assign (v := .int .i64 0) rfl) ?_
 show C _ _ _ _ _ _
 refine C_ret ?_
 refine done_1 (v := .int .i64 0) rfl rfl ?_
 obtain rfl : k = l.length := by omega
 exact ⟨congrArg _ (lrg_0 (by omega) (by rw [List.take_length] at ha; exact ha)), (St.pick (L := []) hS4 [] (by decide))⟩
theorem c_SuspectsF (F : PrF) (s0 : Sh) (s : Value) (l : List Sh) (Z0 : List Fact) (t : Value) (ev : List Ev) (Lt : List Ent) (w0 : World) (g0 : Acc F l s0) (g1 : ∀ s ∈ l, ∀ y ∈ s.p, y < B256) (g2 : l.length < 900) (g3 : ¬ s0.t < l.length) (hZ0 : Holds w0 Z0) (hO0 : Off (bks Lt) Z0) (hs_s : Shs Z0 46 49 s l) (hG : Cells Z0 0 0 gC) (hT : Tp t ev Lt) (hL0 : St (bks Lt) w0 w0 Lt []) : Calls Tryz.prog 15 #[t, s] w0 (Ret fun uu w' => ∃ (Lt' : List Ent), uu = .tuple #[.slice none 0 0, .int .i64 16] ∧ Tp t (ev ++ ([])) Lt' ∧ St (bks Lt) w0 w' ([] ++ Lt') []) := by
 have hF := g0.ok
 have hlen := sl_lt (f := cS) (k := 5) (fun _ => rfl) (by decide) hs_s.1
 have hl0 : 0 < l.length := (List.getElem?_eq_some_iff.1 g0.h0).1
 have hs0 := (List.getElem?_eq_some_iff.1 g0.h0).2
 have h0m : s0 ∈ l := List.mem_of_getElem? g0.h0
 have h0f := (g0.hd s0 h0m).1
 have hpl0 := sl_lt (f := el) (k := 4) (fun _ => rfl) (by decide) (hs_s.2 s0 h0m)
 refine calls_of Tryz.func15 rfl Tryz.ntmps15 (Nat.le_of_ble_eq_true rfl) ?_
 have hS0 := hL0
 refine C_sr ?_
 refine sqv (ex_assign (v := .slice none 0 0) rfl) ?_
 refine sqv (ex_assign (v := .int .i64 0) rfl) ?_
 show C _ _ _ _ _ _
 refine C_seq ?_
 refine C_sr ?_
 refine sqv (ex_move (v := s) rfl) ?_
 refine sqc (exe_call (args := #[s]) en51 (args_of1 rfl)) (c_CheckShares s l Z0 w0 g1 (by omega) (hS0.holdsA hZ0 hO0) (hs_s) (hG)) ?_
 rintro _ W1 ⟨rfl, hT3⟩
 have hS2 := hS0.call hT3
 refine sqv (ex_assign (v := .int .i64 (ckShs l)) rfl) ?_
 show C _ _ _ _ _ _
 refine C_sr ?_
 refine sqv (ex_move (v := .int .i64 (ckShs l)) rfl) ?_
 refine sqv (ex_cmp (x := (ckShs l)) (y := 0) (r := decide ((ckShs l) ≠ 0)) rfl rfl rfl) ?_
 show C _ _ _ _ _ _
 refine C_dec ((ckShs l) ≠ 0) rfl (fun hc5 => ?_) (fun hc5 => ?_)
 ·exact absurd g0.ck (by assumption)
 refine C_skip ?_
 show C _ _ _ _ _ _
 refine C_seq ?_
 refine C_sr ?_
 refine sqv (ex_move (v := s) rfl) ?_
 refine sqv (ex_lenO (f := cS) (k := 5) (r := (l.length : Int)) (fun _ => rfl) (by decide) ((hs_s).1) rfl sl22 rfl) ?_
 refine sqv (ex_move (v := s) rfl) ?_
 obtain ⟨b6, o7, hI8, hC9⟩ := sl_at (f := cS) (k := 5) (fun _ => rfl) (by decide) ((hs_s).1) g0.h0
 refine sqv (ex_sindexO hI8 rfl rfl sl22 (by omega)) ?_
 refine sqv (ex_field (o' := (o7 + 1)) rfl fi46_1 rfl) ?_
 refine sqv (ex_loadC (r := 1) (u := .int .i64 s0.t) hC9 (hS2.holdsA hZ0 hO0) rfl on3 rfl rfl) ?_
 refine sqv (ex_cmp (x := (l.length : Int)) (y := s0.t) (r := decide ((l.length : Int) ≤ s0.t)) rfl rfl rfl) ?_
 show C _ _ _ _ _ _
 refine C_dec ((l.length : Int) ≤ s0.t) rfl (fun hc10 => ?_) (fun hc10 => ?_)
 ·refine C_sr ?_
  refine sqv (ex_assign (v := .slice none 0 0) rfl) ?_
  refine sqv (ex_assign (v := .int .i64 16) rfl) ?_
  show C _ _ _ _ _ _
  refine C_ret ?_
  refine thn_ret ?_
  refine done_2 (v1 := .slice none 0 0) (v2 := .int .i64 16) rfl rfl rfl ?_
  exact ⟨_, rfl, (by simpa only [List.append_nil, List.nil_append] using hT), (St.pickB (Lf := []) hS2 [] (by decide) rfl).less (fun _ h => absurd h (by simp))⟩
 exfalso; omega
theorem c_rSuspectsF (F : PrF) (s0 : Sh) (s : Value) (l : List Sh) (Z0 : List Fact) (w0 : World) (g0 : Acc F l s0) (g1 : ∀ s ∈ l, ∀ y ∈ s.p, y < B256) (g2 : l.length < 900) (g3 : ¬ s0.t < l.length) (hZ0 : Holds w0 Z0) (hs_s : Shs Z0 46 49 s l) : Calls Tryz.prog 16 #[s] w0 (Ret fun uu w' => uu = .tuple #[.slice none 0 0, .int .i64 16] ∧ St [] w0 w' [] []) := by
 have hF := g0.ok
 have hlen := sl_lt (f := cS) (k := 5) (fun _ => rfl) (by decide) hs_s.1
 have hl0 : 0 < l.length := (List.getElem?_eq_some_iff.1 g0.h0).1
 have hs0 := (List.getElem?_eq_some_iff.1 g0.h0).2
 have h0m : s0 ∈ l := List.mem_of_getElem? g0.h0
 have h0f := (g0.hd s0 h0m).1
 have hpl0 := sl_lt (f := el) (k := 4) (fun _ => rfl) (by decide) (hs_s.2 s0 h0m)
 refine calls_of Tryz.func16 rfl Tryz.ntmps16 (Nat.le_of_ble_eq_true rfl) ?_
 have hS0 := St.nil w0
 refine C_sr ?_
 refine sqv (ex_assign (v := .slice none 0 0) rfl) ?_
 refine sqv (ex_assign (v := .int .i64 0) rfl) ?_
 show C _ _ _ _ _ _
 refine C_sr ?_
 refine sqv (ex_move (v := s) rfl) ?_
 refine sqc (exe_call (args := #[s]) en27 (args_of1 rfl)) (c_rCheckShares s l Z0 w0 g1 (by omega) (hS0.holds0 hZ0) (hs_s)) ?_
 rintro _ W1 ⟨rfl, hT3⟩
 have hS2 := hS0.call hT3
 refine sqv (ex_assign (v := .int .i64 (ckShs l)) rfl) ?_
 show C _ _ _ _ _ _
 refine C_seq ?_
 refine C_sr ?_
 refine sqv (ex_move (v := .int .i64 (ckShs l)) rfl) ?_
 refine sqv (ex_cmp (x := (ckShs l)) (y := 0) (r := decide ((ckShs l) ≠ 0)) rfl rfl rfl) ?_
 show C _ _ _ _ _ _
 refine C_dec ((ckShs l) ≠ 0) rfl (fun hc5 => ?_) (fun hc5 => ?_)
 ·exact absurd g0.ck (by assumption)
 refine C_skip ?_
 show C _ _ _ _ _ _
 refine C_seq ?_
 refine C_sr ?_
 refine sqv (ex_move (v := s) rfl) ?_
 refine sqv (ex_lenO (f := cS) (k := 5) (r := (l.length : Int)) (fun _ => rfl) (by decide) ((hs_s).1) rfl sl22 rfl) ?_
 refine sqv (ex_move (v := s) rfl) ?_
 obtain ⟨b6, o7, hI8, hC9⟩ := sl_at (f := cS) (k := 5) (fun _ => rfl) (by decide) ((hs_s).1) g0.h0
 refine sqv (ex_sindexO hI8 rfl rfl sl22 (by omega)) ?_
 refine sqv (ex_field (o' := (o7 + 1)) rfl fi46_1 rfl) ?_
 refine sqv (ex_loadC (r := 1) (u := .int .i64 s0.t) hC9 (hS2.holds0 hZ0) rfl on3 rfl rfl) ?_
 refine sqv (ex_cmp (x := (l.length : Int)) (y := s0.t) (r := decide ((l.length : Int) ≤ s0.t)) rfl rfl rfl) ?_
 show C _ _ _ _ _ _
 refine C_dec ((l.length : Int) ≤ s0.t) rfl (fun hc10 => ?_) (fun hc10 => ?_)
 ·refine C_sr ?_
  refine sqv (ex_assign (v := .slice none 0 0) rfl) ?_
  refine sqv (ex_assign (v := .int .i64 16) rfl) ?_
  show C _ _ _ _ _ _
  refine C_ret ?_
  refine thn_ret ?_
  refine done_2 (v1 := .slice none 0 0) (v2 := .int .i64 16) rfl rfl rfl ?_
  exact ⟨rfl, hS2.none⟩
 exfalso; omega
theorem c_rSuspectsE  (s : Value) (l : List Sh) (Z0 : List Fact) (w0 : World) (g0 : ckShs l ≠ 0) (g1 : ∀ s ∈ l, ∀ y ∈ s.p, y < B256) (g2 : l.length < 900) (hZ0 : Holds w0 Z0) (hs_s : Shs Z0 46 49 s l) : Calls Tryz.prog 16 #[s] w0 (Ret fun uu w' => uu = .tuple #[.slice none 0 0, .int .i64 (ckShs l)] ∧ St [] w0 w' [] []) := by
 refine calls_of Tryz.func16 rfl Tryz.ntmps16 (Nat.le_of_ble_eq_true rfl) ?_
 have hS0 := St.nil w0
 refine C_sr ?_
 refine sqv (ex_assign (v := .slice none 0 0) rfl) ?_
 refine sqv (ex_assign (v := .int .i64 0) rfl) ?_
 show C _ _ _ _ _ _
 refine C_sr ?_
 refine sqv (ex_move (v := s) rfl) ?_
 refine sqc (exe_call (args := #[s]) en27 (args_of1 rfl)) (c_rCheckShares s l Z0 w0 g1 (by omega) (hS0.holds0 hZ0) (hs_s)) ?_
 rintro _ W1 ⟨rfl, hT3⟩
 have hS2 := hS0.call hT3
 refine sqv (ex_assign (v := .int .i64 (ckShs l)) rfl) ?_
 show C _ _ _ _ _ _
 refine C_seq ?_
 refine C_sr ?_
 refine sqv (ex_move (v := .int .i64 (ckShs l)) rfl) ?_
 refine sqv (ex_cmp (x := (ckShs l)) (y := 0) (r := decide ((ckShs l) ≠ 0)) rfl rfl rfl) ?_
 show C _ _ _ _ _ _
 refine C_dec ((ckShs l) ≠ 0) rfl (fun hc5 => ?_) (fun hc5 => ?_)
 ·refine C_sr ?_
  refine sqv (ex_move (v := .int .i64 (ckShs l)) rfl) ?_
  refine sqv (ex_assign (v := .slice none 0 0) rfl) ?_
  refine sqv (ex_assign (v := .int .i64 (ckShs l)) rfl) ?_
  show C _ _ _ _ _ _
  refine C_ret ?_
  refine thn_ret ?_
  refine done_2 (v1 := .slice none 0 0) (v2 := .int .i64 (ckShs l)) rfl rfl rfl ?_
  exact ⟨rfl, hS2.none⟩
 exact absurd g0 (by assumption)
theorem c_SuspectsG  (s : Value) (l : List Sh) (Z0 : List Fact) (t : Value) (ev : List Ev) (Lt : List Ent) (w0 : World) (g0 : ∀ s ∈ l, ∀ y ∈ s.p, y < B256) (g1 : l.length ≤ 12 ∧ ∀ s ∈ l, s.p.length ≤ 4) (g2 : ev.length < 1000000) (hZ0 : Holds w0 Z0) (hO0 : Off (bks Lt) Z0) (hs_s : Shs Z0 46 49 s l) (hG : Cells Z0 0 0 gC) (hT : Tp t ev Lt) (hL0 : St (bks Lt) w0 w0 Lt []) : Calls Tryz.prog 15 #[t, s] w0 (Ret fun uu w' => ∃ (v : Value), ∃ (en : Ent), ∃ (Lt' : List Ent), uu = .tuple #[v, .int .i64 (susE l)] ∧ (Own 3 1 cI v (susX l) en) ∧ Tp t (ev ++ (susEv l)) Lt' ∧ St (bks Lt) w0 w' ([en] ++ Lt') []) := by
 have hpl : ∀ s ∈ l, s.p.length < 100000 := fun s hs => by have := g1.2 s hs; omega
 by_cases h : ckShs l = 0
 ·obtain ⟨s0, ha⟩ := acc_of h
  have h0 := hpl s0 (List.mem_of_getElem? ha.h0)
  have h4 := g1.2 s0 (List.mem_of_getElem? ha.h0)
  by_cases ht : s0.t < l.length
  ·obtain ⟨e1, e2, e3⟩ := sus_ok h ha.h0 ht
   rw [e1, e2, e3]
   exact c_Suspects (fieldOf' s0.f) s0 s l Z0 t ev Lt w0 ha g0 (by omega) ht (by have := Nat.mul_le_mul (show l.length ≤ 12 from g1.1) (show s0.p.length * 2000000 + 1 ≤ 8000001 by omega); omega) h0 hZ0 hO0 hs_s hG hT hL0
  obtain ⟨e1, e2, e3⟩ := sus_few h ha.h0 ht
  rw [e1, e2, e3]
  refine (c_SuspectsF (fieldOf' s0.f) s0 s l Z0 t ev Lt w0 ha g0 (by omega) ht hZ0 hO0 hs_s hG hT hL0).mono fun e w' he => ?_
  cases e with
  | panicked => exact he
  | outgrown => exact he
  | returned u => obtain ⟨Lt', rfl, h1, h2⟩ := he; exact ⟨_, none, Lt', rfl, Own.nil _ _ _, h1, h2.non⟩
 obtain ⟨e1, e2, e3⟩ := sus_err h
 rw [e1, e2, e3]
 refine (c_SuspectsE s l Z0 t ev Lt w0 h g0 (by omega) hZ0 hO0 hs_s hG hT hL0).mono fun e w' he => ?_
 cases e with
 | panicked => exact he
 | outgrown => exact he
 | returned u => obtain ⟨Lt', rfl, h1, h2⟩ := he; exact ⟨_, none, Lt', rfl, Own.nil _ _ _, h1, h2.non⟩
theorem c_rSuspectsG  (s : Value) (l : List Sh) (Z0 : List Fact) (w0 : World) (g0 : ∀ s ∈ l, ∀ y ∈ s.p, y < B256) (g1 : l.length ≤ 12 ∧ ∀ s ∈ l, s.p.length ≤ 4) (hZ0 : Holds w0 Z0) (hs_s : Shs Z0 46 49 s l) : Calls Tryz.prog 16 #[s] w0 (Ret fun uu w' => ∃ (v : Value), ∃ (en : Ent), uu = .tuple #[v, .int .i64 (susE l)] ∧ (Own 3 1 cI v (susX l) en) ∧ St [] w0 w' [en] []) := by
 have hpl : ∀ s ∈ l, s.p.length < 100000 := fun s hs => by have := g1.2 s hs; omega
 by_cases h : ckShs l = 0
 ·obtain ⟨s0, ha⟩ := acc_of h
  have h0 := hpl s0 (List.mem_of_getElem? ha.h0)
  have h4 := g1.2 s0 (List.mem_of_getElem? ha.h0)
  by_cases ht : s0.t < l.length
  ·obtain ⟨e1, e2, e3⟩ := sus_ok h ha.h0 ht
   rw [e1, e2]
   exact c_rSuspects (fieldOf' s0.f) s0 s l Z0 w0 ha g0 (by omega) ht (by omega) hZ0 hs_s
  obtain ⟨e1, e2, e3⟩ := sus_few h ha.h0 ht
  rw [e1, e2]
  refine (c_rSuspectsF (fieldOf' s0.f) s0 s l Z0 w0 ha g0 (by omega) ht hZ0 hs_s).mono fun e w' he => ?_
  cases e with
  | panicked => exact he
  | outgrown => exact he
  | returned u => obtain ⟨rfl, h2⟩ := he; exact ⟨_, none, rfl, Own.nil _ _ _, h2.non⟩
 obtain ⟨e1, e2, e3⟩ := sus_err h
 rw [e1, e2]
 refine (c_rSuspectsE s l Z0 w0 h g0 (by omega) hZ0 hs_s).mono fun e w' he => ?_
 cases e with
 | panicked => exact he
 | outgrown => exact he
 | returned u => obtain ⟨rfl, h2⟩ := he; exact ⟨_, none, rfl, Own.nil _ _ _, h2.non⟩
end Go.Proofs
end
section
set_option linter.unusedVariables false
set_option linter.unusedSimpArgs false
set_option maxRecDepth 20000
set_option maxHeartbeats 2000000
namespace Go.Proofs
open Sc
theorem en15 : enters Tryz.prog 15 = true := by kernel_rfl
theorem en17 : enters Tryz.prog 17 = true := by kernel_rfl
theorem en24 : enters Tryz.prog 24 = true := by kernel_rfl
theorem en38 : enters Tryz.prog 38 = true := by kernel_rfl
theorem en49 : enters Tryz.prog 49 = true := by kernel_rfl
theorem en50 : enters Tryz.prog 50 = true := by kernel_rfl
theorem rForm_lt1 (v : Nat) : rForm F1.p v < F1.p := rMul_lt (by decide)
theorem acc_alive {v1 v2 v3 : Value} {a b c : Nat} (ha : a < F1.p) (hb : b < F1.p) (hc : c < F1.p) : Acc F1 [⟨1, 2, 1, 1, v1, [a]⟩, ⟨1, 2, 2, 1, v2, [b]⟩, ⟨1, 2, 3, 1, v3, [c]⟩] ⟨1, 2, 1, 1, v1, [a]⟩ := by
 have hck : ckShs [⟨1, 2, 1, 1, v1, [a]⟩, ⟨1, 2, 2, 1, v2, [b]⟩, ⟨1, 2, 3, 1, v3, [c]⟩] = 0 := by
   refine ckShs_iff.2 ⟨⟨1, 2, 1, 1, v1, [a]⟩, rfl, fun s hs => ?_, by simp [idxL], by simp⟩
   have key : ∀ (i : Int) (v : Value) (x : Nat), x < F1.p → 1 ≤ i ∧ i ≤ 255 → ckSh ⟨1, 2, i, 1, v, [x]⟩ = 0 := by
     intro i v x hx hi
     have hfo : fieldOf' 1 = F1 := rfl
     unfold ckSh
     simp only [hfo]
     rw [if_neg (by simp), if_neg (by simp), if_neg (by simpa using hi), if_neg (by simp), if_neg (by simp [cntI]), if_pos (by simpa using hx)]
   simp only [List.mem_cons, List.not_mem_nil, or_false] at hs
   rcases hs with rfl | rfl | rfl
   · exact ⟨key _ _ _ ha (by decide), rfl, rfl, rfl⟩
   · exact ⟨key _ _ _ hb (by decide), rfl, rfl, rfl⟩
   · exact ⟨key _ _ _ hc (by decide), rfl, rfl, rfl⟩
 obtain ⟨s0, h⟩ := acc_of hck
 obtain rfl : (⟨1, 2, 1, 1, v1, [a]⟩ : Sh) = s0 := Option.some.inj h.h0
 exact h
theorem all_alive {v1 v2 v3 : Value} {a b c : Nat} (ha : a < F1.p) (hb : b < F1.p) (hc : c < F1.p) : ∀ s ∈ ([⟨1, 2, 1, 1, v1, [a]⟩, ⟨1, 2, 2, 1, v2, [b]⟩, ⟨1, 2, 3, 1, v3, [c]⟩] : List Sh), ∀ y ∈ s.p, y < B256 :=
  fun s hs y hy => Nat.lt_trans ((acc_alive ha hb hc).lt s hs y hy) (f_lt (.inl rfl))
theorem small_alive {v1 v2 v3 : Value} {a b c : Nat} : ([⟨1, 2, 1, 1, v1, [a]⟩, ⟨1, 2, 2, 1, v2, [b]⟩, ⟨1, 2, 3, 1, v3, [c]⟩] : List Sh).length ≤ 12 ∧ ∀ s ∈ ([⟨1, 2, 1, 1, v1, [a]⟩, ⟨1, 2, 2, 1, v2, [b]⟩, ⟨1, 2, 3, 1, v3, [c]⟩] : List Sh), s.p.length ≤ 4 := by
 refine ⟨by show 3 ≤ 12; omega, fun s hs => ?_⟩
 simp only [List.mem_cons, List.not_mem_nil, or_false] at hs
 rcases hs with rfl | rfl | rfl <;> exact (by show 1 ≤ 4; omega)
theorem con_alive1 {v1 v2 v3 : Value} : conB F1 [⟨1, 2, 1, 1, v1, [rForm F1.p 8]⟩, ⟨1, 2, 2, 1, v2, [rForm F1.p 11]⟩, ⟨1, 2, 3, 1, v3, [rForm F1.p 14]⟩] 2 1 = true := by
 have h := Sm.fit_alive1
 have e : conB F1 [⟨1, 2, 1, 1, v1, [rForm F1.p 8]⟩, ⟨1, 2, 2, 1, v2, [rForm F1.p 11]⟩, ⟨1, 2, 3, 1, v3, [rForm F1.p 14]⟩] 2 1 = (fitB F1 [1, 2, 3] [rForm F1.p 8, rForm F1.p 11, rForm F1.p 14] 2 && true) := by rw [conB, show List.range 1 = [0] from rfl, List.all_cons, List.all_nil]; congr 1
 rw [e, h]; rfl
theorem chu_alive2 {v1 v2 v3 : Value} : chuL F1 [⟨1, 2, 1, 1, v1, [rForm F1.p 8]⟩, ⟨1, 2, 2, 1, v2, [rForm F1.p 11]⟩, ⟨1, 2, 3, 1, v3, [rForm F1.p 15]⟩] 2 1 = [false] := by
 have h := Sm.fit_alive2
 have e : chuL F1 [⟨1, 2, 1, 1, v1, [rForm F1.p 8]⟩, ⟨1, 2, 2, 1, v2, [rForm F1.p 11]⟩, ⟨1, 2, 3, 1, v3, [rForm F1.p 15]⟩] 2 1 = [fitB F1 [1, 2, 3] [rForm F1.p 8, rForm F1.p 11, rForm F1.p 15] 2] := by rw [chuL, show List.range 1 = [0] from rfl, List.map_cons, List.map_nil]; congr 1
 rw [e, h]
theorem con_alive2 {v1 v2 v3 : Value} : conB F1 [⟨1, 2, 1, 1, v1, [rForm F1.p 8]⟩, ⟨1, 2, 2, 1, v2, [rForm F1.p 11]⟩, ⟨1, 2, 3, 1, v3, [rForm F1.p 15]⟩] 2 1 = false := by
 have h := Sm.fit_alive2
 have e : conB F1 [⟨1, 2, 1, 1, v1, [rForm F1.p 8]⟩, ⟨1, 2, 2, 1, v2, [rForm F1.p 11]⟩, ⟨1, 2, 3, 1, v3, [rForm F1.p 15]⟩] 2 1 = (fitB F1 [1, 2, 3] [rForm F1.p 8, rForm F1.p 11, rForm F1.p 15] 2 && true) := by rw [conB, show List.range 1 = [0] from rfl, List.all_cons, List.all_nil]; congr 1
 rw [e, h]; rfl
theorem con_full {F : PrF} (hF : FOk F) {l : List Sh} {K m : Nat} (h : l.length ≤ K) : conB F l K m = true := by
 haveI := Sm.neF hF
 exact List.all_eq_true.2 fun k _ => Sm.fit_full hF _ (by rw [idxL_len]; exact h)
theorem sus_alive {v1 v2 v3 : Value} {a b c : Nat} (ha : a < F1.p) (hb : b < F1.p) (hc : c < F1.p) : susX [⟨1, 2, 1, 1, v1, [a]⟩, ⟨1, 2, 2, 1, v2, [b]⟩, ⟨1, 2, 3, 1, v3, [c]⟩] = [0, 1, 2] ∧ susE [⟨1, 2, 1, 1, v1, [a]⟩, ⟨1, 2, 2, 1, v2, [b]⟩, ⟨1, 2, 3, 1, v3, [c]⟩] = 0 := by
 have h := acc_alive (v1 := v1) (v2 := v2) (v3 := v3) ha hb hc
 obtain ⟨e1, e2, _⟩ := sus_ok h.ck h.h0 (by show (2 : Int) < 3; omega)
 refine ⟨?_, e2⟩
 rw [e1]
 have hF : FOk F1 := .inl rfl
 have key : ∀ i, i < 3 → conB F1 (omitL [⟨1, 2, 1, 1, v1, [a]⟩, ⟨1, 2, 2, 1, v2, [b]⟩, ⟨1, 2, 3, 1, v3, [c]⟩] i) ((2 : Nat) : Int) 1 = true := fun i hi => con_full hF (by have := omit_len (l := [⟨1, 2, 1, 1, v1, [a]⟩, ⟨1, 2, 2, 1, v2, [b]⟩, ⟨1, 2, 3, 1, v3, [c]⟩]) (i := i) (by exact hi); simp only [List.length_cons, List.length_nil] at this; omega)
 show ((([] ++ (if conB F1 (omitL _ 0) ((2 : Nat) : Int) 1 = true then [((0 : Nat) : Int)] else [])) ++ (if conB F1 (omitL _ 1) ((2 : Nat) : Int) 1 = true then [((1 : Nat) : Int)] else [])) ++ (if conB F1 (omitL _ 2) ((2 : Nat) : Int) 1 = true then [((2 : Nat) : Int)] else [])) = [0, 1, 2]
 rw [if_pos (key 0 (by omega)), if_pos (key 1 (by omega)), if_pos (key 2 (by omega))]; rfl
theorem c_alive18  (Z0 : List Fact) (w0 : World)  (hZ0 : Holds w0 Z0) (hG : Cells Z0 0 0 gC) : Calls Tryz.prog 14 #[] w0 (Ret fun uu w' => uu = .bool true ∧ St [] w0 w' [] []) := by
 refine calls_of Tryz.func14 rfl Tryz.ntmps14 (Nat.le_of_ble_eq_true rfl) ?_
 have hS0 := St.nil w0
 refine C_sr ?_
 refine sqv (ex_assign (v := .bool false) rfl) ?_
 show C _ _ _ _ _ _
 refine C_sr ?_
 refine sqc (exe_call (args := #[.int .i64 1]) en20 (args_of1 rfl)) (c_Modulus F1 1 w0 (.inl rfl) rfl) ?_
 rintro _ W1 ⟨rfl, hT3⟩
 have hS2 := hS0.call hT3
 refine sqE (st_alloc hS2 ze40) fun b5 W6 hS7 => ?_
 refine sqUE (st_stores (v := elV F1.p) (cs' := (elA (F1.p))) 0 hS7 rfl rfl rfl ag40 rfl (Nat.le_of_ble_eq_true rfl) (ones_of rfl) rfl) fun W8 hS9 => ?_
 show C _ _ _ _ _ _
 refine C_sr ?_
 refine sqv (ex_func (a := #[]) (b := #[pt b5]) args_of0 (args_of1 rfl)) ?_
 refine sqv (ex_assign (v := .func (.func 49) #[] #[pt b5]) rfl) ?_
 show C _ _ _ _ _ _
 refine C_sr ?_
 refine sqv (ex_move (v := .func (.func 49) #[] #[pt b5]) rfl) ?_
 refine sqc_in (exe_closure (args := #[.int .i64 1, .int .u64 8, pt b5]) rfl en49 (clo (args_of2 rfl rfl))) fun R10 hR11 => ?_
 refine calls_of Tryz.func49 rfl Tryz.ntmps49 (Nat.le_of_ble_eq_true rfl) ?_
 refine C_sr ?_
 refine sqE (st_alloc hS9 ze46) fun b12 W13 hS14 => ?_
 show C _ _ _ _ _ _
 refine C_sr ?_
 refine sqv (ex_move (v := .int .i64 1) rfl) ?_
 refine sqv (ex_loads (vs := (el (F1.p))) rfl (hS14.at 1 rfl) ag40 rfl rfl) ?_
 refine sqv (ex_move (v := .int .u64 8) rfl) ?_
 refine sqv (ex_build (vs := [(0, .int .u64 8)]) (cells := #[.int .u64 8, .int .u64 0, .int .u64 0, .int .u64 0]) rfl (by kernel_rfl)) ?_
 refine sqc (exe_call (args := #[elV F1.p, .agg #[.int .u64 8, .int .u64 0, .int .u64 0, .int .u64 0]]) en38 (args_of2 rfl rfl)) (c_rForm F1.p 8 W13 (f_lt (.inl rfl)) (by decide) (by decide)) ?_
 rintro _ W15 ⟨rfl, hT17⟩
 have hS16 := hS14.call hT17
 refine sqE (st_bslice (vs := [elV (rForm F1.p 8)]) hS16 sl44 ze49 rfl (by simp [Value.cells, elV, el]) rfl (by decide)) fun b19 W20 hS21 => ?_
 refine sqv (ex_build (vs := [(0, .int .i64 1), (1, .int .i64 2), (2, .int .i64 1), (3, .int .i64 1), (4, .slice (so b19) 1 1)]) (cells := #[.int .i64 1, .int .i64 2, .int .i64 1, .int .i64 1, .slice (so b19) 1 1]) rfl (by kernel_rfl)) ?_
 refine sqUE (st_stores (v := .agg #[.int .i64 1, .int .i64 2, .int .i64 1, .int .i64 1, .slice (so b19) 1 1]) (cs' := #[.int .i64 1, .int .i64 2, .int .i64 1, .int .i64 1, .slice (so b19) 1 1]) 1 hS21 rfl rfl rfl ag46 rfl (Nat.le_of_ble_eq_true rfl) (ones_of rfl) rfl) fun W22 hS23 => ?_
 show C _ _ _ _ _ _
 refine C_ret ?_
 refine done_1 (v := .agg #[.int .i64 1, .int .i64 2, .int .i64 1, .int .i64 1, .slice (so b19) 1 1]) rfl (res_row rfl (hS23.at 1 rfl) ag46 rfl) ?_
 refine hR11 _ _ ?_
 refine sqv (ex_move (v := .func (.func 49) #[] #[pt b5]) rfl) ?_
 refine sqc_in (exe_closure (args := #[.int .i64 2, .int .u64 11, pt b5]) rfl en49 (clo (args_of2 rfl rfl))) fun R24 hR25 => ?_
 refine calls_of Tryz.func49 rfl Tryz.ntmps49 (Nat.le_of_ble_eq_true rfl) ?_
 refine C_sr ?_
 refine sqE (st_alloc hS23 ze46) fun b26 W27 hS28 => ?_
 show C _ _ _ _ _ _
 refine C_sr ?_
 refine sqv (ex_move (v := .int .i64 2) rfl) ?_
 refine sqv (ex_loads (vs := (el (F1.p))) rfl (hS28.at 3 rfl) ag40 rfl rfl) ?_
 refine sqv (ex_move (v := .int .u64 11) rfl) ?_
 refine sqv (ex_build (vs := [(0, .int .u64 11)]) (cells := #[.int .u64 11, .int .u64 0, .int .u64 0, .int .u64 0]) rfl (by kernel_rfl)) ?_
 refine sqc (exe_call (args := #[elV F1.p, .agg #[.int .u64 11, .int .u64 0, .int .u64 0, .int .u64 0]]) en38 (args_of2 rfl rfl)) (c_rForm F1.p 11 W27 (f_lt (.inl rfl)) (by decide) (by decide)) ?_
 rintro _ W29 ⟨rfl, hT31⟩
 have hS30 := hS28.call hT31
 refine sqE (st_bslice (vs := [elV (rForm F1.p 11)]) hS30 sl44 ze49 rfl (by simp [Value.cells, elV, el]) rfl (by decide)) fun b33 W34 hS35 => ?_
 refine sqv (ex_build (vs := [(0, .int .i64 1), (1, .int .i64 2), (2, .int .i64 2), (3, .int .i64 1), (4, .slice (so b33) 1 1)]) (cells := #[.int .i64 1, .int .i64 2, .int .i64 2, .int .i64 1, .slice (so b33) 1 1]) rfl (by kernel_rfl)) ?_
 refine sqUE (st_stores (v := .agg #[.int .i64 1, .int .i64 2, .int .i64 2, .int .i64 1, .slice (so b33) 1 1]) (cs' := #[.int .i64 1, .int .i64 2, .int .i64 2, .int .i64 1, .slice (so b33) 1 1]) 1 hS35 rfl rfl rfl ag46 rfl (Nat.le_of_ble_eq_true rfl) (ones_of rfl) rfl) fun W36 hS37 => ?_
 show C _ _ _ _ _ _
 refine C_ret ?_
 refine done_1 (v := .agg #[.int .i64 1, .int .i64 2, .int .i64 2, .int .i64 1, .slice (so b33) 1 1]) rfl (res_row rfl (hS37.at 1 rfl) ag46 rfl) ?_
 refine hR25 _ _ ?_
 refine sqv (ex_move (v := .func (.func 49) #[] #[pt b5]) rfl) ?_
 refine sqc_in (exe_closure (args := #[.int .i64 3, .int .u64 14, pt b5]) rfl en49 (clo (args_of2 rfl rfl))) fun R38 hR39 => ?_
 refine calls_of Tryz.func49 rfl Tryz.ntmps49 (Nat.le_of_ble_eq_true rfl) ?_
 refine C_sr ?_
 refine sqE (st_alloc hS37 ze46) fun b40 W41 hS42 => ?_
 show C _ _ _ _ _ _
 refine C_sr ?_
 refine sqv (ex_move (v := .int .i64 3) rfl) ?_
 refine sqv (ex_loads (vs := (el (F1.p))) rfl (hS42.at 5 rfl) ag40 rfl rfl) ?_
 refine sqv (ex_move (v := .int .u64 14) rfl) ?_
 refine sqv (ex_build (vs := [(0, .int .u64 14)]) (cells := #[.int .u64 14, .int .u64 0, .int .u64 0, .int .u64 0]) rfl (by kernel_rfl)) ?_
 refine sqc (exe_call (args := #[elV F1.p, .agg #[.int .u64 14, .int .u64 0, .int .u64 0, .int .u64 0]]) en38 (args_of2 rfl rfl)) (c_rForm F1.p 14 W41 (f_lt (.inl rfl)) (by decide) (by decide)) ?_
 rintro _ W43 ⟨rfl, hT45⟩
 have hS44 := hS42.call hT45
 refine sqE (st_bslice (vs := [elV (rForm F1.p 14)]) hS44 sl44 ze49 rfl (by simp [Value.cells, elV, el]) rfl (by decide)) fun b47 W48 hS49 => ?_
 refine sqv (ex_build (vs := [(0, .int .i64 1), (1, .int .i64 2), (2, .int .i64 3), (3, .int .i64 1), (4, .slice (so b47) 1 1)]) (cells := #[.int .i64 1, .int .i64 2, .int .i64 3, .int .i64 1, .slice (so b47) 1 1]) rfl (by kernel_rfl)) ?_
 refine sqUE (st_stores (v := .agg #[.int .i64 1, .int .i64 2, .int .i64 3, .int .i64 1, .slice (so b47) 1 1]) (cs' := #[.int .i64 1, .int .i64 2, .int .i64 3, .int .i64 1, .slice (so b47) 1 1]) 1 hS49 rfl rfl rfl ag46 rfl (Nat.le_of_ble_eq_true rfl) (ones_of rfl) rfl) fun W50 hS51 => ?_
 show C _ _ _ _ _ _
 refine C_ret ?_
 refine done_1 (v := .agg #[.int .i64 1, .int .i64 2, .int .i64 3, .int .i64 1, .slice (so b47) 1 1]) rfl (res_row rfl (hS51.at 1 rfl) ag46 rfl) ?_
 refine hR39 _ _ ?_
 refine sqE (st_bslice (vs := [.agg #[.int .i64 1, .int .i64 2, .int .i64 1, .int .i64 1, .slice (so b19) 1 1], .agg #[.int .i64 1, .int .i64 2, .int .i64 2, .int .i64 1, .slice (so b33) 1 1], .agg #[.int .i64 1, .int .i64 2, .int .i64 3, .int .i64 1, .slice (so b47) 1 1]]) hS51 sl22 ze46 rfl (by simp [Value.cells]) rfl (by decide)) fun b52 W53 hS54 => ?_
 refine sqc (exe_call (args := #[.pointer none, .slice (so b52) 3 3]) en23 (args_of2 rfl rfl)) (c_Consistent F1 (⟨1, 2, 1, 1, (.slice (so b19) 1 1), [rForm F1.p 8]⟩ : Sh) (.slice (so b52) 3 3) ([⟨1, 2, 1, 1, (.slice (so b19) 1 1), [rForm F1.p 8]⟩, ⟨1, 2, 2, 1, (.slice (so b33) 1 1), [rForm F1.p 11]⟩, ⟨1, 2, 3, 1, (.slice (so b47) 1 1), [rForm F1.p 14]⟩]) (((entF (some (b52, .cells #[.int .i64 1, .int .i64 2, .int .i64 1, .int .i64 1, .slice (so b19) 1 1, .int .i64 1, .int .i64 2, .int .i64 2, .int .i64 1, .slice (so b33) 1 1, .int .i64 1, .int .i64 2, .int .i64 3, .int .i64 1, .slice (so b47) 1 1] 46))) ++ ((entF (some (b19, .cells (elA (rForm F1.p 8)) 49))) ++ ((entF (some (b33, .cells (elA (rForm F1.p 11)) 49))) ++ (entF (some (b47, .cells (elA (rForm F1.p 14)) 49)))))) ++ Z0) (.pointer none) ([]) ([]) W53 (acc_alive (rForm_lt1 _) (rForm_lt1 _) (rForm_lt1 _)) (all_alive (rForm_lt1 _) (rForm_lt1 _) (rForm_lt1 _)) (by show 3 < 900; omega) (by show 0 + 2000000 * 1 < 1099511627776; omega) (Holds.app ((Holds.app (hS54.entH 0 rfl) (Holds.app (hS54.entH 5 rfl) (Holds.app (hS54.entH 3 rfl) (hS54.entH 1 rfl))))) (hS54.holds0 hZ0)) (Off.app (Off.nil _) (Off.nil _)) (((shs_lit (sl_row (f := cS) (k := 5) (t := 46) (b := b52) (n := 3) (cs := #[.int .i64 1, .int .i64 2, .int .i64 1, .int .i64 1, .slice (so b19) 1 1, .int .i64 1, .int .i64 2, .int .i64 2, .int .i64 1, .slice (so b33) 1 1, .int .i64 1, .int .i64 2, .int .i64 3, .int .i64 1, .slice (so b47) 1 1]) (ys := [⟨1, 2, 1, 1, (.slice (so b19) 1 1), [rForm F1.p 8]⟩, ⟨1, 2, 2, 1, (.slice (so b33) 1 1), [rForm F1.p 11]⟩, ⟨1, 2, 3, 1, (.slice (so b47) 1 1), [rForm F1.p 14]⟩]) (fun _ => rfl) rfl (Nat.le_of_ble_eq_true rfl) rfl) (deep_cons (Sl.mono ((sl_row (f := el) (k := 4) (t := 49) (b := b19) (n := 1) (cs := (elA (rForm F1.p 8))) (ys := [rForm F1.p 8]) (fun _ => rfl) rfl (Nat.le_of_ble_eq_true rfl) rfl)) fun _ hp => List.mem_append_right _ (List.mem_append_left _ hp)) (deep_cons (Sl.mono ((sl_row (f := el) (k := 4) (t := 49) (b := b33) (n := 1) (cs := (elA (rForm F1.p 11))) (ys := [rForm F1.p 11]) (fun _ => rfl) rfl (Nat.le_of_ble_eq_true rfl) rfl)) fun _ hp => List.mem_append_right _ (List.mem_append_right _ (List.mem_append_left _ hp))) (deep_cons (Sl.mono ((sl_row (f := el) (k := 4) (t := 49) (b := b47) (n := 1) (cs := (elA (rForm F1.p 14))) (ys := [rForm F1.p 14]) (fun _ => rfl) rfl (Nat.le_of_ble_eq_true rfl) rfl)) fun _ hp => List.mem_append_right _ (List.mem_append_right _ (List.mem_append_right _ hp))) (fun s hs => absurd hs (by simp))))))).mono fun _ hp => (List.mem_append_left _ hp)) ((hG).mono fun _ hp => (List.mem_append_right _ hp)) (Tape.nil _ _ _ _) (St.nil _)) ?_
 rintro _ W55 ⟨Lt59, rfl, hU60, hT57⟩
 obtain rfl := tape_nil hU60
 have hS56 := St.call (Ln := []) hS54 hT57
 rw [show (conB F1 ([⟨1, 2, 1, 1, (.slice (so b19) 1 1), [rForm F1.p 8]⟩, ⟨1, 2, 2, 1, (.slice (so b33) 1 1), [rForm F1.p 11]⟩, ⟨1, 2, 3, 1, (.slice (so b47) 1 1), [rForm F1.p 14]⟩]) (⟨1, 2, 1, 1, (.slice (so b19) 1 1), [rForm F1.p 8]⟩ : Sh).t (⟨1, 2, 1, 1, (.slice (so b19) 1 1), [rForm F1.p 8]⟩ : Sh).p.length) = true from con_alive1]
 refine sqv (ex_move (v := .tuple #[.bool true, .int .i64 0]) rfl) ?_
 refine sqv (ex_extract (v := .bool true) rfl rfl) ?_
 refine sqv (ex_extract (v := .int .i64 0) rfl rfl) ?_
 refine sqv (ex_assign (v := .bool true) rfl) ?_
 refine sqv (ex_assign (v := .int .i64 0) rfl) ?_
 show C _ _ _ _ _ _
 refine C_sr ?_
 refine sqv (ex_move (v := .func (.func 49) #[] #[pt b5]) rfl) ?_
 refine sqc_in (exe_closure (args := #[.int .i64 1, .int .u64 8, pt b5]) rfl en49 (clo (args_of2 rfl rfl))) fun R61 hR62 => ?_
 refine calls_of Tryz.func49 rfl Tryz.ntmps49 (Nat.le_of_ble_eq_true rfl) ?_
 refine C_sr ?_
 refine sqE (st_alloc hS56 ze46) fun b63 W64 hS65 => ?_
 show C _ _ _ _ _ _
 refine C_sr ?_
 refine sqv (ex_move (v := .int .i64 1) rfl) ?_
 refine sqv (ex_loads (vs := (el (F1.p))) rfl (hS65.at 8 rfl) ag40 rfl rfl) ?_
 refine sqv (ex_move (v := .int .u64 8) rfl) ?_
 refine sqv (ex_build (vs := [(0, .int .u64 8)]) (cells := #[.int .u64 8, .int .u64 0, .int .u64 0, .int .u64 0]) rfl (by kernel_rfl)) ?_
 refine sqc (exe_call (args := #[elV F1.p, .agg #[.int .u64 8, .int .u64 0, .int .u64 0, .int .u64 0]]) en38 (args_of2 rfl rfl)) (c_rForm F1.p 8 W64 (f_lt (.inl rfl)) (by decide) (by decide)) ?_
 rintro _ W66 ⟨rfl, hT68⟩
 have hS67 := hS65.call hT68
 refine sqE (st_bslice (vs := [elV (rForm F1.p 8)]) hS67 sl44 ze49 rfl (by simp [Value.cells, elV, el]) rfl (by decide)) fun b70 W71 hS72 => ?_
 refine sqv (ex_build (vs := [(0, .int .i64 1), (1, .int .i64 2), (2, .int .i64 1), (3, .int .i64 1), (4, .slice (so b70) 1 1)]) (cells := #[.int .i64 1, .int .i64 2, .int .i64 1, .int .i64 1, .slice (so b70) 1 1]) rfl (by kernel_rfl)) ?_
 refine sqUE (st_stores (v := .agg #[.int .i64 1, .int .i64 2, .int .i64 1, .int .i64 1, .slice (so b70) 1 1]) (cs' := #[.int .i64 1, .int .i64 2, .int .i64 1, .int .i64 1, .slice (so b70) 1 1]) 1 hS72 rfl rfl rfl ag46 rfl (Nat.le_of_ble_eq_true rfl) (ones_of rfl) rfl) fun W73 hS74 => ?_
 show C _ _ _ _ _ _
 refine C_ret ?_
 refine done_1 (v := .agg #[.int .i64 1, .int .i64 2, .int .i64 1, .int .i64 1, .slice (so b70) 1 1]) rfl (res_row rfl (hS74.at 1 rfl) ag46 rfl) ?_
 refine hR62 _ _ ?_
 refine sqv (ex_move (v := .func (.func 49) #[] #[pt b5]) rfl) ?_
 refine sqc_in (exe_closure (args := #[.int .i64 2, .int .u64 11, pt b5]) rfl en49 (clo (args_of2 rfl rfl))) fun R75 hR76 => ?_
 refine calls_of Tryz.func49 rfl Tryz.ntmps49 (Nat.le_of_ble_eq_true rfl) ?_
 refine C_sr ?_
 refine sqE (st_alloc hS74 ze46) fun b77 W78 hS79 => ?_
 show C _ _ _ _ _ _
 refine C_sr ?_
 refine sqv (ex_move (v := .int .i64 2) rfl) ?_
 refine sqv (ex_loads (vs := (el (F1.p))) rfl (hS79.at 10 rfl) ag40 rfl rfl) ?_
 refine sqv (ex_move (v := .int .u64 11) rfl) ?_
 refine sqv (ex_build (vs := [(0, .int .u64 11)]) (cells := #[.int .u64 11, .int .u64 0, .int .u64 0, .int .u64 0]) rfl (by kernel_rfl)) ?_
 refine sqc (exe_call (args := #[elV F1.p, .agg #[.int .u64 11, .int .u64 0, .int .u64 0, .int .u64 0]]) en38 (args_of2 rfl rfl)) (c_rForm F1.p 11 W78 (f_lt (.inl rfl)) (by decide) (by decide)) ?_
 rintro _ W80 ⟨rfl, hT82⟩
 have hS81 := hS79.call hT82
 refine sqE (st_bslice (vs := [elV (rForm F1.p 11)]) hS81 sl44 ze49 rfl (by simp [Value.cells, elV, el]) rfl (by decide)) fun b84 W85 hS86 => ?_
 refine sqv (ex_build (vs := [(0, .int .i64 1), (1, .int .i64 2), (2, .int .i64 2), (3, .int .i64 1), (4, .slice (so b84) 1 1)]) (cells := #[.int .i64 1, .int .i64 2, .int .i64 2, .int .i64 1, .slice (so b84) 1 1]) rfl (by kernel_rfl)) ?_
 refine sqUE (st_stores (v := .agg #[.int .i64 1, .int .i64 2, .int .i64 2, .int .i64 1, .slice (so b84) 1 1]) (cs' := #[.int .i64 1, .int .i64 2, .int .i64 2, .int .i64 1, .slice (so b84) 1 1]) 1 hS86 rfl rfl rfl ag46 rfl (Nat.le_of_ble_eq_true rfl) (ones_of rfl) rfl) fun W87 hS88 => ?_
 show C _ _ _ _ _ _
 refine C_ret ?_
 refine done_1 (v := .agg #[.int .i64 1, .int .i64 2, .int .i64 2, .int .i64 1, .slice (so b84) 1 1]) rfl (res_row rfl (hS88.at 1 rfl) ag46 rfl) ?_
 refine hR76 _ _ ?_
 refine sqv (ex_move (v := .func (.func 49) #[] #[pt b5]) rfl) ?_
 refine sqc_in (exe_closure (args := #[.int .i64 3, .int .u64 15, pt b5]) rfl en49 (clo (args_of2 rfl rfl))) fun R89 hR90 => ?_
 refine calls_of Tryz.func49 rfl Tryz.ntmps49 (Nat.le_of_ble_eq_true rfl) ?_
 refine C_sr ?_
 refine sqE (st_alloc hS88 ze46) fun b91 W92 hS93 => ?_
 show C _ _ _ _ _ _
 refine C_sr ?_
 refine sqv (ex_move (v := .int .i64 3) rfl) ?_
 refine sqv (ex_loads (vs := (el (F1.p))) rfl (hS93.at 12 rfl) ag40 rfl rfl) ?_
 refine sqv (ex_move (v := .int .u64 15) rfl) ?_
 refine sqv (ex_build (vs := [(0, .int .u64 15)]) (cells := #[.int .u64 15, .int .u64 0, .int .u64 0, .int .u64 0]) rfl (by kernel_rfl)) ?_
 refine sqc (exe_call (args := #[elV F1.p, .agg #[.int .u64 15, .int .u64 0, .int .u64 0, .int .u64 0]]) en38 (args_of2 rfl rfl)) (c_rForm F1.p 15 W92 (f_lt (.inl rfl)) (by decide) (by decide)) ?_
 rintro _ W94 ⟨rfl, hT96⟩
 have hS95 := hS93.call hT96
 refine sqE (st_bslice (vs := [elV (rForm F1.p 15)]) hS95 sl44 ze49 rfl (by simp [Value.cells, elV, el]) rfl (by decide)) fun b98 W99 hS100 => ?_
 refine sqv (ex_build (vs := [(0, .int .i64 1), (1, .int .i64 2), (2, .int .i64 3), (3, .int .i64 1), (4, .slice (so b98) 1 1)]) (cells := #[.int .i64 1, .int .i64 2, .int .i64 3, .int .i64 1, .slice (so b98) 1 1]) rfl (by kernel_rfl)) ?_
 refine sqUE (st_stores (v := .agg #[.int .i64 1, .int .i64 2, .int .i64 3, .int .i64 1, .slice (so b98) 1 1]) (cs' := #[.int .i64 1, .int .i64 2, .int .i64 3, .int .i64 1, .slice (so b98) 1 1]) 1 hS100 rfl rfl rfl ag46 rfl (Nat.le_of_ble_eq_true rfl) (ones_of rfl) rfl) fun W101 hS102 => ?_
 show C _ _ _ _ _ _
 refine C_ret ?_
 refine done_1 (v := .agg #[.int .i64 1, .int .i64 2, .int .i64 3, .int .i64 1, .slice (so b98) 1 1]) rfl (res_row rfl (hS102.at 1 rfl) ag46 rfl) ?_
 refine hR90 _ _ ?_
 refine sqE (st_bslice (vs := [.agg #[.int .i64 1, .int .i64 2, .int .i64 1, .int .i64 1, .slice (so b70) 1 1], .agg #[.int .i64 1, .int .i64 2, .int .i64 2, .int .i64 1, .slice (so b84) 1 1], .agg #[.int .i64 1, .int .i64 2, .int .i64 3, .int .i64 1, .slice (so b98) 1 1]]) hS102 sl22 ze46 rfl (by simp [Value.cells]) rfl (by decide)) fun b103 W104 hS105 => ?_
 refine sqv (ex_assign (v := .slice (so b103) 3 3) rfl) ?_
 show C _ _ _ _ _ _
 refine C_sr ?_
 refine sqv (ex_move (v := .slice (so b103) 3 3) rfl) ?_
 refine sqc (exe_call (args := #[.pointer none, .slice (so b103) 3 3]) en23 (args_of2 rfl rfl)) (c_Consistent F1 (⟨1, 2, 1, 1, (.slice (so b70) 1 1), [rForm F1.p 8]⟩ : Sh) (.slice (so b103) 3 3) ([⟨1, 2, 1, 1, (.slice (so b70) 1 1), [rForm F1.p 8]⟩, ⟨1, 2, 2, 1, (.slice (so b84) 1 1), [rForm F1.p 11]⟩, ⟨1, 2, 3, 1, (.slice (so b98) 1 1), [rForm F1.p 15]⟩]) (((entF (some (b103, .cells #[.int .i64 1, .int .i64 2, .int .i64 1, .int .i64 1, .slice (so b70) 1 1, .int .i64 1, .int .i64 2, .int .i64 2, .int .i64 1, .slice (so b84) 1 1, .int .i64 1, .int .i64 2, .int .i64 3, .int .i64 1, .slice (so b98) 1 1] 46))) ++ ((entF (some (b70, .cells (elA (rForm F1.p 8)) 49))) ++ ((entF (some (b84, .cells (elA (rForm F1.p 11)) 49))) ++ (entF (some (b98, .cells (elA (rForm F1.p 15)) 49)))))) ++ Z0) (.pointer none) ([]) ([]) W104 (acc_alive (rForm_lt1 _) (rForm_lt1 _) (rForm_lt1 _)) (all_alive (rForm_lt1 _) (rForm_lt1 _) (rForm_lt1 _)) (by show 3 < 900; omega) (by show 0 + 2000000 * 1 < 1099511627776; omega) (Holds.app ((Holds.app (hS105.entH 0 rfl) (Holds.app (hS105.entH 5 rfl) (Holds.app (hS105.entH 3 rfl) (hS105.entH 1 rfl))))) (hS105.holds0 hZ0)) (Off.app (Off.nil _) (Off.nil _)) (((shs_lit (sl_row (f := cS) (k := 5) (t := 46) (b := b103) (n := 3) (cs := #[.int .i64 1, .int .i64 2, .int .i64 1, .int .i64 1, .slice (so b70) 1 1, .int .i64 1, .int .i64 2, .int .i64 2, .int .i64 1, .slice (so b84) 1 1, .int .i64 1, .int .i64 2, .int .i64 3, .int .i64 1, .slice (so b98) 1 1]) (ys := [⟨1, 2, 1, 1, (.slice (so b70) 1 1), [rForm F1.p 8]⟩, ⟨1, 2, 2, 1, (.slice (so b84) 1 1), [rForm F1.p 11]⟩, ⟨1, 2, 3, 1, (.slice (so b98) 1 1), [rForm F1.p 15]⟩]) (fun _ => rfl) rfl (Nat.le_of_ble_eq_true rfl) rfl) (deep_cons (Sl.mono ((sl_row (f := el) (k := 4) (t := 49) (b := b70) (n := 1) (cs := (elA (rForm F1.p 8))) (ys := [rForm F1.p 8]) (fun _ => rfl) rfl (Nat.le_of_ble_eq_true rfl) rfl)) fun _ hp => List.mem_append_right _ (List.mem_append_left _ hp)) (deep_cons (Sl.mono ((sl_row (f := el) (k := 4) (t := 49) (b := b84) (n := 1) (cs := (elA (rForm F1.p 11))) (ys := [rForm F1.p 11]) (fun _ => rfl) rfl (Nat.le_of_ble_eq_true rfl) rfl)) fun _ hp => List.mem_append_right _ (List.mem_append_right _ (List.mem_append_left _ hp))) (deep_cons (Sl.mono ((sl_row (f := el) (k := 4) (t := 49) (b := b98) (n := 1) (cs := (elA (rForm F1.p 15))) (ys := [rForm F1.p 15]) (fun _ => rfl) rfl (Nat.le_of_ble_eq_true rfl) rfl)) fun _ hp => List.mem_append_right _ (List.mem_append_right _ (List.mem_append_right _ hp))) (fun s hs => absurd hs (by simp))))))).mono fun _ hp => (List.mem_append_left _ hp)) ((hG).mono fun _ hp => (List.mem_append_right _ hp)) (Tape.nil _ _ _ _) (St.nil _)) ?_
 rintro _ W106 ⟨Lt110, rfl, hU111, hT108⟩
 obtain rfl := tape_nil hU111
 have hS107 := St.call (Ln := []) hS105 hT108
 rw [show (conB F1 ([⟨1, 2, 1, 1, (.slice (so b70) 1 1), [rForm F1.p 8]⟩, ⟨1, 2, 2, 1, (.slice (so b84) 1 1), [rForm F1.p 11]⟩, ⟨1, 2, 3, 1, (.slice (so b98) 1 1), [rForm F1.p 15]⟩]) (⟨1, 2, 1, 1, (.slice (so b70) 1 1), [rForm F1.p 8]⟩ : Sh).t (⟨1, 2, 1, 1, (.slice (so b70) 1 1), [rForm F1.p 8]⟩ : Sh).p.length) = false from con_alive2]
 refine sqv (ex_move (v := .tuple #[.bool false, .int .i64 0]) rfl) ?_
 refine sqv (ex_extract (v := .bool false) rfl rfl) ?_
 refine sqv (ex_extract (v := .int .i64 0) rfl rfl) ?_
 refine sqv (ex_assign (v := .bool false) rfl) ?_
 refine sqv (ex_assign (v := .int .i64 0) rfl) ?_
 show C _ _ _ _ _ _
 refine C_sr ?_
 refine sqv (ex_move (v := .slice (so b103) 3 3) rfl) ?_
 refine sqc (exe_call (args := #[.pointer none, .slice (so b103) 3 3]) en15 (args_of2 rfl rfl)) (c_SuspectsG (.slice (so b103) 3 3) ([⟨1, 2, 1, 1, (.slice (so b70) 1 1), [rForm F1.p 8]⟩, ⟨1, 2, 2, 1, (.slice (so b84) 1 1), [rForm F1.p 11]⟩, ⟨1, 2, 3, 1, (.slice (so b98) 1 1), [rForm F1.p 15]⟩]) (((entF (some (b103, .cells #[.int .i64 1, .int .i64 2, .int .i64 1, .int .i64 1, .slice (so b70) 1 1, .int .i64 1, .int .i64 2, .int .i64 2, .int .i64 1, .slice (so b84) 1 1, .int .i64 1, .int .i64 2, .int .i64 3, .int .i64 1, .slice (so b98) 1 1] 46))) ++ ((entF (some (b70, .cells (elA (rForm F1.p 8)) 49))) ++ ((entF (some (b84, .cells (elA (rForm F1.p 11)) 49))) ++ (entF (some (b98, .cells (elA (rForm F1.p 15)) 49)))))) ++ Z0) (.pointer none) ([]) ([]) W106 (all_alive (rForm_lt1 _) (rForm_lt1 _) (rForm_lt1 _)) small_alive (by decide) (Holds.app ((Holds.app (hS107.entH 0 rfl) (Holds.app (hS107.entH 5 rfl) (Holds.app (hS107.entH 3 rfl) (hS107.entH 1 rfl))))) (hS107.holds0 hZ0)) (Off.app (Off.nil _) (Off.nil _)) (((shs_lit (sl_row (f := cS) (k := 5) (t := 46) (b := b103) (n := 3) (cs := #[.int .i64 1, .int .i64 2, .int .i64 1, .int .i64 1, .slice (so b70) 1 1, .int .i64 1, .int .i64 2, .int .i64 2, .int .i64 1, .slice (so b84) 1 1, .int .i64 1, .int .i64 2, .int .i64 3, .int .i64 1, .slice (so b98) 1 1]) (ys := [⟨1, 2, 1, 1, (.slice (so b70) 1 1), [rForm F1.p 8]⟩, ⟨1, 2, 2, 1, (.slice (so b84) 1 1), [rForm F1.p 11]⟩, ⟨1, 2, 3, 1, (.slice (so b98) 1 1), [rForm F1.p 15]⟩]) (fun _ => rfl) rfl (Nat.le_of_ble_eq_true rfl) rfl) (deep_cons (Sl.mono ((sl_row (f := el) (k := 4) (t := 49) (b := b70) (n := 1) (cs := (elA (rForm F1.p 8))) (ys := [rForm F1.p 8]) (fun _ => rfl) rfl (Nat.le_of_ble_eq_true rfl) rfl)) fun _ hp => List.mem_append_right _ (List.mem_append_left _ hp)) (deep_cons (Sl.mono ((sl_row (f := el) (k := 4) (t := 49) (b := b84) (n := 1) (cs := (elA (rForm F1.p 11))) (ys := [rForm F1.p 11]) (fun _ => rfl) rfl (Nat.le_of_ble_eq_true rfl) rfl)) fun _ hp => List.mem_append_right _ (List.mem_append_right _ (List.mem_append_left _ hp))) (deep_cons (Sl.mono ((sl_row (f := el) (k := 4) (t := 49) (b := b98) (n := 1) (cs := (elA (rForm F1.p 15))) (ys := [rForm F1.p 15]) (fun _ => rfl) rfl (Nat.le_of_ble_eq_true rfl) rfl)) fun _ hp => List.mem_append_right _ (List.mem_append_right _ (List.mem_append_right _ hp))) (fun s hs => absurd hs (by simp))))))).mono fun _ hp => (List.mem_append_left _ hp)) ((hG).mono fun _ hp => (List.mem_append_right _ hp)) (Tape.nil _ _ _ _) (St.nil _)) ?_
 rintro _ W112 ⟨v116, en117, Lt119, rfl, hp118, hU120, hT114⟩
 obtain rfl := tape_nil hU120
 have hS113 := St.call (Ln := [en117]) hS107 hT114
 have hX121 := hp118
 rw [(sus_alive (rForm_lt1 _) (rForm_lt1 _) (rForm_lt1 _)).1] at hX121
 rw [(sus_alive (rForm_lt1 _) (rForm_lt1 _) (rForm_lt1 _)).2]
 refine sqv (ex_move (v := .tuple #[v116, .int .i64 0]) rfl) ?_
 refine sqv (ex_extract (v := v116) rfl rfl) ?_
 refine sqv (ex_extract (v := .int .i64 0) rfl rfl) ?_
 refine sqv (ex_assign (v := v116) rfl) ?_
 refine sqv (ex_assign (v := .int .i64 0) rfl) ?_
 show C _ _ _ _ _ _
 refine C_sr ?_
 refine sqv (ex_move (v := .slice (so b103) 3 3) rfl) ?_
 refine sqc (exe_call (args := #[.pointer none, .slice (so b103) 3 3]) en24 (args_of2 rfl rfl)) (c_Chunks F1 (⟨1, 2, 1, 1, (.slice (so b70) 1 1), [rForm F1.p 8]⟩ : Sh) (.slice (so b103) 3 3) ([⟨1, 2, 1, 1, (.slice (so b70) 1 1), [rForm F1.p 8]⟩, ⟨1, 2, 2, 1, (.slice (so b84) 1 1), [rForm F1.p 11]⟩, ⟨1, 2, 3, 1, (.slice (so b98) 1 1), [rForm F1.p 15]⟩]) (((entF (some (b103, .cells #[.int .i64 1, .int .i64 2, .int .i64 1, .int .i64 1, .slice (so b70) 1 1, .int .i64 1, .int .i64 2, .int .i64 2, .int .i64 1, .slice (so b84) 1 1, .int .i64 1, .int .i64 2, .int .i64 3, .int .i64 1, .slice (so b98) 1 1] 46))) ++ ((entF (some (b70, .cells (elA (rForm F1.p 8)) 49))) ++ ((entF (some (b84, .cells (elA (rForm F1.p 11)) 49))) ++ (entF (some (b98, .cells (elA (rForm F1.p 15)) 49)))))) ++ Z0) (.pointer none) ([]) ([]) W112 (acc_alive (rForm_lt1 _) (rForm_lt1 _) (rForm_lt1 _)) (all_alive (rForm_lt1 _) (rForm_lt1 _) (rForm_lt1 _)) (by show 3 < 900; omega) (by show 0 + 2000000 * 1 < 1099511627776; omega) (by show 1 < 1000000; omega) (Holds.app ((Holds.app (hS113.entH 1 rfl) (Holds.app (hS113.entH 6 rfl) (Holds.app (hS113.entH 4 rfl) (hS113.entH 2 rfl))))) (hS113.holds0 hZ0)) (Off.app (Off.nil _) (Off.nil _)) (((shs_lit (sl_row (f := cS) (k := 5) (t := 46) (b := b103) (n := 3) (cs := #[.int .i64 1, .int .i64 2, .int .i64 1, .int .i64 1, .slice (so b70) 1 1, .int .i64 1, .int .i64 2, .int .i64 2, .int .i64 1, .slice (so b84) 1 1, .int .i64 1, .int .i64 2, .int .i64 3, .int .i64 1, .slice (so b98) 1 1]) (ys := [⟨1, 2, 1, 1, (.slice (so b70) 1 1), [rForm F1.p 8]⟩, ⟨1, 2, 2, 1, (.slice (so b84) 1 1), [rForm F1.p 11]⟩, ⟨1, 2, 3, 1, (.slice (so b98) 1 1), [rForm F1.p 15]⟩]) (fun _ => rfl) rfl (Nat.le_of_ble_eq_true rfl) rfl) (deep_cons (Sl.mono ((sl_row (f := el) (k := 4) (t := 49) (b := b70) (n := 1) (cs := (elA (rForm F1.p 8))) (ys := [rForm F1.p 8]) (fun _ => rfl) rfl (Nat.le_of_ble_eq_true rfl) rfl)) fun _ hp => List.mem_append_right _ (List.mem_append_left _ hp)) (deep_cons (Sl.mono ((sl_row (f := el) (k := 4) (t := 49) (b := b84) (n := 1) (cs := (elA (rForm F1.p 11))) (ys := [rForm F1.p 11]) (fun _ => rfl) rfl (Nat.le_of_ble_eq_true rfl) rfl)) fun _ hp => List.mem_append_right _ (List.mem_append_right _ (List.mem_append_left _ hp))) (deep_cons (Sl.mono ((sl_row (f := el) (k := 4) (t := 49) (b := b98) (n := 1) (cs := (elA (rForm F1.p 15))) (ys := [rForm F1.p 15]) (fun _ => rfl) rfl (Nat.le_of_ble_eq_true rfl) rfl)) fun _ hp => List.mem_append_right _ (List.mem_append_right _ (List.mem_append_right _ hp))) (fun s hs => absurd hs (by simp))))))).mono fun _ hp => (List.mem_append_left _ hp)) ((hG).mono fun _ hp => (List.mem_append_right _ hp)) (Tape.nil _ _ _ _) (St.nil _)) ?_
 rintro _ W122 ⟨v126, en127, Lt129, rfl, hp128, hU130, hT124⟩
 obtain rfl := tape_nil hU130
 have hS123 := St.call (Ln := [en127]) hS113 hT124
 have hX131 := hp128
 rw [show chuL F1 ([⟨1, 2, 1, 1, (.slice (so b70) 1 1), [rForm F1.p 8]⟩, ⟨1, 2, 2, 1, (.slice (so b84) 1 1), [rForm F1.p 11]⟩, ⟨1, 2, 3, 1, (.slice (so b98) 1 1), [rForm F1.p 15]⟩]) (⟨1, 2, 1, 1, (.slice (so b70) 1 1), [rForm F1.p 8]⟩ : Sh).t (⟨1, 2, 1, 1, (.slice (so b70) 1 1), [rForm F1.p 8]⟩ : Sh).p.length = [false] from chu_alive2] at hX131
 refine sqv (ex_move (v := .tuple #[v126, .int .i64 0]) rfl) ?_
 refine sqv (ex_extract (v := v126) rfl rfl) ?_
 refine sqv (ex_extract (v := .int .i64 0) rfl rfl) ?_
 refine sqv (ex_assign (v := v126) rfl) ?_
 refine sqv (ex_assign (v := .int .i64 0) rfl) ?_
 show C _ _ _ _ _ _
 refine C_sr ?_
 refine sqv (ex_move (v := .bool true) rfl) ?_
 refine sqv (ex_move (v := .bool true) rfl) ?_
 refine guard_yes (b := true) rfl rfl ?_
 refine sqv (ex_move (v := .int .i64 0) rfl) ?_
 refine guard_yes (b := true) rfl rfl ?_
 refine sqv (ex_cmp (x := 0) (y := 0) (r := true) rfl rfl rfl) ?_
 refine sqv (ex_pick (t := true) (v := .bool true) rfl rfl) ?_
 refine sqv (ex_move (v := .bool true) rfl) ?_
 refine guard_yes (b := true) rfl rfl ?_
 refine sqv (ex_move (v := .bool false) rfl) ?_
 refine guard_yes (b := true) rfl rfl ?_
 refine sqv (ex_not (t := false) rfl) ?_
 refine sqv (ex_pick (t := true) (v := .bool true) rfl rfl) ?_
 refine sqv (ex_move (v := .bool true) rfl) ?_
 refine guard_yes (b := true) rfl rfl ?_
 refine sqv (ex_move (v := .int .i64 0) rfl) ?_
 refine guard_yes (b := true) rfl rfl ?_
 refine sqv (ex_cmp (x := 0) (y := 0) (r := true) rfl rfl rfl) ?_
 refine sqv (ex_pick (t := true) (v := .bool true) rfl rfl) ?_
 refine sqv (ex_move (v := .bool true) rfl) ?_
 refine guard_yes (b := true) rfl rfl ?_
 refine sqv (ex_move (v := .int .i64 0) rfl) ?_
 refine guard_yes (b := true) rfl rfl ?_
 refine sqv (ex_cmp (x := 0) (y := 0) (r := true) rfl rfl rfl) ?_
 refine sqv (ex_pick (t := true) (v := .bool true) rfl rfl) ?_
 refine sqv (ex_move (v := .bool true) rfl) ?_
 refine guard_yes (b := true) rfl rfl ?_
 refine sqv (ex_move (v := v116) rfl) ?_
 refine guard_yes (b := true) rfl rfl ?_
 refine sqE (st_bslice (vs := [.int .i64 0, .int .i64 1, .int .i64 2]) hS123 sl25 ze3 rfl (by simp [Value.cells]) rfl (by decide)) fun b132 W133 hS134 => ?_
 refine guard_yes (b := true) rfl rfl ?_
 refine sqc (exe_call (args := #[v116, .slice (so b132) 3 3]) en17 (args_of2 rfl rfl)) (c_EqualI v116 ([0, 1, 2] : List Int) (.slice (so b132) 3 3) ([0, 1, 2]) ((entF en117) ++ (entF (some (b132, .cells #[.int .i64 0, .int .i64 1, .int .i64 2] 3)))) W133 (Holds.app (hS134.entH 2 rfl) (hS134.entH 0 rfl)) (Sl.mono ((hX121).slF) fun _ hp => (List.mem_append_left _ hp)) (Sl.mono ((sl_row (f := cI) (k := 1) (t := 3) (b := b132) (n := 3) (cs := #[.int .i64 0, .int .i64 1, .int .i64 2]) (ys := [0, 1, 2]) (fun _ => rfl) rfl (Nat.le_of_ble_eq_true rfl) rfl)) fun _ hp => (List.mem_append_right _ hp))) ?_
 rintro _ W135 ⟨rfl, hT137⟩
 have hS136 := hS134.call hT137
 rw [show (decide (([0, 1, 2] : List Int) = ([0, 1, 2]))) = true from by decide]
 refine sqv (ex_pick (t := true) (v := .bool true) rfl rfl) ?_
 refine sqv (ex_move (v := .bool true) rfl) ?_
 refine guard_yes (b := true) rfl rfl ?_
 refine sqv (ex_move (v := .int .i64 0) rfl) ?_
 refine guard_yes (b := true) rfl rfl ?_
 refine sqv (ex_cmp (x := 0) (y := 0) (r := true) rfl rfl rfl) ?_
 refine sqv (ex_pick (t := true) (v := .bool true) rfl rfl) ?_
 refine sqv (ex_move (v := .bool true) rfl) ?_
 refine guard_yes (b := true) rfl rfl ?_
 refine sqv (ex_move (v := v126) rfl) ?_
 refine guard_yes (b := true) rfl rfl ?_
 refine sqE (st_bslice (vs := [.bool false]) hS136 sl53 ze4 rfl (by simp [Value.cells]) rfl (by decide)) fun b139 W140 hS141 => ?_
 refine guard_yes (b := true) rfl rfl ?_
 refine sqc (exe_call (args := #[v126, .slice (so b139) 1 1]) en50 (args_of2 rfl rfl)) (c_EqualB v126 ([false]) (.slice (so b139) 1 1) ([false]) ((entF en127) ++ (entF (some (b139, .cells #[.bool false] 4)))) W140 (Holds.app (hS141.entH 2 rfl) (hS141.entH 0 rfl)) (Sl.mono ((hX131).slF) fun _ hp => (List.mem_append_left _ hp)) (Sl.mono ((sl_row (f := cT) (k := 1) (t := 4) (b := b139) (n := 1) (cs := #[.bool false]) (ys := [false]) (fun _ => rfl) rfl (Nat.le_of_ble_eq_true rfl) rfl)) fun _ hp => (List.mem_append_right _ hp))) ?_
 rintro _ W142 ⟨rfl, hT144⟩
 have hS143 := hS141.call hT144
 rw [show (decide (([false]) = ([false]))) = true from by decide]
 refine sqv (ex_pick (t := true) (v := .bool true) rfl rfl) ?_
 refine sqv (ex_assign (v := .bool true) rfl) ?_
 show C _ _ _ _ _ _
 refine C_ret ?_
 refine done_1 (v := .bool true) rfl rfl ?_
 exact ⟨rfl, St.pick (L := [some (b139, .cells #[.bool false] 4), some (b132, .cells #[.int .i64 0, .int .i64 1, .int .i64 2] 3), en127, en117, some (b103, .cells #[.int .i64 1, .int .i64 2, .int .i64 1, .int .i64 1, .slice (so b70) 1 1, .int .i64 1, .int .i64 2, .int .i64 2, .int .i64 1, .slice (so b84) 1 1, .int .i64 1, .int .i64 2, .int .i64 3, .int .i64 1, .slice (so b98) 1 1] 46), some (b98, .cells (elA (rForm F1.p 15)) 49), some (b91, .cells #[.int .i64 1, .int .i64 2, .int .i64 3, .int .i64 1, .slice (so b98) 1 1] 46), some (b84, .cells (elA (rForm F1.p 11)) 49), some (b77, .cells #[.int .i64 1, .int .i64 2, .int .i64 2, .int .i64 1, .slice (so b84) 1 1] 46), some (b70, .cells (elA (rForm F1.p 8)) 49), some (b63, .cells #[.int .i64 1, .int .i64 2, .int .i64 1, .int .i64 1, .slice (so b70) 1 1] 46), some (b52, .cells #[.int .i64 1, .int .i64 2, .int .i64 1, .int .i64 1, .slice (so b19) 1 1, .int .i64 1, .int .i64 2, .int .i64 2, .int .i64 1, .slice (so b33) 1 1, .int .i64 1, .int .i64 2, .int .i64 3, .int .i64 1, .slice (so b47) 1 1] 46), some (b47, .cells (elA (rForm F1.p 14)) 49), some (b40, .cells #[.int .i64 1, .int .i64 2, .int .i64 3, .int .i64 1, .slice (so b47) 1 1] 46), some (b33, .cells (elA (rForm F1.p 11)) 49), some (b26, .cells #[.int .i64 1, .int .i64 2, .int .i64 2, .int .i64 1, .slice (so b33) 1 1] 46), some (b19, .cells (elA (rForm F1.p 8)) 49), some (b12, .cells #[.int .i64 1, .int .i64 2, .int .i64 1, .int .i64 1, .slice (so b19) 1 1] 46), some (b5, .cells (elA (F1.p)) 40)]) hS143 [] (by decide)⟩
end Go.Proofs
end
section
set_option linter.unusedVariables false
set_option linter.unusedSimpArgs false
set_option maxRecDepth 20000
set_option maxHeartbeats 2000000
namespace Go.Proofs
open Sc
theorem en13 : enters Tryz.prog 13 = true := by kernel_rfl
theorem en14 : enters Tryz.prog 14 = true := by kernel_rfl
theorem en16 : enters Tryz.prog 16 = true := by kernel_rfl
theorem c_AuditSuspects  (s : Value) (l : List Sh) (Z0 : List Fact) (w0 : World) (g0 : ∀ s ∈ l, ∀ y ∈ s.p, y < B256) (hZ0 : Holds w0 Z0) (hs_s : Shs Z0 46 49 s l) (hG : Cells Z0 0 0 gC) : Calls Tryz.prog 3 #[s] w0 (Ret fun uu w' => uu = .bool true ∧ St [] w0 w' [] []) := by
 have hlen := sl_lt (f := cS) (k := 5) (fun _ => rfl) (by decide) hs_s.1
 refine calls_of Tryz.func3 rfl Tryz.ntmps3 (Nat.le_of_ble_eq_true rfl) ?_
 have hS0 := St.nil w0
 refine C_sr ?_
 refine sqv (ex_assign (v := .bool false) rfl) ?_
 show C _ _ _ _ _ _
 refine C_seq ?_
 refine C_sr ?_
 refine sqv (ex_move (v := s) rfl) ?_
 refine sqc (exe_call (args := #[s]) en13 (args_of1 rfl)) (c_Large s l Z0 w0 (hS0.holds0 hZ0) (hs_s)) ?_
 rintro _ W1 ⟨rfl, hT3⟩
 have hS2 := hS0.call hT3
 refine nm (decide (0 < (lrg l))) fun t5 ht5 => ?_
 refine sqv (ex_cmp (x := (lrg l)) (y := 0) rfl rfl ht5) ?_
 refine sqv (ex_move (v := .bool t5) rfl) ?_
 rcases bool_cases t5 with hb6 | hb6
 ·subst hb6
  have hb6 := of_decide_eq_true ht5.symm
  refine guard_no (b' := true) rfl rfl (by decide) ?_
  refine guard_no (b' := true) rfl rfl (by decide) ?_
  refine guard_no (b' := true) rfl rfl (by decide) ?_
  refine sqv (ex_pick (t := true) (v := .bool true) rfl rfl) ?_
  show C _ _ _ _ _ _
  refine C_true rfl ?_
  refine C_sr ?_
  refine sqc (exe_call (args := #[]) en14 args_of0) (c_alive18 Z0 W1 (hS2.holds0 hZ0) (hG)) ?_
  rintro _ W7 ⟨rfl, hT9⟩
  have hS8 := hS2.call hT9
  refine sqv (ex_assign (v := .bool true) rfl) ?_
  show C _ _ _ _ _ _
  refine C_ret ?_
  refine thn_ret ?_
  refine done_1 (v := .bool true) rfl rfl ?_
  exact ⟨congrArg _ (by first | rfl | assumption | (symm; assumption)), St.pick (L := []) hS8 [] (by decide)⟩
 subst hb6
 have hb6 := of_decide_eq_false ht5.symm
 refine guard_yes (b := false) rfl rfl ?_
 refine sqv (ex_move (v := s) rfl) ?_
 refine guard_yes (b := false) rfl rfl ?_
 refine sqv (ex_lenO (f := cS) (k := 5) (r := (l.length : Int)) (fun _ => rfl) (by decide) ((hs_s).1) rfl sl22 rfl) ?_
 refine guard_yes (b := false) rfl rfl ?_
 refine nm (decide (7 < (l.length : Int))) fun t11 ht11 => ?_
 refine sqv (ex_cmp (x := (l.length : Int)) (y := 7) rfl rfl ht11) ?_
 refine sqv (ex_pick (t := false) (v := .bool t11) rfl rfl) ?_
 show C _ _ _ _ _ _
 refine C_if (t := t11) rfl (fun hc12 => ?_) (fun hc12 => ?_)
 ·have hc12' := of_decide_eq_true (ht11.symm.trans hc12)
  refine C_sr ?_
  refine sqc (exe_call (args := #[]) en14 args_of0) (c_alive18 Z0 W1 (hS2.holds0 hZ0) (hG)) ?_
  rintro _ W13 ⟨rfl, hT15⟩
  have hS14 := hS2.call hT15
  refine sqv (ex_assign (v := .bool true) rfl) ?_
  show C _ _ _ _ _ _
  refine C_ret ?_
  refine thn_ret ?_
  refine done_1 (v := .bool true) rfl rfl ?_
  exact ⟨congrArg _ (by first | rfl | assumption | (symm; assumption)), St.pick (L := []) hS14 [] (by decide)⟩
 have hc12' := of_decide_eq_false (ht11.symm.trans hc12)
 refine C_skip ?_
 show C _ _ _ _ _ _
 refine C_sr ?_
 refine sqv (ex_move (v := s) rfl) ?_
 refine sqc (exe_call (args := #[.pointer none, s]) en15 (args_of2 rfl rfl)) (c_SuspectsG s l Z0 (.pointer none) ([]) ([]) W1 g0 (lrg_le (by have := lrg_01 l; omega)) (by decide) (hS2.holds0 hZ0) (Off.nil _) (hs_s) (hG) (Tape.nil _ _ _ _) (St.nil _)) ?_
 rintro _ W17 ⟨v21, en22, Lt24, rfl, hp23, hU25, hT19⟩
 obtain rfl := tape_nil hU25
 have hS18 := St.call (Ln := [en22]) hS2 hT19
 refine sqv (ex_move (v := .tuple #[v21, .int .i64 (susE l)]) rfl) ?_
 refine sqv (ex_extract (v := v21) rfl rfl) ?_
 refine sqv (ex_extract (v := .int .i64 (susE l)) rfl rfl) ?_
 refine sqv (ex_assign (v := v21) rfl) ?_
 refine sqv (ex_assign (v := .int .i64 (susE l)) rfl) ?_
 show C _ _ _ _ _ _
 refine C_sr ?_
 refine sqv (ex_move (v := s) rfl) ?_
 refine sqc (exe_call (args := #[s]) en16 (args_of1 rfl)) (c_rSuspectsG s l Z0 W17 g0 (lrg_le (by have := lrg_01 l; omega)) (hS18.holds0 hZ0) (hs_s)) ?_
 rintro _ W26 ⟨v30, en31, rfl, hp32, hT28⟩
 have hS27 := hS18.call hT28
 refine sqv (ex_move (v := .tuple #[v30, .int .i64 (susE l)]) rfl) ?_
 refine sqv (ex_extract (v := v30) rfl rfl) ?_
 refine sqv (ex_extract (v := .int .i64 (susE l)) rfl rfl) ?_
 refine sqv (ex_assign (v := v30) rfl) ?_
 refine sqv (ex_assign (v := .int .i64 (susE l)) rfl) ?_
 show C _ _ _ _ _ _
 refine C_sr ?_
 refine sqc (exe_call (args := #[]) en14 args_of0) (c_alive18 Z0 W26 (hS27.holds0 hZ0) (hG)) ?_
 rintro _ W33 ⟨rfl, hT35⟩
 have hS34 := hS27.call hT35
 refine sqv (ex_move (v := .bool true) rfl) ?_
 refine guard_yes (b := true) rfl rfl ?_
 refine sqv (ex_move (v := v21) rfl) ?_
 refine guard_yes (b := true) rfl rfl ?_
 refine sqv (ex_move (v := v30) rfl) ?_
 refine guard_yes (b := true) rfl rfl ?_
 refine sqc (exe_call (args := #[v21, v30]) en17 (args_of2 rfl rfl)) (c_EqualI v21 (susX l) v30 (susX l) ((entF en22) ++ (entF en31)) W33 (Holds.app (hS34.entH 1 rfl) (hS34.entH 0 rfl)) (Sl.mono ((hp23).slF) fun _ hp => (List.mem_append_left _ hp)) (Sl.mono ((hp32).slF) fun _ hp => (List.mem_append_right _ hp))) ?_
 rintro _ W37 ⟨rfl, hT39⟩
 have hS38 := hS34.call hT39
 rw [show (decide ((susX l) = (susX l))) = true from decide_eq_true rfl]
 refine sqv (ex_pick (t := true) (v := .bool true) rfl rfl) ?_
 refine sqv (ex_move (v := .bool true) rfl) ?_
 refine guard_yes (b := true) rfl rfl ?_
 refine sqv (ex_move (v := .int .i64 (susE l)) rfl) ?_
 refine guard_yes (b := true) rfl rfl ?_
 refine sqv (ex_move (v := .int .i64 (susE l)) rfl) ?_
 refine guard_yes (b := true) rfl rfl ?_
 refine nm (decide ((susE l) = (susE l))) fun t41 ht41 => ?_
 refine sqv (ex_cmp (x := (susE l)) (y := (susE l)) rfl rfl ht41) ?_
 obtain rfl : t41 = true := by rw [ht41]; exact decide_eq_true rfl
 refine sqv (ex_pick (t := true) (v := .bool true) rfl rfl) ?_
 refine sqv (ex_assign (v := .bool true) rfl) ?_
 show C _ _ _ _ _ _
 refine C_ret ?_
 refine done_1 (v := .bool true) rfl rfl ?_
 exact ⟨congrArg _ (by first | rfl | assumption | (symm; assumption)), St.pick (L := [en31, en22]) hS38 [] (by decide)⟩
end Go.Proofs
end
section
set_option linter.unusedVariables false
namespace Sc
open Go
def facts (w : World) : List Fact := (List.range w.heap.size).filterMap fun i => (w.heap[i]?).map fun o => (i, o)
theorem facts_holds (w : World) : Holds w (facts w) := by
  intro p hp
  obtain ⟨i, _, h⟩ := List.mem_filterMap.1 hp
  cases hq : w.heap[i]? with
  | none => simp [hq] at h
  | some o => simp [hq] at h; subst h; exact hq
theorem mem_facts {w : World} {b : Nat} {o : Obj} (h : w.heap[b]? = some o) : (b, o) ∈ facts w :=
  List.mem_filterMap.2 ⟨b, List.mem_range.2 (lt_of_some h), by rw [h]; rfl⟩
section
variable {H : Type} {enc : TypeId × Value → H} {P : Program} {w : World} {base : Nat} {spare : Nat → Bool} {held : Bool}
theorem cell_block {a : Addr} {v : Value} (h : w.cell? a = some v) : ∃ arr t fr, w.heap[a.block]? = some (.cells arr t fr) ∧ a.spot = none ∧ arr[a.off]? = some v := by
  unfold World.cell? at h
  split at h
  · rename_i c t fr hb
    split at h
    · cases h
    · rename_i hs
      exact ⟨c, t, fr, hb, by simpa using hs, h⟩
  · cases h
theorem add_off {a : Addr} (h : a.spot = none) (n : Nat) : a.add n = ⟨a.block, a.off + n, none⟩ := by
  obtain ⟨b, o, s⟩ := a
  simp only at h; subst h
  unfold Addr.add
  split
  · rename_i h0; subst h0; rfl
  · rfl
theorem rd_slice {α : Type} [Inhabited α] {f : α → List Value} {Q : α → Prop} {k : Nat} (hf : ∀ x, (f x).length = k) (hk : 0 < k) {t e : TypeId} {fuel : Nat} {cs : List Value} {x : DataW H × List MemPlace} (ht : P.underlying t = some (.slice e)) (hc : P.cellsOf e = k)
    (h : DataW.trod enc P w base (fun _ => true) held fuel t cs = some x) (hel : ∀ n cs' y, DataW.trod enc P w base (fun _ => true) held n e cs' = some y → ∃ z, cs' = f z ∧ Q z) :
    ∃ (v : Value) (xs : List α), cs = [v] ∧ Sl (facts w) e k v (xs.flatMap f) ∧ ∀ z ∈ xs, Q z := by
  rcases Go.Deep.open_slice ht h with ⟨rfl, _⟩ | ⟨a, len, cap, m, n, D, Pl, rfl, hb, hl, hm, hmm, _, hx⟩
  · exact ⟨_, [], rfl, Sl.nil _ _ _, by simp⟩
  · simp only [if_true] at hmm
    subst hmm
    have hx' : ∀ i, i < m → ∃ z : α, w.cells? base (a.add (i * k)) k = some (f z) ∧ Q z := fun i hi => by
      obtain ⟨cs', h1, h2⟩ := hx i hi
      rw [hc] at h1
      obtain ⟨z, rfl, hz⟩ := hel _ _ _ h2
      exact ⟨z, h1, hz⟩
    obtain ⟨g, hg⟩ := Go.Deep.choose_lt hx'
    refine ⟨_, (List.range len).map g, rfl, ?_, fun z hz => ?_⟩
    · refine ⟨some a, len, m, rfl, by rw [fm_length hf]; simp, hl, hm, ?_⟩
      rcases Nat.eq_zero_or_pos m with h0 | hpos
      · exact .inl ⟨by omega, h0⟩
      ·
        have hcell : ∀ i r, i < m → r < k → w.cell? ((a.add (i * k)).add r) = (f (g i))[r]? := fun i r hi hr => (World.cells?_some (hg i hi).1).2.2 r hr
        have h0 := hcell 0 0 hpos hk
        rw [show (a.add (0 * k)).add 0 = a from by rw [Nat.zero_mul]; rfl, List.getElem?_eq_getElem (by rw [hf]; exact hk)] at h0
        obtain ⟨arr, tt, fr, hh, hs, _⟩ := cell_block h0
        have hall : ∀ i r, i < m → r < k → arr[a.off + (i * k + r)]? = (f (g i))[r]? := fun i r hi hr => by
          have h1 := hcell i r hi hr
          rw [add_off hs, add_off rfl] at h1
          rw [← h1]
          simp [World.cell?, hh, Nat.add_assoc]
        right
        refine ⟨a.block, a.off, by obtain ⟨b, o, s⟩ := a; simp only at hs; subst hs; rfl, ?_⟩
        rcases Nat.eq_zero_or_pos len with hl0 | hlpos
        · exact .inl hl0
        right
        have hmul : (len - 1) * k + k = len * k := by rw [← Nat.succ_mul]; congr 1; omega
        have hlast := hall (len - 1) (k - 1) (by omega) (by omega)
        rw [List.getElem?_eq_getElem (by rw [hf]; omega)] at hlast
        have hlt := (Array.getElem?_eq_some_iff.1 hlast).1
        refine ⟨arr, tt, fr, mem_facts hh, by omega, ?_⟩
        apply List.ext_getElem?
        intro j
        rw [List.getElem?_take]
        split
        · rename_i hj
          rw [List.getElem?_drop]
          have hi : j / k < len := by rw [Nat.div_lt_iff_lt_mul hk]; exact hj
          have hjk : j = (j / k) * k + j % k := by rw [Nat.mul_comm]; exact (Nat.div_add_mod j k).symm
          have h1 := hall (j / k) (j % k) (by omega) (Nat.mod_lt _ hk)
          rw [← hjk] at h1
          have h2 := fm_at hf ((List.range len).map g) (j / k) (g (j / k)) (by rw [List.getElem?_map, List.getElem?_range hi]; rfl)
          have h3 : (((((List.range len).map g).flatMap f).drop (j / k * k)).take k)[j % k]? = (f (g (j / k)))[j % k]? := by rw [h2]
          rw [List.getElem?_take, if_pos (Nat.mod_lt _ hk), List.getElem?_drop, ← hjk] at h3
          rw [h3, ← h1]; simp
        · rename_i hj
          rw [List.getElem?_eq_none (by rw [fm_length hf]; simp; omega)]
    · obtain ⟨i, hi, rfl⟩ := List.mem_map.1 hz
      exact (hg i (by have := List.mem_range.1 hi; omega)).2
theorem rd_el {t e : TypeId} {fuel : Nat} {cs : List Value} {x : DataW H × List MemPlace} (ht : P.underlying t = some (.array 4 e)) (he : P.underlying e = some (.int .u64)) (hc : P.cellsOf t = 4) (hce : P.cellsOf e = 1)
    (h : DataW.trod enc P w base spare held fuel t cs = some x) : ∃ N, cs = el N ∧ N < B256 ∧ x.1 = .agg [.lit (.int .u64 (limb N 0)), .lit (.int .u64 (limb N 1)), .lit (.int .u64 (limb N 2)), .lit (.int .u64 (limb N 3))] := by
  obtain ⟨_, _, _, _, hl, _, _⟩ := DataW.trod_array ht h
  rw [hc] at hl
  match cs, hl with
  | [c0, c1, c2, c3], _ =>
    obtain ⟨y0, y1, y2, y3, n, hx, h0, h1, h2, h3⟩ := Go.ChangeShapes.trod_array4 ht hce h
    obtain ⟨a, e0, f0, w0⟩ := DataW.trod_int he h0
    obtain ⟨b, e1, f1, w1⟩ := DataW.trod_int he h1
    obtain ⟨c, e2, f2, w2⟩ := DataW.trod_int he h2
    obtain ⟨d, e3, f3, w3⟩ := DataW.trod_int he h3
    cases e0; cases e1; cases e2; cases e3
    have r : ∀ {z : Int}, (Lit.int .u64 z).wf = true → 0 ≤ z ∧ z < 18446744073709551616 := fun {z} hz => by
      simp [Lit.wf, IntKind.min, IntKind.max, IntKind.signed, IntKind.bits] at hz; omega
    have a' := r w0; have b' := r w1; have c' := r w2; have d' := r w3
    have hs : ((a + b * 18446744073709551616 + c * 340282366920938463463374607431768211456 + d * 6277101735386680763835789423207666416102355444464034512896).toNat : Int) = a + b * 18446744073709551616 + c * 340282366920938463463374607431768211456 + d * 6277101735386680763835789423207666416102355444464034512896 := Int.toNat_of_nonneg (by omega)
    obtain ⟨l0, l1, l2, l3⟩ := limb_of _ a b c d a' b' c' d' hs
    refine ⟨_, by rw [el, l0, l1, l2, l3], by unfold B256; omega, ?_⟩
    rw [l0, l1, l2, l3, hx, f0, f1, f2, f3]
end
end Sc
end
section
set_option linter.unusedVariables false
namespace Sc
open Go
def isI64 (P : Program) (t : TypeId) : Bool := (match P.underlying t with | some (.int .i64) => true | _ => false) && decide (P.cellsOf t = 1)
def isU64 (P : Program) (t : TypeId) : Bool := (match P.underlying t with | some (.int .u64) => true | _ => false) && decide (P.cellsOf t = 1)
def isA4 (P : Program) (t : TypeId) : Bool := (match P.underlying t with | some (.array 4 e) => isU64 P e | _ => false) && decide (P.cellsOf t = 4)
def isSl (P : Program) (t e : TypeId) : Bool := (match P.underlying t with | some (.slice e') => decide (e' = e) | _ => false) && decide (P.cellsOf t = 1)
def shT (P : Program) (t ee : TypeId) : Bool := (match P.underlying t with
  | some (.struct fs) => match fs.toList with
    | [f0, f1, f2, f3, f4] => isI64 P f0.type && decide (f0.offset = 0) && (isI64 P f1.type && decide (f1.offset = 1)) && (isI64 P f2.type && decide (f2.offset = 2)) && (isI64 P f3.type && decide (f3.offset = 3)) && (isSl P f4.type ee && decide (f4.offset = 4))
    | _ => false
  | _ => false) && decide (P.cellsOf t = 5)
def fdT (P : Program) (t : TypeId) : Bool := (match P.underlying t with
  | some (.struct fs) => match fs.toList with
    | [f0, f1, f2, f3, f4] => isI64 P f0.type && decide (f0.offset = 0) && (isA4 P f1.type && decide (f1.offset = 1)) && (isU64 P f2.type && decide (f2.offset = 5)) && (isA4 P f3.type && decide (f3.offset = 6)) && (isA4 P f4.type && decide (f4.offset = 10))
    | _ => false
  | _ => false) && decide (P.cellsOf t = 14)
section
variable {H : Type} {enc : TypeId × Value → H} {P : Program} {w : World} {base : Nat} {spare : Nat → Bool} {held : Bool}
theorem rd_i64 {t : TypeId} {fuel : Nat} {cs : List Value} {x : DataW H × List MemPlace} (ht : isI64 P t = true) (h : DataW.trod enc P w base spare held fuel t cs = some x) : ∃ z, cs = [.int .i64 z] ∧ x.1 = .lit (.int .i64 z) ∧ -9223372036854775808 ≤ z ∧ z ≤ 9223372036854775807 := by
  unfold isI64 at ht
  simp only [Bool.and_eq_true] at ht
  have hu : P.underlying t = some (.int .i64) := by have := ht.1; split at this <;> simp_all
  obtain ⟨z, e1, e2, hz⟩ := DataW.trod_int hu h
  simp [Lit.wf, IntKind.min, IntKind.max, IntKind.signed, IntKind.bits] at hz
  exact ⟨z, e1, by rw [e2], by omega, by omega⟩
theorem rd_u64 {t : TypeId} {fuel : Nat} {cs : List Value} {x : DataW H × List MemPlace} (ht : isU64 P t = true) (h : DataW.trod enc P w base spare held fuel t cs = some x) : ∃ z, cs = [.int .u64 z] ∧ x.1 = .lit (.int .u64 z) := by
  unfold isU64 at ht
  simp only [Bool.and_eq_true] at ht
  have hu : P.underlying t = some (.int .u64) := by have := ht.1; split at this <;> simp_all
  obtain ⟨z, e1, e2, hz⟩ := DataW.trod_int hu h
  exact ⟨z, e1, by rw [e2]⟩
def elD {H : Type} (N : Nat) : DataW H := .agg [.lit (.int .u64 (limb N 0)), .lit (.int .u64 (limb N 1)), .lit (.int .u64 (limb N 2)), .lit (.int .u64 (limb N 3))]
theorem rd_a4 {t : TypeId} {fuel : Nat} {cs : List Value} {x : DataW H × List MemPlace} (ht : isA4 P t = true) (h : DataW.trod enc P w base spare held fuel t cs = some x) : ∃ N, cs = el N ∧ N < B256 ∧ x.1 = elD N := by
  unfold isA4 at ht
  simp only [Bool.and_eq_true, decide_eq_true_eq] at ht
  obtain ⟨h1, h2⟩ := ht
  split at h1
  · rename_i e hu
    unfold isU64 at h1
    simp only [Bool.and_eq_true, decide_eq_true_eq] at h1
    have he : P.underlying e = some (.int .u64) := by have := h1.1; split at this <;> simp_all
    exact rd_el hu he h2 h1.2 h
  · cases h1
theorem cells_i64 {t : TypeId} (ht : isI64 P t = true) : P.cellsOf t = 1 := by unfold isI64 at ht; simp at ht; exact ht.2
theorem cells_u64 {t : TypeId} (ht : isU64 P t = true) : P.cellsOf t = 1 := by unfold isU64 at ht; simp at ht; exact ht.2
theorem cells_a4 {t : TypeId} (ht : isA4 P t = true) : P.cellsOf t = 4 := by unfold isA4 at ht; simp at ht; exact ht.2
theorem sl_spec {t e : TypeId} (ht : isSl P t e = true) : P.underlying t = some (.slice e) ∧ P.cellsOf t = 1 := by
  unfold isSl at ht
  simp only [Bool.and_eq_true, decide_eq_true_eq] at ht
  refine ⟨?_, ht.2⟩
  have := ht.1
  split at this
  · rename_i e' hu; rw [hu]; simp at this; rw [this]
  · cases this
instance : Inhabited Sh := ⟨⟨0, 0, 0, 0, .slice none 0 0, []⟩⟩
theorem rd_els {t e : TypeId} {fuel : Nat} {cs : List Value} {x : DataW H × List MemPlace} (ht : isSl P t e = true) (he : isA4 P e = true) (h : DataW.trod enc P w base (fun _ => true) held fuel t cs = some x) :
    ∃ (v : Value) (p : List Nat), cs = [v] ∧ Sl (facts w) e 4 v (p.flatMap el) ∧ ∀ y ∈ p, y < B256 :=
  rd_slice (f := el) (Q := fun y => y < B256) (fun _ => rfl) (by decide) (sl_spec ht).1 (cells_a4 he) h fun n cs' y hy => by
    obtain ⟨N, h1, h2, _⟩ := rd_a4 he hy
    exact ⟨N, h1, h2⟩
theorem rd_sh {t ee : TypeId} {fuel : Nat} {cs : List Value} {x : DataW H × List MemPlace} (ht : shT P t ee = true) (he : isA4 P ee = true) (h : DataW.trod enc P w base (fun _ => true) held fuel t cs = some x) :
    ∃ s : Sh, cs = cS s ∧ Sl (facts w) ee 4 s.v (s.p.flatMap el) ∧ ∀ y ∈ s.p, y < B256 := by
  unfold shT at ht
  simp only [Bool.and_eq_true, decide_eq_true_eq] at ht
  obtain ⟨h1, h2⟩ := ht
  split at h1
  · rename_i fs hu
    split at h1
    · rename_i f0 f1 f2 f3 f4 hfs
      simp only [Bool.and_eq_true, decide_eq_true_eq] at h1
      obtain ⟨⟨⟨⟨⟨a0, o0⟩, a1, o1⟩, a2, o2⟩, a3, o3⟩, a4, o4⟩ := h1
      obtain ⟨xs, n, _, _, hl, hx, hf⟩ := DataW.trod_struct hu h
      rw [h2] at hl
      have hsz : fs.size = 5 := by rw [← Array.length_toList, hfs]; rfl
      have hg : ∀ i f, fs.toList[i]? = some f → fs[i]? = some f := fun i f hh => by rw [← Array.getElem?_toList]; exact hh
      rw [hsz] at hx
      match cs, hl, xs, hx with
      | [c0, c1, c2, c3, c4], _, [x0, x1, x2, x3, x4], _ =>
        have g0 := hf 0 f0 (hg 0 f0 (by rw [hfs]; rfl))
        have g1 := hf 1 f1 (hg 1 f1 (by rw [hfs]; rfl))
        have g2 := hf 2 f2 (hg 2 f2 (by rw [hfs]; rfl))
        have g3 := hf 3 f3 (hg 3 f3 (by rw [hfs]; rfl))
        have g4 := hf 4 f4 (hg 4 f4 (by rw [hfs]; rfl))
        rw [o0, cells_i64 a0] at g0
        rw [o1, cells_i64 a1] at g1
        rw [o2, cells_i64 a2] at g2
        rw [o3, cells_i64 a3] at g3
        rw [o4, (sl_spec a4).2] at g4
        obtain ⟨z0, e0, _⟩ := rd_i64 a0 g0
        obtain ⟨z1, e1, _⟩ := rd_i64 a1 g1
        obtain ⟨z2, e2, _⟩ := rd_i64 a2 g2
        obtain ⟨z3, e3, _⟩ := rd_i64 a3 g3
        obtain ⟨v, p, e4, hv, hp⟩ := rd_els a4 he g4
        simp at e0 e1 e2 e3 e4
        subst e0; subst e1; subst e2; subst e3; subst e4
        exact ⟨⟨z0, z1, z2, z3, c4, p⟩, rfl, hv, hp⟩
    · cases h1
  · cases h1
theorem rd_shs {t e ee : TypeId} {fuel : Nat} {cs : List Value} {x : DataW H × List MemPlace} (ht : isSl P t e = true) (hs : shT P e ee = true) (he : isA4 P ee = true) (h : DataW.trod enc P w base (fun _ => true) held fuel t cs = some x) :
    ∃ (v : Value) (l : List Sh), cs = [v] ∧ Shs (facts w) e ee v l ∧ ∀ s ∈ l, ∀ y ∈ s.p, y < B256 := by
  have hc : P.cellsOf e = 5 := by unfold shT at hs; simp at hs; exact hs.2
  obtain ⟨v, l, h1, h2, h3⟩ := rd_slice (f := cS) (Q := fun s : Sh => Sl (facts w) ee 4 s.v (s.p.flatMap el) ∧ ∀ y ∈ s.p, y < B256) (fun _ => rfl) (by decide) (sl_spec ht).1 hc h fun n cs' y hy => by
    obtain ⟨s, e1, e2, e3⟩ := rd_sh hs he hy
    exact ⟨s, e1, e2, e3⟩
  exact ⟨v, l, h1, ⟨h2, fun s hs => (h3 s hs).1⟩, fun s hs => (h3 s hs).2⟩
theorem rd_fd {t : TypeId} {fuel : Nat} {cs : List Value} {x : DataW H × List MemPlace} (ht : fdT P t = true) (h : DataW.trod enc P w base spare held fuel t cs = some x) :
    ∃ (id : Int) (p : Nat) (inv : Int) (one sq : Nat), cs = .int .i64 id :: (el p ++ .int .u64 inv :: (el one ++ el sq)) ∧ p < B256 ∧ one < B256 ∧ sq < B256 ∧ x.1 = .agg [.lit (.int .i64 id), elD p, .lit (.int .u64 inv), elD one, elD sq] := by
  unfold fdT at ht
  simp only [Bool.and_eq_true, decide_eq_true_eq] at ht
  obtain ⟨h1, h2⟩ := ht
  split at h1
  · rename_i fs hu
    split at h1
    · rename_i f0 f1 f2 f3 f4 hfs
      simp only [Bool.and_eq_true, decide_eq_true_eq] at h1
      obtain ⟨⟨⟨⟨⟨a0, o0⟩, a1, o1⟩, a2, o2⟩, a3, o3⟩, a4, o4⟩ := h1
      obtain ⟨xs, n, _, hx', hl, hx, hf⟩ := DataW.trod_struct hu h
      rw [h2] at hl
      have hsz : fs.size = 5 := by rw [← Array.length_toList, hfs]; rfl
      have hg : ∀ i f, fs.toList[i]? = some f → fs[i]? = some f := fun i f hh => by rw [← Array.getElem?_toList]; exact hh
      rw [hsz] at hx
      match xs, hx with
      | [x0, x1, x2, x3, x4], _ =>
        have g0 := hf 0 f0 (hg 0 f0 (by rw [hfs]; rfl))
        have g1 := hf 1 f1 (hg 1 f1 (by rw [hfs]; rfl))
        have g2 := hf 2 f2 (hg 2 f2 (by rw [hfs]; rfl))
        have g3 := hf 3 f3 (hg 3 f3 (by rw [hfs]; rfl))
        have g4 := hf 4 f4 (hg 4 f4 (by rw [hfs]; rfl))
        rw [o0, cells_i64 a0] at g0
        rw [o1, cells_a4 a1] at g1
        rw [o2, cells_u64 a2] at g2
        rw [o3, cells_a4 a3] at g3
        rw [o4, cells_a4 a4] at g4
        obtain ⟨z0, e0, d0, _⟩ := rd_i64 a0 g0
        obtain ⟨z1, e1, r1, d1⟩ := rd_a4 a1 g1
        obtain ⟨z2, e2, d2⟩ := rd_u64 a2 g2
        obtain ⟨z3, e3, r3, d3⟩ := rd_a4 a3 g3
        obtain ⟨z4, e4, r4, d4⟩ := rd_a4 a4 g4
        refine ⟨z0, z1, z2, z3, z4, ?_, r1, r3, r4, ?_⟩
        · have c0 : cs = (cs.drop 0).take 1 ++ ((cs.drop 1).take 4 ++ ((cs.drop 5).take 1 ++ ((cs.drop 6).take 4 ++ (cs.drop 10).take 4))) := by
            match cs, hl with
            | [_, _, _, _, _, _, _, _, _, _, _, _, _, _], _ => rfl
          rw [e0, e1, e2, e3, e4] at c0
          exact c0
        · simp only [List.getElem?_cons_zero, List.getElem?_cons_succ, Option.some.injEq] at *
          rw [hx']
          simp only [List.map_cons, List.map_nil, d0, d1, d2, d3, d4]
    · cases h1
  · cases h1
theorem elD_inj {a b : Nat} (ha : a < B256) (hb : b < B256) (h : (elD a : DataW H) = elD b) : a = b := by
  simp only [elD, DataW.agg.injEq, List.cons.injEq, DataW.lit.injEq, Lit.int.injEq, true_and, and_true] at h
  exact limb_inj ha hb h.1 h.2.1 h.2.2.1 h.2.2.2
theorem rd_fields {t e : TypeId} {fuel : Nat} {cs : List Value} {x : DataW H × List MemPlace} (ht : P.underlying t = some (.array 2 e)) (he : fdT P e = true) (hc : P.cellsOf t = 28) (h : DataW.trod enc P w base spare held fuel t cs = some x)
    (hx : x.1 = .agg [.agg [.lit (.int .i64 1), elD F1.p, .lit (.int .u64 F1.inv), elD F1.one, elD F1.sq], .agg [.lit (.int .i64 2), elD F2.p, .lit (.int .u64 F2.inv), elD F2.one, elD F2.sq]]) : cs = gC := by
  have hce : P.cellsOf e = 14 := by unfold fdT at he; simp at he; exact he.2
  obtain ⟨xs, n, _, hx', hl, hlen, hf⟩ := DataW.trod_array ht h
  rw [hc] at hl
  match xs, hlen with
  | [x0, x1], _ =>
    have g0 := hf 0 (by omega)
    have g1 := hf 1 (by omega)
    rw [hce] at g0 g1
    obtain ⟨a0, p0, i0, o0, s0, c0, r0, q0, t0, d0⟩ := rd_fd he g0
    obtain ⟨a1, p1, i1, o1, s1, c1, r1, q1, t1, d1⟩ := rd_fd he g1
    rw [hx'] at hx
    simp only [List.map_cons, List.map_nil, d0, d1, DataW.agg.injEq, List.cons.injEq, DataW.lit.injEq, Lit.int.injEq, true_and, and_true] at hx
    obtain ⟨⟨e0, e1, e2, e3, e4⟩, e5, e6, e7, e8, e9⟩ := hx
    have hF1 : FOk F1 := .inl rfl
    have hF2 : FOk F2 := .inr rfl
    obtain rfl := elD_inj r0 (f_lt hF1) e1
    obtain rfl := elD_inj q0 (Nat.lt_trans (f_one_lt hF1) (f_lt hF1)) e3
    obtain rfl := elD_inj t0 (Nat.lt_trans (f_sq_lt hF1) (f_lt hF1)) e4
    obtain rfl := elD_inj r1 (f_lt hF2) e6
    obtain rfl := elD_inj q1 (Nat.lt_trans (f_one_lt hF2) (f_lt hF2)) e8
    obtain rfl := elD_inj t1 (Nat.lt_trans (f_sq_lt hF2) (f_lt hF2)) e9
    subst e0; subst e2; subst e5; subst e7
    have c : cs = (cs.drop (0 * 14)).take 14 ++ (cs.drop (1 * 14)).take 14 := by
      rw [Nat.zero_mul, Nat.one_mul, List.drop_zero, List.take_of_length_le (l := cs.drop 14) (by rw [List.length_drop]; omega), List.take_append_drop]
    rw [c, c0, c1]; rfl
theorem gC_cells {n : String} {g : Nat} {cs : Array Value} (hg : P.globalNamed n = some g) (h : w.var? P n = some cs) (hc : cs.toList = gC) : Cells (facts w) g 0 gC := by
  have hcell := World.var?_cell hg h
  have h0 := hcell 0
  have hsz : cs.size = 28 := by rw [← Array.length_toList, hc]; rfl
  rw [Array.getElem?_eq_getElem (by omega)] at h0
  obtain ⟨arr, t, fr, hb, _, _⟩ := cell_block h0
  refine ⟨arr, t, fr, mem_facts hb, ?_⟩
  apply List.ext_getElem?
  intro j
  rw [List.drop_zero, List.getElem?_take]
  have hl : gC.length = 28 := rfl
  split
  · rename_i hj
    have h1 := hcell j
    rw [show World.cell? w ⟨g, j, none⟩ = arr[j]? from by simp [World.cell?, hb]] at h1
    rw [← hc, Array.getElem?_toList, Array.getElem?_toList]; exact h1
  · rename_i hj
    rw [List.getElem?_eq_none (by omega)]
end
end Sc
end
section
set_option linter.unusedVariables false
namespace Sc
open Go Go.RowKit Go.WideShapes Go.ChangeShapes
section
variable {H : Type} {enc : TypeId × Value → H} {P : Program}
theorem trod_carryAll {w w' : World} {base : Nat} {spare : Nat → Bool} {held : Bool} : ∀ {ts : List TypeId} {vs : List Value} {ds : List (DataW H)} {ps : List MemPlace}, DataW.TrodAll enc P w base spare held ts vs ds ps → (∀ p ∈ ps, w.sameAt w' p) → DataW.TrodAll enc P w' base spare held ts vs ds ps
  | [], [], [], _, h, _ => h
  | _ :: _, _ :: _, _ :: _, _, ⟨p, q, ⟨n, h1⟩, h2, e⟩, hs => ⟨p, q, ⟨n, DataW.trod_carry n _ _ _ h1 fun x hx => hs x (by rw [e]; exact List.mem_append_left _ hx)⟩, trod_carryAll h2 fun x hx => hs x (by rw [e]; exact List.mem_append_right _ hx), e⟩
theorem post_law {f : Func} {s : ChangeSpec} {apart fresh handsOn again : Bool} {W W' : World} {args : Array Value} {ds gs : List (DataW H)} {before : List MemPlace} {tb : TypeId}
    (hl : laidOutB P = true) (hm : mapsRowed P = true) (hz : ((List.range P.types.size).all fun t => match P.underlying t with | some (.slice e) => decide (0 < P.cellsOf e) | _ => true) = true) (hT : ∀ t ∈ f.params.toList, t < P.types.size)
    (hrt : f.resultTypes = #[tb]) (htb : P.underlying tb = some .bool) (hv : s.vars = [])
    (hres : (s.fn H (ds ++ gs)).results = [.lit (.bool true)]) (hargs : (s.fn H (ds ++ gs)).args = ds) (hvars : (s.fn H (ds ++ gs)).vars = [])
    (hW : DataW.Whole enc P f.params.toList s.vars apart W args.toList ds gs before) (hb : Below W.heap.size W W') :
    s.post enc P f apart fresh handsOn again W args (.bool true) W' := by
  have hlt : ∀ p ∈ before, p.block < W.heap.size := fun p hp => hW.lt p hp
  have hold : ∀ p ∈ before, (fun b => decide (b < W.heap.size)) p.block = true := fun p hp => by simpa using hlt p hp
  obtain ⟨pa, pv, hA, hV, hps, hfz, hnd⟩ := hW
  have hW' : DataW.Whole enc P f.params.toList s.vars apart W args.toList ds gs before := ⟨pa, pv, hA, hV, hps, hfz, hnd⟩
  rw [hv] at hV
  obtain ⟨rfl, rfl⟩ := trodVars_none hV
  rw [List.append_nil] at hps
  subst hps
  have hR : ∀ (b : Nat) (sp : Nat → Bool) (hd : Bool), DataW.TrodAll enc P W' b sp hd f.resultTypes.toList ((Value.bool true).resultList f.resultTypes.size) (s.fn H (ds ++ [])).results [] := fun b sp hd => by
    rw [hres, hrt]
    exact trodAll_mk1 (shut_bool htb _)
  have hAr : ∀ sp : Nat → Bool, (∀ p ∈ before, sp p.block = true) → DataW.TrodAll enc P W' 0 sp true f.params.toList args.toList (s.fn H (ds ++ [])).args before := fun sp hsp => by
    rw [hargs]
    exact trod_carryAll (DataW.TrodAll.respare (kids_rows hl hm) (slices_full_of P hz) hT hA hsp) fun p hp => hb.same (hlt p hp)
  have hVr : ∀ sp : Nat → Bool, DataW.TrodVars enc P W' sp s.vars (s.fn H (ds ++ [])).vars [] := fun sp => by rw [hv, hvars]; rfl
  refine ⟨ds, [], before, [], before, [], hW', hR _ _ _, hAr _ hold, hVr _, World.keptBut_mono (fun p hp => ⟨hp, .inr (.inl hp)⟩) (hb.frame (· ∈ before)), fun _ => ?_⟩
  · refine ⟨ok_one hrt rfl (okWide_bool_mk htb _), _, _, ([] ++ before) ++ [], ⟨[] ++ before, [], trodAll_append (hAr _ (fun _ _ => rfl)) (hR _ _ _), hVr _, rfl, ?_, ?_⟩, ?_⟩
    · intro b off hp
      have hin : MemPlace.cell b off ∈ before := by simpa using hp
      rw [hb.frozen (hlt _ hin)]
      exact hfz b off hin
    · intro ha
      simpa using hnd ha
    · intro p hp _
      simpa using hp
end
end Sc
end
section
set_option maxRecDepth 100000
namespace Go.Proofs.YtfhpmpmmckkgbaaGreatDoor
open Go Go.ChangeShapes Go.WideShapes Go.ChangeAt Go.WideMaps Go.WideElems Go.RowKit Sc
def laidF : List (String × DataW Unit) := [("sharecore/field.fields", Rows.laid_sharecore_field_fields)]
theorem own : ownKnob Tryz.prog.godebug = none := by kernel_rfl
theorem gFields : Tryz.prog.globalNamed "sharecore/field.fields" = some 0 := by kernel_rfl
theorem tFields : (Tryz.prog.globals[0]?).map (·.type) = some 167 := by kernel_rfl
theorem u167 : Tryz.prog.underlying 167 = some (.array 2 117) := by kernel_rfl
theorem c167 : Tryz.prog.cellsOf 167 = 28 := by kernel_rfl
theorem fd117 : fdT Tryz.prog 117 = true := by kernel_rfl
theorem sh46 : shT Tryz.prog 46 49 = true := by kernel_rfl
theorem a49 : isA4 Tryz.prog 49 = true := by kernel_rfl
theorem s22 : isSl Tryz.prog 22 46 = true := by kernel_rfl
theorem laidOut : laidOutB Tryz.prog = true := by kernel_rfl
theorem mapsOk : mapsRowed Tryz.prog = true := by kernel_rfl
theorem slicesOk : ((List.range Tryz.prog.types.size).all fun t => match Tryz.prog.underlying t with | some (.slice e) => decide (0 < Tryz.prog.cellsOf e) | _ => true) = true := by kernel_rfl
theorem ub4 : Tryz.prog.underlying 4 = some .bool := by kernel_rfl
theorem door_met (os : Os) (args : Array Value) : laidMetH Tryz.prog laidF ((World.doorLaid Tryz.prog 400 os).forCall (fun _ _ => 0) ⟨#[], args, []⟩).memory :=
  laidMetH_of_parts3 (fuel := 8) (laidMet_of_run' 8 (by kernel_rfl) (by kernel_rfl)) (by kernel_rfl) (by kernel_rfl)
theorem of_laid {W : World} (h : laidMetH Tryz.prog laidF W) : Cells (facts W) 0 0 gC := by
  rw [MakeChecks.laidMetH_plain _ _ _ (by kernel_rfl)] at h
  obtain ⟨ps, ⟨g0, t0, cs0, f0, p0, q0, hg0, ht0, hv0, hd0, _, _⟩, _, _⟩ := h
  obtain rfl := Option.some.inj (gFields.symm.trans hg0)
  obtain rfl := Option.some.inj (tFields.symm.trans ht0)
  exact gC_cells gFields hv0 (rd_fields u167 fd117 c167 hd0 rfl)
theorem lifted (os : Os) (started : os.Started) (H : Type) (enc : TypeId × Value → H) :
    ReturnsInHanded {} Tryz.checked os 3 .any (fun w args => (Rows.auditSuspectsSpec.pre enc Tryz.prog Tryz.f3 [] false w args ∧ laidMetH Tryz.prog laidF w) ∧ sizedMet enc Tryz.prog Tryz.f3 (OpenSpec.ofChange Rows.auditSuspectsSpec) false w args)
      (Rows.auditSuspectsSpec.post enc Tryz.prog Tryz.f3 false true false false) := by
  refine returnsInHanded_of_change_and (C := Tryz.checked) (X := fun w _ => laidMetH Tryz.prog laidF w) (fun _ _ _ hh h => h.of_heap hh) own started (by kernel_rfl) Tryz.func3
    (ChangeSpec.witness_shaped (enc := enc) (C := Tryz.checked) (os := os) (X := fun w _ => laidMetH Tryz.prog laidF w) false (World.doorLaid Tryz.prog 400 os) #[.slice none 0 0] 8 rfl (World.shaped_of_RefB (by kernel_rfl) (by kernel_rfl)) (by kernel_rfl) (by kernel_rfl) (by kernel_rfl) (door_met os _)) ?_
  intro W base args ds gs before hval0 hW _ _ hL _
  have hW' := hW
  obtain ⟨p, q, hA0, hV, rfl, hfz, hnd⟩ := hW
  have hA : DataW.TrodAll enc Tryz.prog W 0 (fun _ => true) true Tryz.f3.params.toList args.toList ds p := hA0
  rw [Tryz.params3] at hA
  obtain ⟨v0, d0, rfl, rfl, n, h0⟩ := trodAll_one hA
  obtain ⟨rfl, rfl⟩ := trodVars_none hV
  obtain ⟨v, l, hv, hs, hy⟩ := rd_shs s22 sh46 a49 h0
  obtain ⟨a, c, cc, rfl⟩ := okWide_slice (sl_spec s22).1 (hval0 0 22 v0 (by rw [Tryz.params3]; rfl) rfl)
  obtain rfl : Value.slice a c cc = v := by simpa [Value.cells] using hv
  refine (c_AuditSuspects _ l (facts W) W hy (facts_holds W) hs (of_laid hL)).mono fun e W' he => ?_
  cases e with
  | panicked => exact he.elim
  | outgrown => exact he.elim
  | returned u =>
    obtain ⟨rfl, hb⟩ := he
    exact ⟨_, rfl, post_law laidOut mapsOk slicesOk (by rw [Tryz.params3]; intro t ht; simp at ht; subst ht; exact of_decide_eq_true (by kernel_rfl)) rfl ub4 rfl rfl rfl rfl hW' hb.frm.below⟩
theorem auditSuspects_holds : Rows.AuditSuspectsSaid :=
  OpenClaim.holds_of_wide 3 Tryz.f3 rfl rfl rfl rfl rfl rfl rfl ⟨rfl, rfl, rfl, rfl, rfl⟩ rfl rfl rfl rfl rfl (by kernel_rfl) Tryz.func3 (by kernel_rfl)
    (of_decide_eq_true (by kernel_rfl)) (by unfold Func.isWrapper; first | (rw [if_pos (by decide +kernel)]; kernel_rfl) | (rw [if_neg (by decide +kernel)]; exact ⟨rfl, rfl⟩))
    (fun os started H enc _ => lifted os started H enc)
theorem auditSuspects_card : Rows.AuditSuspectsCardSaid :=
  Claim7.holds_tied_plain_at .later [] [.data] true (true, "be6f535220b2ffc471a6cf140920925cb3c3d21ecbd84c241966d229e6bfda01") false
    auditSuspects_holds (fun _ h => by cases h) (by kernel_rfl) (fun _ h => by cases h) auditSuspects_row_tie rfl ⟨rfl, rfl⟩ (by kernel_rfl) rfl
    (fun f fn hf hfn => by
      obtain rfl : f = 3 := Option.some.inj ((show Tryz.prog.funcNamed "sharecore/sharecorelaw18.AuditSuspects" = some 3 by kernel_rfl).symm.trans hf) |>.symm
      obtain rfl : fn = Tryz.f3 := (Option.some.inj (Tryz.func3.symm.trans hfn)).symm
      exact ⟨by kernel_rfl, fun j t ht => by
        rw [Tryz.params3] at ht
        have hm : t ∈ [22] := by simpa using Array.mem_of_getElem? ht
        have hall : ([22].all fun u => !Tryz.prog.wantsStandIn u) = true := by kernel_rfl
        exact (show Tryz.prog.wantsStandIn t = false by simpa using List.all_eq_true.1 hall t hm)⟩)
    (by kernel_rfl)
#print axioms auditSuspects_card
end Go.Proofs.YtfhpmpmmckkgbaaGreatDoor
end
