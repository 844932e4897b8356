/- AuditEvents holds: the events that the audit records are those of the reference, for all arguments that the statement admits, with no further condition. Part 11 of 12. -/
import Derived.Test.YtfhpmpmmckkgbaaGreatDoorE10
import Derived.Deep.Slices
import Derived.OpenShut
import Derived.ChangeArms
import Derived.ReadAgain
import Derived.ChangeBears
import Derived.Laws.IdiomArrays
set_option linter.unusedVariables false
set_option linter.unusedSimpArgs false
set_option linter.unusedSectionVars false
section
set_option linter.unusedVariables false
set_option linter.unusedSimpArgs false
set_option maxRecDepth 20000
set_option maxHeartbeats 2000000
namespace Go.Proofs
open Sc
theorem en109 : enters Tryz.prog 109 = true := by kernel_rfl
theorem en130 : enters Tryz.prog 130 = true := by kernel_rfl
theorem en131 : enters Tryz.prog 131 = true := by kernel_rfl
theorem en156 : enters Tryz.prog 156 = true := by kernel_rfl
theorem en172 : enters Tryz.prog 172 = true := by kernel_rfl
theorem en29 : enters Tryz.prog 29 = true := by kernel_rfl
theorem en66 : enters Tryz.prog 66 = true := by kernel_rfl
theorem en93 : enters Tryz.prog 93 = true := by kernel_rfl
theorem c_rPowE  (w0 : World)  : Calls Tryz.prog 172 #[] w0 (Ret fun uu w' => ∃ (v : Value), ∃ (en : Ent), uu = v ∧ (Own 108 3 cE v (pevs 64) en) ∧ St [] w0 w' [en] []) := by
 refine calls_of Tryz.func172 rfl Tryz.ntmps172 (Nat.le_of_ble_eq_true rfl) ?_
 have hS0 := St.nil w0
 refine C_sr ?_
 refine sqv (ex_assign (v := .slice none 0 0) rfl) ?_
 show C _ _ _ _ _ _
 refine C_sr ?_
 refine sqv (ex_assign (v := .slice none 0 0) rfl) ?_
 show C _ _ _ _ _ _
 refine C_seq ?_
 refine C_sr ?_
 refine sqv (ex_assign (v := .int .i64 63) rfl) ?_
 show C _ _ _ _ _ _
 refine C_block ?_
 have hS1 := St.non hS0
 refine C_loop (fun nn aa ww => ∃ (m0 : Nat → Value) (i : Nat) (v : Value) (en : Ent) (o : List Ev), nn = 64 - i ∧ aa = act 23 (upds m0 [(0, .slice none 0 0), (1, v), (2, .int .i64 (63 - (i : Int)))]) [] ∧ St [] w0 ww [en] [] ∧ (i ≤ 64) ∧ (Own 108 3 cE v o en) ∧ (o = pevs i)) 64 ?_ ?_
 ·exact ⟨_, 0, (.slice none 0 0), none, [], rfl, act_upds ⟨rfl, rfl, (congrArg (Value.int .i64) (by first | rfl | omega)), trivial⟩, (St.pick (L := [none]) hS1 [0] (by decide)), (Nat.zero_le _), (Own.nil _ _ _), rfl⟩
 rintro n5 a6 W3 ⟨m2, i, v, en, o, rfl, rfl, hS4, hki, hO, ho⟩
 have hlo : o.length ≤ 1100 := by rw [ho, pevs_len]; omega
 refine C_seq ?_
 refine C_sr ?_
 refine sqv (ex_move (v := .int .i64 (63 - (i : Int))) rfl) ?_
 refine sqv (ex_cmp (x := (63 - (i : Int))) (y := 0) (r := decide (0 ≤ (63 - (i : Int)))) rfl rfl rfl) ?_
 show C _ _ _ _ _ _
 refine C_dec (0 ≤ (63 - (i : Int))) rfl (fun hc7 => ?_) (fun hc7 => ?_)
 ·refine C_skip ?_
  show C _ _ _ _ _ _
  refine C_seq ?_
  refine C_block ?_
  refine C_sr ?_
  refine sqv (ex_move (v := v) rfl) ?_
  refine sqv (ex_move (v := .int .i64 (63 - (i : Int))) rfl) ?_
  refine sqv (ex_build (vs := [(0, .int .i64 6), (1, .int .i64 (63 - (i : Int)))]) (cells := #[.int .i64 6, .int .i64 (63 - (i : Int)), .int .i64 0]) rfl (by kernel_rfl)) ?_
  refine sqE (st_bslice (vs := [.agg #[.int .i64 6, .int .i64 (63 - (i : Int)), .int .i64 0]]) hS4 sl61 ze108 rfl (by simp [Value.cells]) rfl (by decide)) fun b8 W9 hS10 => ?_
  refine sqA (st_appendM (f := cE) (k := 3) (xs := o) (ys := [⟨6, (63 - (i : Int)), 0⟩]) (fun _ => rfl) (fun _ => ones_of rfl) (by decide) 1 hS10 (hO) ((sl_row (f := cE) (k := 3) (t := 108) (b := b8) (n := 1) (cs := #[.int .i64 6, .int .i64 (63 - (i : Int)), .int .i64 0]) (ys := [⟨6, (63 - (i : Int)), 0⟩]) (fun _ => rfl) rfl (Nat.le_of_ble_eq_true rfl) rfl)) (hS10.entH 0 rfl) rfl rfl rfl sl61 ze108 rfl (by simp only [List.length_append, List.length_cons, List.length_nil, maxLen]; omega) (by simp only [List.length_append, List.length_cons, List.length_nil, maxLen]; omega)) fun u11 en12 W13 ⟨hS14, ho15⟩ => ?_
  refine sqv (ex_assign (v := u11) rfl) ?_
  show C _ _ _ _ _ _
  refine C_sr ?_
  refine sqv (ex_assign (v := .int .i64 0) rfl) ?_
  show C _ _ _ _ _ _
  refine C_block ?_
  refine C_loop (fun nn aa ww => ∃ (m0 : Nat → Value) (k : Nat) (v2 : Value) (en2 : Ent) (o2 : List Ev), nn = 16 - k ∧ aa = act 23 (upds m0 [(0, .slice none 0 0), (1, v2), (2, .int .i64 (63 - (i : Int))), (3, .int .i64 (k : Int))]) [] ∧ St [] w0 ww [en2, some (b8, .cells #[.int .i64 6, .int .i64 (63 - (i : Int)), .int .i64 0] 108)] [] ∧ (k ≤ 16) ∧ (Own 108 3 cE v2 o2 en2) ∧ (o2 = o ++ (⟨6, 63 - (i : Int), 0⟩ :: kevs 1 k))) 16 ?_ ?_
  ·exact ⟨_, 0, u11, en12, (o ++ ([⟨6, (63 - (i : Int)), 0⟩])), rfl, act_upds ⟨rfl, rfl, (congrArg (Value.int .i64) (by first | rfl | omega)), (congrArg (Value.int .i64) (by first | rfl | omega)), trivial⟩, (St.pick (L := [some (b8, .cells #[.int .i64 6, .int .i64 (63 - (i : Int)), .int .i64 0] 108), en12]) hS14 [1, 0] (by decide)), (Nat.zero_le _), ho15, (by simp [kevs])⟩
  rintro n19 a20 W17 ⟨m16, k, v2, en2, o2, rfl, rfl, hS18, hkk, hO2, ho2⟩
  have hlo2 : o2.length ≤ 1200 := by rw [ho2, List.length_append, List.length_cons, kevs_len]; omega
  refine C_seq ?_
  refine C_sr ?_
  refine sqv (ex_move (v := .int .i64 (k : Int)) rfl) ?_
  refine sqv (ex_cmp (x := (k : Int)) (y := 16) (r := decide ((k : Int) < 16)) rfl rfl rfl) ?_
  show C _ _ _ _ _ _
  refine C_dec ((k : Int) < 16) rfl (fun hc21 => ?_) (fun hc21 => ?_)
  ·refine C_skip ?_
   show C _ _ _ _ _ _
   refine C_seq ?_
   refine C_block ?_
   refine C_region ?_
   refine sqv (ex_move (v := v2) rfl) ?_
   refine sqv (ex_move (v := .int .i64 (k : Int)) rfl) ?_
   refine sqv (ex_build (vs := [(0, .int .i64 1), (1, .int .i64 (k : Int))]) (cells := #[.int .i64 1, .int .i64 (k : Int), .int .i64 0]) rfl (by kernel_rfl)) ?_
   refine sqE (st_bslice (vs := [.agg #[.int .i64 1, .int .i64 (k : Int), .int .i64 0]]) hS18 sl61 ze108 rfl (by simp [Value.cells]) rfl (by decide)) fun b22 W23 hS24 => ?_
   refine sqA (st_appendM (f := cE) (k := 3) (xs := o2) (ys := [⟨1, (k : Int), 0⟩]) (fun _ => rfl) (fun _ => ones_of rfl) (by decide) 1 hS24 (hO2) ((sl_row (f := cE) (k := 3) (t := 108) (b := b22) (n := 1) (cs := #[.int .i64 1, .int .i64 (k : Int), .int .i64 0]) (ys := [⟨1, (k : Int), 0⟩]) (fun _ => rfl) rfl (Nat.le_of_ble_eq_true rfl) rfl)) (hS24.entH 0 rfl) rfl rfl rfl sl61 ze108 rfl (by simp only [List.length_append, List.length_cons, List.length_nil, maxLen]; omega) (by simp only [List.length_append, List.length_cons, List.length_nil, maxLen]; omega)) fun u25 en26 W27 ⟨hS28, ho29⟩ => ?_
   refine sqv (ex_assign (v := u25) rfl) ?_
   refine blk_normal ?_
   show C _ _ _ _ _ _
   refine C_region ?_
   refine sqv (ex_move (v := .int .i64 (k : Int)) rfl) ?_
   refine nm ((k : Int) + 1) fun x30 hx30 => ?_
   refine sqv (ex_add (x := (k : Int)) (y := 1) rfl rfl (w64 hx30 (by omega))) ?_
   refine sqv (ex_assign (v := .int .i64 x30) rfl) ?_
   exact ⟨_, (by omega), ⟨_, (k + 1), u25, en26, (o2 ++ ([⟨1, (k : Int), 0⟩])), rfl, act_upds ⟨rfl, rfl, (congrArg (Value.int .i64) (by first | rfl | omega)), (congrArg (Value.int .i64) (by first | rfl | omega)), trivial⟩, (St.pick (L := [some (b22, .cells #[.int .i64 1, .int .i64 (k : Int), .int .i64 0] 108), en26, some (b8, .cells #[.int .i64 6, .int .i64 (63 - (i : Int)), .int .i64 0] 108)]) hS28 [1, 2] (by decide)), (by omega), ho29, (by rw [ho2, kevs_succ]; simp)⟩⟩
  refine C_exit ?_
  refine thn_exit ?_
  refine thn_exit ?_
  refine blk_exit ?_
  refine blk_normal ?_
  show C _ _ _ _ _ _
  refine C_region ?_
  refine sqv (ex_move (v := .int .i64 (63 - (i : Int))) rfl) ?_
  refine nm ((63 - (i : Int)) - 1) fun x31 hx31 => ?_
  refine sqv (ex_sub (x := (63 - (i : Int))) (y := 1) rfl rfl (w64 hx31 (by omega))) ?_
  refine sqv (ex_assign (v := .int .i64 x31) rfl) ?_
  exact ⟨_, (by omega), ⟨_, (i + 1), v2, en2, o2, rfl, act_upds ⟨rfl, rfl, (congrArg (Value.int .i64) (by first | rfl | omega)), trivial⟩, (St.pick (L := [en2, some (b8, .cells #[.int .i64 6, .int .i64 (63 - (i : Int)), .int .i64 0] 108)]) hS18 [0] (by decide)), (by omega), hO2, (by rw [ho2, ho, show k = 16 from by omega, pevs])⟩⟩
 refine C_exit ?_
 refine thn_exit ?_
 refine thn_exit ?_
 refine blk_exit ?_
 show C _ _ _ _ _ _
 refine C_sr ?_
 refine sqv (ex_move (v := v) rfl) ?_
 refine sqv (ex_assign (v := v) rfl) ?_
 show C _ _ _ _ _ _
 refine C_ret ?_
 refine done_1 (v := v) rfl rfl ?_
 obtain rfl : i = 64 := by omega
 have he := ho.symm
 exact ⟨_, _, rfl, by rw [he]; exact hO, St.pick (L := [en]) hS4 [0] (by decide)⟩
theorem c_rBatchE (n : Nat) (w0 : World) (g0 : n < 900) : Calls Tryz.prog 156 #[.int .i64 (n : Int)] w0 (Ret fun uu w' => ∃ (v : Value), ∃ (en : Ent), uu = v ∧ (Own 108 3 cE v (batEv n) en) ∧ St [] w0 w' [en] []) := by
 have hpe : (pevs 64).length = 1088 := by rw [pevs_len]
 refine calls_of Tryz.func156 rfl Tryz.ntmps156 (Nat.le_of_ble_eq_true rfl) ?_
 have hS0 := St.nil w0
 refine C_sr ?_
 refine sqv (ex_assign (v := .slice none 0 0) rfl) ?_
 show C _ _ _ _ _ _
 refine C_sr ?_
 refine sqv (ex_assign (v := .slice none 0 0) rfl) ?_
 show C _ _ _ _ _ _
 refine C_seq ?_
 refine C_sr ?_
 refine sqv (ex_move (v := .int .i64 (n : Int)) rfl) ?_
 refine sqv (ex_cmp (x := (n : Int)) (y := 0) (r := decide ((n : Int) = 0)) rfl rfl rfl) ?_
 show C _ _ _ _ _ _
 refine C_dec ((n : Int) = 0) rfl (fun hc1 => ?_) (fun hc1 => ?_)
 ·refine C_sr ?_
  refine sqv (ex_move (v := .slice none 0 0) rfl) ?_
  refine sqv (ex_assign (v := .slice none 0 0) rfl) ?_
  show C _ _ _ _ _ _
  refine C_ret ?_
  refine thn_ret ?_
  refine done_1 (v := .slice none 0 0) rfl rfl ?_
  have he : batEv n = [] := by rw [batEv, if_pos (by omega)]
  exact ⟨_, none, rfl, by first | exact Own.nil _ _ _ | (rw [he]; exact Own.nil _ _ _), hS0.none.non⟩
 refine C_skip ?_
 show C _ _ _ _ _ _
 refine C_seq ?_
 refine C_sr ?_
 refine sqv (ex_assign (v := .int .i64 0) rfl) ?_
 show C _ _ _ _ _ _
 refine C_block ?_
 have hS2 := St.non hS0
 refine C_loop (fun nn aa ww => ∃ (m0 : Nat → Value) (i : Nat) (v : Value) (en : Ent) (o : List Ev), nn = n - i ∧ aa = act 34 (upds m0 [(0, .int .i64 (n : Int)), (2, .slice none 0 0), (3, v), (4, .int .i64 (i : Int))]) [] ∧ St [] w0 ww [en] [] ∧ (i ≤ n) ∧ (Own 108 3 cE v o en) ∧ (o = ievs (fun i => i) i)) n ?_ ?_
 ·exact ⟨_, 0, (.slice none 0 0), none, [], rfl, act_upds ⟨(congrArg (Value.int .i64) (by first | rfl | omega)), rfl, rfl, (congrArg (Value.int .i64) (by first | rfl | omega)), trivial⟩, (St.pick (L := [none]) hS2 [0] (by decide)), (Nat.zero_le _), (Own.nil _ _ _), rfl⟩
 rintro n6 a7 W4 ⟨m3, i, v, en, o, rfl, rfl, hS5, hki, hO, ho⟩
 have hlo : o.length ≤ 900 := by rw [ho, ievs_len]; omega
 refine C_seq ?_
 refine C_sr ?_
 refine sqv (ex_move (v := .int .i64 (i : Int)) rfl) ?_
 refine sqv (ex_move (v := .int .i64 (n : Int)) rfl) ?_
 refine sqv (ex_cmp (x := (i : Int)) (y := (n : Int)) (r := decide ((i : Int) < (n : Int))) rfl rfl rfl) ?_
 show C _ _ _ _ _ _
 refine C_dec ((i : Int) < (n : Int)) rfl (fun hc8 => ?_) (fun hc8 => ?_)
 ·refine C_skip ?_
  show C _ _ _ _ _ _
  refine C_seq ?_
  refine C_block ?_
  refine C_region ?_
  refine sqv (ex_move (v := v) rfl) ?_
  refine sqv (ex_move (v := .int .i64 (i : Int)) rfl) ?_
  refine sqv (ex_build (vs := [(0, .int .i64 2), (1, .int .i64 (i : Int))]) (cells := #[.int .i64 2, .int .i64 (i : Int), .int .i64 0]) rfl (by kernel_rfl)) ?_
  refine sqE (st_bslice (vs := [.agg #[.int .i64 2, .int .i64 (i : Int), .int .i64 0]]) hS5 sl61 ze108 rfl (by simp [Value.cells]) rfl (by decide)) fun b9 W10 hS11 => ?_
  refine sqA (st_appendM (f := cE) (k := 3) (xs := o) (ys := [⟨2, (i : Int), 0⟩]) (fun _ => rfl) (fun _ => ones_of rfl) (by decide) 1 hS11 (hO) ((sl_row (f := cE) (k := 3) (t := 108) (b := b9) (n := 1) (cs := #[.int .i64 2, .int .i64 (i : Int), .int .i64 0]) (ys := [⟨2, (i : Int), 0⟩]) (fun _ => rfl) rfl (Nat.le_of_ble_eq_true rfl) rfl)) (hS11.entH 0 rfl) rfl rfl rfl sl61 ze108 rfl (by first | omega | (simp only [List.length_append, List.length_cons, List.length_nil, maxLen]; omega)) (by first | omega | (simp only [List.length_append, List.length_cons, List.length_nil, maxLen]; omega))) fun u12 en13 W14 ⟨hS15, ho16⟩ => ?_
  refine sqv (ex_assign (v := u12) rfl) ?_
  refine blk_normal ?_
  show C _ _ _ _ _ _
  refine C_region ?_
  refine sqv (ex_move (v := .int .i64 (i : Int)) rfl) ?_
  refine nm ((i : Int) + 1) fun x17 hx17 => ?_
  refine sqv (ex_add (x := (i : Int)) (y := 1) rfl rfl (w64 hx17 (by omega))) ?_
  refine sqv (ex_assign (v := .int .i64 x17) rfl) ?_
  exact ⟨_, (by omega), ⟨_, (i + 1), u12, en13, (o ++ ([⟨2, (i : Int), 0⟩])), rfl, act_upds ⟨(congrArg (Value.int .i64) (by first | rfl | omega)), rfl, rfl, (congrArg (Value.int .i64) (by first | rfl | omega)), trivial⟩, (St.pick (L := [some (b9, .cells #[.int .i64 2, .int .i64 (i : Int), .int .i64 0] 108), en13]) hS15 [1] (by decide)), (by omega), ho16, (by rw [ho, ievs_succ])⟩⟩
 refine C_exit ?_
 refine thn_exit ?_
 refine thn_exit ?_
 refine blk_exit ?_
 show C _ _ _ _ _ _
 refine C_sr ?_
 refine sqv (ex_move (v := v) rfl) ?_
 refine sqc (exe_call (args := #[]) en172 args_of0) (c_rPowE W4) ?_
 rintro v22 W18 ⟨_, en23, rfl, hp24, hT20⟩
 have hS19 := hS5.call hT20
 refine sqA (st_appendM (f := cE) (k := 3) (xs := o) (ys := pevs 64) (fun _ => rfl) (fun _ => ones_of rfl) (by decide) 1 hS19 (hO) ((hp24).slF) (hS19.entH 0 rfl) rfl rfl rfl sl61 ze108 rfl (by first | omega | (simp only [List.length_append, List.length_cons, List.length_nil, maxLen]; omega)) (by first | omega | (simp only [List.length_append, List.length_cons, List.length_nil, maxLen]; omega))) fun u25 en26 W27 ⟨hS28, ho29⟩ => ?_
 refine sqv (ex_assign (v := u25) rfl) ?_
 show C _ _ _ _ _ _
 refine C_seq ?_
 refine C_sr ?_
 refine sqv (ex_move (v := .int .i64 (n : Int)) rfl) ?_
 refine nm ((n : Int) - 1) fun x30 hx30 => ?_
 refine sqv (ex_sub (x := (n : Int)) (y := 1) rfl rfl (w64 hx30 (by omega))) ?_
 refine sqv (ex_assign (v := .int .i64 x30) rfl) ?_
 show C _ _ _ _ _ _
 refine C_block ?_
 refine C_loop (fun nn aa ww => ∃ (m0 : Nat → Value) (j : Nat) (v2 : Value) (en2 : Ent) (o2 : List Ev), nn = n - j ∧ aa = act 34 (upds m0 [(2, .slice none 0 0), (3, v2), (5, .int .i64 ((n : Int) - 1 - (j : Int)))]) [] ∧ St [] w0 ww [en2, en23] [] ∧ (j ≤ n) ∧ (Own 108 3 cE v2 o2 en2) ∧ (o2 = (o ++ pevs 64) ++ ievs (fun i => n - 1 - i) j)) n ?_ ?_
 ·exact ⟨_, 0, u25, en26, (o ++ (pevs 64)), rfl, act_upds ⟨rfl, rfl, (congrArg (Value.int .i64) (by first | rfl | omega)), trivial⟩, (St.pick (L := [en23, en26]) hS28 [1, 0] (by decide)), (Nat.zero_le _), ho29, (by rw [ievs_0, List.append_nil])⟩
 rintro n34 a35 W32 ⟨m31, j, v2, en2, o2, rfl, rfl, hS33, hkj, hO2, ho2⟩
 have hlo2 : o2.length ≤ 3000 := by rw [ho2, List.length_append, List.length_append, ievs_len]; omega
 refine C_seq ?_
 refine C_sr ?_
 refine sqv (ex_move (v := .int .i64 ((n : Int) - 1 - (j : Int))) rfl) ?_
 refine sqv (ex_cmp (x := ((n : Int) - 1 - (j : Int))) (y := 0) (r := decide (0 ≤ ((n : Int) - 1 - (j : Int)))) rfl rfl rfl) ?_
 show C _ _ _ _ _ _
 refine C_dec (0 ≤ ((n : Int) - 1 - (j : Int))) rfl (fun hc36 => ?_) (fun hc36 => ?_)
 ·refine C_skip ?_
  show C _ _ _ _ _ _
  refine C_seq ?_
  refine C_block ?_
  refine C_region ?_
  refine sqv (ex_move (v := v2) rfl) ?_
  refine sqv (ex_move (v := .int .i64 ((n : Int) - 1 - (j : Int))) rfl) ?_
  refine sqv (ex_build (vs := [(0, .int .i64 2), (1, .int .i64 ((n : Int) - 1 - (j : Int)))]) (cells := #[.int .i64 2, .int .i64 ((n : Int) - 1 - (j : Int)), .int .i64 0]) rfl (by kernel_rfl)) ?_
  refine sqE (st_bslice (vs := [.agg #[.int .i64 2, .int .i64 ((n : Int) - 1 - (j : Int)), .int .i64 0]]) hS33 sl61 ze108 rfl (by simp [Value.cells]) rfl (by decide)) fun b37 W38 hS39 => ?_
  refine sqA (st_appendM (f := cE) (k := 3) (xs := o2) (ys := [⟨2, ((n : Int) - 1 - (j : Int)), 0⟩]) (fun _ => rfl) (fun _ => ones_of rfl) (by decide) 1 hS39 (hO2) ((sl_row (f := cE) (k := 3) (t := 108) (b := b37) (n := 1) (cs := #[.int .i64 2, .int .i64 ((n : Int) - 1 - (j : Int)), .int .i64 0]) (ys := [⟨2, ((n : Int) - 1 - (j : Int)), 0⟩]) (fun _ => rfl) rfl (Nat.le_of_ble_eq_true rfl) rfl)) (hS39.entH 0 rfl) rfl rfl rfl sl61 ze108 rfl (by first | omega | (simp only [List.length_append, List.length_cons, List.length_nil, maxLen]; omega)) (by first | omega | (simp only [List.length_append, List.length_cons, List.length_nil, maxLen]; omega))) fun u40 en41 W42 ⟨hS43, ho44⟩ => ?_
  refine sqv (ex_assign (v := u40) rfl) ?_
  refine blk_normal ?_
  show C _ _ _ _ _ _
  refine C_region ?_
  refine sqv (ex_move (v := .int .i64 ((n : Int) - 1 - (j : Int))) rfl) ?_
  refine nm (((n : Int) - 1 - (j : Int)) - 1) fun x45 hx45 => ?_
  refine sqv (ex_sub (x := ((n : Int) - 1 - (j : Int))) (y := 1) rfl rfl (w64 hx45 (by omega))) ?_
  refine sqv (ex_assign (v := .int .i64 x45) rfl) ?_
  exact ⟨_, (by omega), ⟨_, (j + 1), u40, en41, (o2 ++ ([⟨2, ((n : Int) - 1 - (j : Int)), 0⟩])), rfl, act_upds ⟨rfl, rfl, (congrArg (Value.int .i64) (by first | rfl | omega)), trivial⟩, (St.pick (L := [some (b37, .cells #[.int .i64 2, .int .i64 ((n : Int) - 1 - (j : Int)), .int .i64 0] 108), en41, en23]) hS43 [1, 2] (by decide)), (by omega), ho44, (by rw [ho2, ievs_succ, ← List.append_assoc, show (((n - 1 - j : Nat)) : Int) = (n : Int) - 1 - (j : Int) from by omega])⟩⟩
 refine C_exit ?_
 refine thn_exit ?_
 refine thn_exit ?_
 refine blk_exit ?_
 show C _ _ _ _ _ _
 refine C_sr ?_
 refine sqv (ex_move (v := v2) rfl) ?_
 refine sqv (ex_assign (v := v2) rfl) ?_
 show C _ _ _ _ _ _
 refine C_ret ?_
 refine done_1 (v := v2) rfl rfl ?_
 have he : batEv n = o2 := by rw [ho2, ho, show i = n from by omega, show j = n from by omega, batEv, if_neg (by omega), List.append_assoc]
 exact ⟨_, _, rfl, by rw [he]; exact hO2, St.pick (L := [en2, en23]) hS33 [0] (by decide)⟩
theorem c_rWeightE (n : Nat) (w0 : World) (g0 : n < 900) : Calls Tryz.prog 130 #[.int .i64 (n : Int)] w0 (Ret fun uu w' => ∃ (v : Value), ∃ (en : Ent), uu = v ∧ (Own 108 3 cE v (wEv n) en) ∧ St [] w0 w' [en] []) := by
 have hb1 := pr_900 (n := n) (m := n) (i := n) (Nat.le_refl _) g0 g0 true
 have hb2 := batEv_len n
 refine calls_of Tryz.func130 rfl Tryz.ntmps130 (Nat.le_of_ble_eq_true rfl) ?_
 have hS0 := St.nil w0
 refine C_sr ?_
 refine sqv (ex_assign (v := .slice none 0 0) rfl) ?_
 show C _ _ _ _ _ _
 refine C_sr ?_
 refine sqv (ex_move (v := .int .i64 (n : Int)) rfl) ?_
 refine sqv (ex_move (v := .int .i64 (n : Int)) rfl) ?_
 refine sqc (exe_call (args := #[.int .i64 (n : Int), .int .i64 (n : Int), .bool true]) en131 (args_of3 rfl rfl rfl)) (c_PairsT n n w0 (by omega) (by omega)) ?_
 rintro v5 W1 ⟨_, en6, rfl, hp7, hT3⟩
 have hS2 := hS0.call hT3
 refine sqv (ex_move (v := .int .i64 (n : Int)) rfl) ?_
 refine sqc (exe_call (args := #[.int .i64 (n : Int)]) en156 (args_of1 rfl)) (c_rBatchE n W1 (by omega)) ?_
 rintro v12 W8 ⟨_, en13, rfl, hp14, hT10⟩
 have hS9 := hS2.call hT10
 refine sqA (st_appendM (f := cE) (k := 3) (xs := prEv n true n) (ys := batEv n) (fun _ => rfl) (fun _ => ones_of rfl) (by decide) 1 hS9 (hp7) ((hp14).slF) (hS9.entH 0 rfl) rfl rfl rfl sl61 ze108 rfl (by first | omega | (simp only [List.length_append, List.length_cons, List.length_nil, maxLen]; omega)) (by first | omega | (simp only [List.length_append, List.length_cons, List.length_nil, maxLen]; omega))) fun u15 en16 W17 ⟨hS18, ho19⟩ => ?_
 refine sqv (ex_assign (v := u15) rfl) ?_
 show C _ _ _ _ _ _
 refine C_ret ?_
 refine done_1 (v := u15) rfl rfl ?_
 have he : wEv n = prEv n true n ++ batEv n := by rw [wEv, prEv_T]
 exact ⟨_, _, rfl, by rw [he]; exact ho19, St.pick (L := [en13, en16]) hS18 [1] (by decide)⟩
theorem c_rInterpE (n : Nat) (w0 : World) (g0 : n < 900) : Calls Tryz.prog 93 #[.int .i64 (n : Int)] w0 (Ret fun uu w' => ∃ (v : Value), ∃ (en : Ent), uu = v ∧ (Own 108 3 cE v (iEv n) en) ∧ St [] w0 w' [en] []) := by
 have hb1 := pr_900 (n := n) (m := n) (i := n) (Nat.le_refl _) g0 g0 false
 have hb2 := wEv_len n
 have hb3 := sq_900 g0
 refine calls_of Tryz.func93 rfl Tryz.ntmps93 (Nat.le_of_ble_eq_true rfl) ?_
 have hS0 := St.nil w0
 refine C_sr ?_
 refine sqv (ex_assign (v := .slice none 0 0) rfl) ?_
 show C _ _ _ _ _ _
 refine C_sr ?_
 refine sqv (ex_move (v := .int .i64 (n : Int)) rfl) ?_
 refine sqc (exe_call (args := #[.int .i64 (n : Int)]) en130 (args_of1 rfl)) (c_rWeightE n w0 (by omega)) ?_
 rintro v5 W1 ⟨_, en6, rfl, hp7, hT3⟩
 have hS2 := hS0.call hT3
 refine sqv (ex_move (v := .int .i64 (n : Int)) rfl) ?_
 refine sqv (ex_move (v := .int .i64 (n : Int)) rfl) ?_
 refine sqc (exe_call (args := #[.int .i64 (n : Int), .int .i64 (n : Int), .bool false]) en131 (args_of3 rfl rfl rfl)) (c_PairsF n n W1 (by omega) (by omega)) ?_
 rintro v12 W8 ⟨_, en13, rfl, hp14, hT10⟩
 have hS9 := hS2.call hT10
 refine sqA (st_appendM (f := cE) (k := 3) (xs := wEv n) (ys := prEv n false n) (fun _ => rfl) (fun _ => ones_of rfl) (by decide) 1 hS9 (hp7) ((hp14).slF) (hS9.entH 0 rfl) rfl rfl rfl sl61 ze108 rfl (by first | omega | (simp only [List.length_append, List.length_cons, List.length_nil, maxLen]; omega)) (by first | omega | (simp only [List.length_append, List.length_cons, List.length_nil, maxLen]; omega))) fun u15 en16 W17 ⟨hS18, ho19⟩ => ?_
 refine sqv (ex_assign (v := u15) rfl) ?_
 show C _ _ _ _ _ _
 refine C_ret ?_
 refine done_1 (v := u15) rfl rfl ?_
 have he : iEv n = wEv n ++ prEv n false n := by rw [iEv, prEv_F]
 exact ⟨_, _, rfl, by rw [he]; exact ho19, St.pick (L := [en13, en16]) hS18 [1] (by decide)⟩
theorem c_rBelowE (n : Nat) (K : Int) (w0 : World) (g0 : n < 900) : Calls Tryz.prog 109 #[.int .i64 (n : Int), .int .i64 K] w0 (Ret fun uu w' => ∃ (v : Value), ∃ (en : Ent), uu = v ∧ (Own 108 3 cE v (bel K n) en) ∧ St [] w0 w' [en] []) := by
 refine calls_of Tryz.func109 rfl Tryz.ntmps109 (Nat.le_of_ble_eq_true rfl) ?_
 have hS0 := St.nil w0
 refine C_sr ?_
 refine sqv (ex_assign (v := .slice none 0 0) rfl) ?_
 show C _ _ _ _ _ _
 refine C_sr ?_
 refine sqv (ex_assign (v := .slice none 0 0) rfl) ?_
 show C _ _ _ _ _ _
 refine C_seq ?_
 refine C_sr ?_
 refine sqv (ex_assign (v := .int .i64 0) rfl) ?_
 show C _ _ _ _ _ _
 refine C_block ?_
 have hS1 := St.non hS0
 refine C_loop (fun nn aa ww => ∃ (m0 : Nat → Value) (i : Nat) (v : Value) (en : Ent) (o : List Ev), nn = n - i ∧ aa = act 21 (upds m0 [(0, .int .i64 (n : Int)), (1, .int .i64 K), (4, .slice none 0 0), (5, v), (6, .int .i64 (i : Int))]) [] ∧ St [] w0 ww [en] [] ∧ (i ≤ n) ∧ (Own 108 3 cE v o en) ∧ (o = bel K i)) n ?_ ?_
 ·exact ⟨_, 0, (.slice none 0 0), none, [], rfl, act_upds ⟨(congrArg (Value.int .i64) (by first | rfl | omega)), (congrArg (Value.int .i64) (by first | rfl | omega)), rfl, rfl, (congrArg (Value.int .i64) (by first | rfl | omega)), trivial⟩, (St.pick (L := [none]) hS1 [0] (by decide)), (Nat.zero_le _), (Own.nil _ _ _), rfl⟩
 rintro n5 a6 W3 ⟨m2, i, v, en, o, rfl, rfl, hS4, hki, hO, ho⟩
 have hlo : o.length ≤ 900 := by rw [ho]; have := bel_len K i; omega
 refine C_seq ?_
 refine C_sr ?_
 refine sqv (ex_move (v := .int .i64 (i : Int)) rfl) ?_
 refine sqv (ex_move (v := .int .i64 (n : Int)) rfl) ?_
 refine sqv (ex_cmp (x := (i : Int)) (y := (n : Int)) (r := decide ((i : Int) < (n : Int))) rfl rfl rfl) ?_
 show C _ _ _ _ _ _
 refine C_dec ((i : Int) < (n : Int)) rfl (fun hc7 => ?_) (fun hc7 => ?_)
 ·refine C_skip ?_
  show C _ _ _ _ _ _
  refine C_seq ?_
  refine C_block ?_
  refine C_sr ?_
  refine sqv (ex_move (v := .int .i64 (i : Int)) rfl) ?_
  refine sqv (ex_move (v := .int .i64 K) rfl) ?_
  refine sqv (ex_cmp (x := (i : Int)) (y := K) (r := decide (K ≤ (i : Int))) rfl rfl rfl) ?_
  show C _ _ _ _ _ _
  refine C_dec (K ≤ (i : Int)) rfl (fun hc8 => ?_) (fun hc8 => ?_)
  ·refine C_region ?_
   refine sqv (ex_move (v := v) rfl) ?_
   refine sqv (ex_move (v := .int .i64 (i : Int)) rfl) ?_
   refine sqv (ex_build (vs := [(0, .int .i64 2), (1, .int .i64 (i : Int))]) (cells := #[.int .i64 2, .int .i64 (i : Int), .int .i64 0]) rfl (by kernel_rfl)) ?_
   refine sqE (st_bslice (vs := [.agg #[.int .i64 2, .int .i64 (i : Int), .int .i64 0]]) hS4 sl61 ze108 rfl (by simp [Value.cells]) rfl (by decide)) fun b9 W10 hS11 => ?_
   refine sqA (st_appendM (f := cE) (k := 3) (xs := o) (ys := [⟨2, (i : Int), 0⟩]) (fun _ => rfl) (fun _ => ones_of rfl) (by decide) 1 hS11 (hO) ((sl_row (f := cE) (k := 3) (t := 108) (b := b9) (n := 1) (cs := #[.int .i64 2, .int .i64 (i : Int), .int .i64 0]) (ys := [⟨2, (i : Int), 0⟩]) (fun _ => rfl) rfl (Nat.le_of_ble_eq_true rfl) rfl)) (hS11.entH 0 rfl) rfl rfl rfl sl61 ze108 rfl (by simp only [List.length_append, List.length_cons, List.length_nil, maxLen]; omega) (by simp only [List.length_append, List.length_cons, List.length_nil, maxLen]; omega)) fun u12 en13 W14 ⟨hS15, ho16⟩ => ?_
   refine sqv (ex_assign (v := u12) rfl) ?_
   refine blk_normal ?_
   show C _ _ _ _ _ _
   refine C_region ?_
   refine sqv (ex_move (v := .int .i64 (i : Int)) rfl) ?_
   refine nm ((i : Int) + 1) fun x17 hx17 => ?_
   refine sqv (ex_add (x := (i : Int)) (y := 1) rfl rfl (w64 hx17 (by omega))) ?_
   refine sqv (ex_assign (v := .int .i64 x17) rfl) ?_
   exact ⟨_, (by omega), ⟨_, (i + 1), u12, en13, (o ++ ([⟨2, (i : Int), 0⟩])), rfl, act_upds ⟨(congrArg (Value.int .i64) (by first | rfl | omega)), (congrArg (Value.int .i64) (by first | rfl | omega)), rfl, rfl, (congrArg (Value.int .i64) (by first | rfl | omega)), trivial⟩, (St.pick (L := [some (b9, .cells #[.int .i64 2, .int .i64 (i : Int), .int .i64 0] 108), en13]) hS15 [1] (by decide)), (by omega), ho16, (by first | (rw [ho, bel, if_pos (by omega)]) | (rw [ho, bel, if_neg (by omega), List.append_nil]))⟩⟩
  refine C_skip ?_
  refine blk_normal ?_
  show C _ _ _ _ _ _
  refine C_region ?_
  refine sqv (ex_move (v := .int .i64 (i : Int)) rfl) ?_
  refine nm ((i : Int) + 1) fun x18 hx18 => ?_
  refine sqv (ex_add (x := (i : Int)) (y := 1) rfl rfl (w64 hx18 (by omega))) ?_
  refine sqv (ex_assign (v := .int .i64 x18) rfl) ?_
  exact ⟨_, (by omega), ⟨_, (i + 1), v, en, o, rfl, act_upds ⟨(congrArg (Value.int .i64) (by first | rfl | omega)), (congrArg (Value.int .i64) (by first | rfl | omega)), rfl, rfl, (congrArg (Value.int .i64) (by first | rfl | omega)), trivial⟩, (St.pick (L := [en]) hS4 [0] (by decide)), (by omega), hO, (by first | (rw [ho, bel, if_pos (by omega)]) | (rw [ho, bel, if_neg (by omega), List.append_nil]))⟩⟩
 refine C_exit ?_
 refine thn_exit ?_
 refine thn_exit ?_
 refine blk_exit ?_
 show C _ _ _ _ _ _
 refine C_sr ?_
 refine sqv (ex_move (v := v) rfl) ?_
 refine sqv (ex_assign (v := v) rfl) ?_
 show C _ _ _ _ _ _
 refine C_ret ?_
 refine done_1 (v := v) rfl rfl ?_
 obtain rfl : i = n := by omega
 have he := ho.symm
 exact ⟨_, _, rfl, by rw [he]; exact hO, St.pick (L := [en]) hS4 [0] (by decide)⟩
theorem c_rFitsE (n : Nat) (K : Int) (w0 : World) (g0 : n < 900) : Calls Tryz.prog 66 #[.int .i64 (n : Int), .int .i64 K] w0 (Ret fun uu w' => ∃ (v : Value), ∃ (en : Ent), uu = v ∧ (Own 108 3 cE v (fEv n K) en) ∧ St [] w0 w' [en] []) := by
 have hb1 := iEv_len g0
 have hb2 := bel_len K n
 refine calls_of Tryz.func66 rfl Tryz.ntmps66 (Nat.le_of_ble_eq_true rfl) ?_
 have hS0 := St.nil w0
 refine C_sr ?_
 refine sqv (ex_assign (v := .slice none 0 0) rfl) ?_
 show C _ _ _ _ _ _
 refine C_sr ?_
 refine sqv (ex_move (v := .int .i64 (n : Int)) rfl) ?_
 refine sqc (exe_call (args := #[.int .i64 (n : Int)]) en93 (args_of1 rfl)) (c_rInterpE n w0 (by omega)) ?_
 rintro v5 W1 ⟨_, en6, rfl, hp7, hT3⟩
 have hS2 := hS0.call hT3
 refine sqv (ex_move (v := .int .i64 (n : Int)) rfl) ?_
 refine sqv (ex_move (v := .int .i64 K) rfl) ?_
 refine sqc (exe_call (args := #[.int .i64 (n : Int), .int .i64 K]) en109 (args_of2 rfl rfl)) (c_rBelowE n K W1 (by omega)) ?_
 rintro v12 W8 ⟨_, en13, rfl, hp14, hT10⟩
 have hS9 := hS2.call hT10
 refine sqA (st_appendM (f := cE) (k := 3) (xs := iEv n) (ys := bel K n) (fun _ => rfl) (fun _ => ones_of rfl) (by decide) 1 hS9 (hp7) ((hp14).slF) (hS9.entH 0 rfl) rfl rfl rfl sl61 ze108 rfl (by first | omega | (simp only [List.length_append, List.length_cons, List.length_nil, maxLen]; omega)) (by first | omega | (simp only [List.length_append, List.length_cons, List.length_nil, maxLen]; omega))) fun u15 en16 W17 ⟨hS18, ho19⟩ => ?_
 refine sqv (ex_assign (v := u15) rfl) ?_
 show C _ _ _ _ _ _
 refine C_ret ?_
 refine done_1 (v := u15) rfl rfl ?_
 have he : fEv n K = iEv n ++ bel K n := rfl
 exact ⟨_, _, rfl, by rw [he]; exact ho19, St.pick (L := [en13, en16]) hS18 [1] (by decide)⟩
theorem c_rAllE (n : Nat) (K : Int) (m : Nat) (w0 : World) (g0 : n < 900) (g1 : m < 1000) : Calls Tryz.prog 29 #[.int .i64 (n : Int), .int .i64 K, .int .i64 (m : Int)] w0 (Ret fun uu w' => ∃ (v : Value), ∃ (en : Ent), uu = v ∧ (Own 108 3 cE v (aEv n K m) en) ∧ St [] w0 w' [en] []) := by
 have hb1 := fEv_len g0 K
 refine calls_of Tryz.func29 rfl Tryz.ntmps29 (Nat.le_of_ble_eq_true rfl) ?_
 have hS0 := St.nil w0
 refine C_sr ?_
 refine sqv (ex_assign (v := .slice none 0 0) rfl) ?_
 show C _ _ _ _ _ _
 refine C_sr ?_
 refine sqv (ex_assign (v := .slice none 0 0) rfl) ?_
 show C _ _ _ _ _ _
 refine C_seq ?_
 refine C_sr ?_
 refine sqv (ex_assign (v := .int .i64 0) rfl) ?_
 show C _ _ _ _ _ _
 refine C_block ?_
 have hS1 := St.non hS0
 refine C_loop (fun nn aa ww => ∃ (m0 : Nat → Value) (i : Nat) (v : Value) (en : Ent) (o : List Ev), nn = m - i ∧ aa = act 25 (upds m0 [(0, .int .i64 (n : Int)), (1, .int .i64 K), (2, .int .i64 (m : Int)), (6, .slice none 0 0), (7, v), (8, .int .i64 (i : Int))]) [] ∧ St [] w0 ww [en] [] ∧ (i ≤ m) ∧ (Own 108 3 cE v o en) ∧ (o = aEv n K i)) m ?_ ?_
 ·exact ⟨_, 0, (.slice none 0 0), none, [], rfl, act_upds ⟨(congrArg (Value.int .i64) (by first | rfl | omega)), (congrArg (Value.int .i64) (by first | rfl | omega)), (congrArg (Value.int .i64) (by first | rfl | omega)), rfl, rfl, (congrArg (Value.int .i64) (by first | rfl | omega)), trivial⟩, (St.pick (L := [none]) hS1 [0] (by decide)), (Nat.zero_le _), (Own.nil _ _ _), rfl⟩
 rintro n5 a6 W3 ⟨m2, i, v, en, o, rfl, rfl, hS4, hki, hO, ho⟩
 have hlo : o.length ≤ 2000000000 := by rw [ho]; have := aEv_len g0 K i; omega
 refine C_seq ?_
 refine C_sr ?_
 refine sqv (ex_move (v := .int .i64 (i : Int)) rfl) ?_
 refine sqv (ex_move (v := .int .i64 (m : Int)) rfl) ?_
 refine sqv (ex_cmp (x := (i : Int)) (y := (m : Int)) (r := decide ((i : Int) < (m : Int))) rfl rfl rfl) ?_
 show C _ _ _ _ _ _
 refine C_dec ((i : Int) < (m : Int)) rfl (fun hc7 => ?_) (fun hc7 => ?_)
 ·refine C_skip ?_
  show C _ _ _ _ _ _
  refine C_seq ?_
  refine C_block ?_
  refine C_sr ?_
  refine sqv (ex_move (v := v) rfl) ?_
  refine sqv (ex_move (v := .int .i64 (i : Int)) rfl) ?_
  refine sqv (ex_build (vs := [(0, .int .i64 4), (1, .int .i64 (i : Int))]) (cells := #[.int .i64 4, .int .i64 (i : Int), .int .i64 0]) rfl (by kernel_rfl)) ?_
  refine sqE (st_bslice (vs := [.agg #[.int .i64 4, .int .i64 (i : Int), .int .i64 0]]) hS4 sl61 ze108 rfl (by simp [Value.cells]) rfl (by decide)) fun b8 W9 hS10 => ?_
  refine sqA (st_appendM (f := cE) (k := 3) (xs := o) (ys := [⟨4, (i : Int), 0⟩]) (fun _ => rfl) (fun _ => ones_of rfl) (by decide) 1 hS10 (hO) ((sl_row (f := cE) (k := 3) (t := 108) (b := b8) (n := 1) (cs := #[.int .i64 4, .int .i64 (i : Int), .int .i64 0]) (ys := [⟨4, (i : Int), 0⟩]) (fun _ => rfl) rfl (Nat.le_of_ble_eq_true rfl) rfl)) (hS10.entH 0 rfl) rfl rfl rfl sl61 ze108 rfl (by first | omega | (simp only [List.length_append, List.length_cons, List.length_nil, maxLen]; omega)) (by first | omega | (simp only [List.length_append, List.length_cons, List.length_nil, maxLen]; omega))) fun u11 en12 W13 ⟨hS14, ho15⟩ => ?_
  refine sqv (ex_assign (v := u11) rfl) ?_
  show C _ _ _ _ _ _
  refine C_region ?_
  refine sqv (ex_move (v := u11) rfl) ?_
  refine sqv (ex_move (v := .int .i64 (n : Int)) rfl) ?_
  refine sqv (ex_move (v := .int .i64 K) rfl) ?_
  refine sqc (exe_call (args := #[.int .i64 (n : Int), .int .i64 K]) en66 (args_of2 rfl rfl)) (c_rFitsE n K W13 (by omega)) ?_
  rintro v20 W16 ⟨_, en21, rfl, hp22, hT18⟩
  have hS17 := hS14.call hT18
  refine sqA (st_appendM (f := cE) (k := 3) (xs := o ++ ([⟨4, (i : Int), 0⟩])) (ys := fEv n K) (fun _ => rfl) (fun _ => ones_of rfl) (by decide) 2 hS17 (ho15) ((hp22).slF) (hS17.entH 0 rfl) rfl rfl rfl sl61 ze108 rfl (by first | omega | (simp only [List.length_append, List.length_cons, List.length_nil, maxLen]; omega)) (by first | omega | (simp only [List.length_append, List.length_cons, List.length_nil, maxLen]; omega))) fun u23 en24 W25 ⟨hS26, ho27⟩ => ?_
  refine sqv (ex_assign (v := u23) rfl) ?_
  refine blk_normal ?_
  show C _ _ _ _ _ _
  refine C_region ?_
  refine sqv (ex_move (v := .int .i64 (i : Int)) rfl) ?_
  refine nm ((i : Int) + 1) fun x28 hx28 => ?_
  refine sqv (ex_add (x := (i : Int)) (y := 1) rfl rfl (w64 hx28 (by omega))) ?_
  refine sqv (ex_assign (v := .int .i64 x28) rfl) ?_
  exact ⟨_, (by omega), ⟨_, (i + 1), u23, en24, ((o ++ ([⟨4, (i : Int), 0⟩])) ++ (fEv n K)), rfl, act_upds ⟨(congrArg (Value.int .i64) (by first | rfl | omega)), (congrArg (Value.int .i64) (by first | rfl | omega)), (congrArg (Value.int .i64) (by first | rfl | omega)), rfl, rfl, (congrArg (Value.int .i64) (by first | rfl | omega)), trivial⟩, (St.pick (L := [en21, some (b8, .cells #[.int .i64 4, .int .i64 (i : Int), .int .i64 0] 108), en24]) hS26 [2] (by decide)), (by omega), ho27, (by rw [ho, aEv, List.append_assoc]; rfl)⟩⟩
 refine C_exit ?_
 refine thn_exit ?_
 refine thn_exit ?_
 refine blk_exit ?_
 show C _ _ _ _ _ _
 refine C_sr ?_
 refine sqv (ex_move (v := v) rfl) ?_
 refine sqv (ex_assign (v := v) rfl) ?_
 show C _ _ _ _ _ _
 refine C_ret ?_
 refine done_1 (v := v) rfl rfl ?_
 obtain rfl : i = m := by omega
 have he := ho.symm
 exact ⟨_, _, rfl, by rw [he]; exact hO, St.pick (L := [en]) hS4 [0] (by decide)⟩
theorem c_rSuspE (n : Nat) (K : Int) (m : Nat) (w0 : World) (g0 : n < 900) (g1 : m < 1000) (g2 : 1 ≤ n) : Calls Tryz.prog 30 #[.int .i64 (n : Int), .int .i64 K, .int .i64 (m : Int)] w0 (Ret fun uu w' => ∃ (v : Value), ∃ (en : Ent), uu = v ∧ (Own 108 3 cE v (sEv n K m n) en) ∧ St [] w0 w' [en] []) := by
 obtain ⟨n1, hn1⟩ : ∃ n1, n = n1 + 1 := ⟨n - 1, (by omega)⟩
 have hb1 := aEv_len (n := n1) (by omega) K m
 refine calls_of Tryz.func30 rfl Tryz.ntmps30 (Nat.le_of_ble_eq_true rfl) ?_
 have hS0 := St.nil w0
 refine C_sr ?_
 refine sqv (ex_assign (v := .slice none 0 0) rfl) ?_
 show C _ _ _ _ _ _
 refine C_sr ?_
 refine sqv (ex_assign (v := .slice none 0 0) rfl) ?_
 show C _ _ _ _ _ _
 refine C_seq ?_
 refine C_sr ?_
 refine sqv (ex_assign (v := .int .i64 0) rfl) ?_
 show C _ _ _ _ _ _
 refine C_block ?_
 have hS1 := St.non hS0
 refine C_loop (fun nn aa ww => ∃ (m0 : Nat → Value) (i : Nat) (v : Value) (en : Ent) (o : List Ev), nn = n - i ∧ aa = act 27 (upds m0 [(0, .int .i64 (n : Int)), (1, .int .i64 K), (2, .int .i64 (m : Int)), (6, .slice none 0 0), (7, v), (8, .int .i64 (i : Int))]) [] ∧ St [] w0 ww [en] [] ∧ (i ≤ n) ∧ (Own 108 3 cE v o en) ∧ (o = sEv n K m i)) n ?_ ?_
 ·exact ⟨_, 0, (.slice none 0 0), none, [], rfl, act_upds ⟨(congrArg (Value.int .i64) (by first | rfl | omega)), (congrArg (Value.int .i64) (by first | rfl | omega)), (congrArg (Value.int .i64) (by first | rfl | omega)), rfl, rfl, (congrArg (Value.int .i64) (by first | rfl | omega)), trivial⟩, (St.pick (L := [none]) hS1 [0] (by decide)), (Nat.zero_le _), (Own.nil _ _ _), rfl⟩
 rintro n5 a6 W3 ⟨m2, i, v, en, o, rfl, rfl, hS4, hki, hO, ho⟩
 have hlo : o.length ≤ 1800000000900 := by rw [ho]; exact Nat.le_trans (sEv_len g0 K m i) (Nat.mul_le_mul (show i ≤ 900 from by omega) (show m * 2000000 + 1 ≤ 2000000001 from by omega))
 refine C_seq ?_
 refine C_sr ?_
 refine sqv (ex_move (v := .int .i64 (i : Int)) rfl) ?_
 refine sqv (ex_move (v := .int .i64 (n : Int)) rfl) ?_
 refine sqv (ex_cmp (x := (i : Int)) (y := (n : Int)) (r := decide ((i : Int) < (n : Int))) rfl rfl rfl) ?_
 show C _ _ _ _ _ _
 refine C_dec ((i : Int) < (n : Int)) rfl (fun hc7 => ?_) (fun hc7 => ?_)
 ·refine C_skip ?_
  show C _ _ _ _ _ _
  refine C_seq ?_
  refine C_block ?_
  refine C_sr ?_
  refine sqv (ex_move (v := v) rfl) ?_
  refine sqv (ex_move (v := .int .i64 (i : Int)) rfl) ?_
  refine sqv (ex_build (vs := [(0, .int .i64 5), (1, .int .i64 (i : Int))]) (cells := #[.int .i64 5, .int .i64 (i : Int), .int .i64 0]) rfl (by kernel_rfl)) ?_
  refine sqE (st_bslice (vs := [.agg #[.int .i64 5, .int .i64 (i : Int), .int .i64 0]]) hS4 sl61 ze108 rfl (by simp [Value.cells]) rfl (by decide)) fun b8 W9 hS10 => ?_
  refine sqA (st_appendM (f := cE) (k := 3) (xs := o) (ys := [⟨5, (i : Int), 0⟩]) (fun _ => rfl) (fun _ => ones_of rfl) (by decide) 1 hS10 (hO) ((sl_row (f := cE) (k := 3) (t := 108) (b := b8) (n := 1) (cs := #[.int .i64 5, .int .i64 (i : Int), .int .i64 0]) (ys := [⟨5, (i : Int), 0⟩]) (fun _ => rfl) rfl (Nat.le_of_ble_eq_true rfl) rfl)) (hS10.entH 0 rfl) rfl rfl rfl sl61 ze108 rfl (by first | omega | (simp only [List.length_append, List.length_cons, List.length_nil, maxLen]; omega)) (by first | omega | (simp only [List.length_append, List.length_cons, List.length_nil, maxLen]; omega))) fun u11 en12 W13 ⟨hS14, ho15⟩ => ?_
  refine sqv (ex_assign (v := u11) rfl) ?_
  show C _ _ _ _ _ _
  refine C_region ?_
  refine sqv (ex_move (v := u11) rfl) ?_
  refine sqv (ex_move (v := .int .i64 (n : Int)) rfl) ?_
  refine nm ((n : Int) - 1) fun x16 hx16 => ?_
  refine sqv (ex_sub (x := (n : Int)) (y := 1) rfl rfl (w64 hx16 (by omega))) ?_
  obtain rfl : x16 = (n1 : Int) := by omega
  refine sqv (ex_move (v := .int .i64 K) rfl) ?_
  refine sqv (ex_move (v := .int .i64 (m : Int)) rfl) ?_
  refine sqc (exe_call (args := #[.int .i64 (n1 : Int), .int .i64 K, .int .i64 (m : Int)]) en29 (args_of3 rfl rfl rfl)) (c_rAllE n1 K m W13 (by omega) (by omega)) ?_
  rintro v21 W17 ⟨_, en22, rfl, hp23, hT19⟩
  have hS18 := hS14.call hT19
  refine sqA (st_appendM (f := cE) (k := 3) (xs := o ++ ([⟨5, (i : Int), 0⟩])) (ys := aEv n1 K m) (fun _ => rfl) (fun _ => ones_of rfl) (by decide) 2 hS18 (ho15) ((hp23).slF) (hS18.entH 0 rfl) rfl rfl rfl sl61 ze108 rfl (by first | omega | (simp only [List.length_append, List.length_cons, List.length_nil, maxLen]; omega)) (by first | omega | (simp only [List.length_append, List.length_cons, List.length_nil, maxLen]; omega))) fun u24 en25 W26 ⟨hS27, ho28⟩ => ?_
  refine sqv (ex_assign (v := u24) rfl) ?_
  refine blk_normal ?_
  show C _ _ _ _ _ _
  refine C_region ?_
  refine sqv (ex_move (v := .int .i64 (i : Int)) rfl) ?_
  refine nm ((i : Int) + 1) fun x29 hx29 => ?_
  refine sqv (ex_add (x := (i : Int)) (y := 1) rfl rfl (w64 hx29 (by omega))) ?_
  refine sqv (ex_assign (v := .int .i64 x29) rfl) ?_
  exact ⟨_, (by omega), ⟨_, (i + 1), u24, en25, ((o ++ ([⟨5, (i : Int), 0⟩])) ++ (aEv n1 K m)), rfl, act_upds ⟨(congrArg (Value.int .i64) (by first | rfl | omega)), (congrArg (Value.int .i64) (by first | rfl | omega)), (congrArg (Value.int .i64) (by first | rfl | omega)), rfl, rfl, (congrArg (Value.int .i64) (by first | rfl | omega)), trivial⟩, (St.pick (L := [en22, some (b8, .cells #[.int .i64 5, .int .i64 (i : Int), .int .i64 0] 108), en25]) hS27 [2] (by decide)), (by omega), ho28, (by rw [ho, sEv, List.append_assoc, show n - 1 = n1 from by omega]; rfl)⟩⟩
 refine C_exit ?_
 refine thn_exit ?_
 refine thn_exit ?_
 refine blk_exit ?_
 show C _ _ _ _ _ _
 refine C_sr ?_
 refine sqv (ex_move (v := v) rfl) ?_
 refine sqv (ex_assign (v := v) rfl) ?_
 show C _ _ _ _ _ _
 refine C_ret ?_
 refine done_1 (v := v) rfl rfl ?_
 obtain rfl : i = n := by omega
 have he := ho.symm
 exact ⟨_, _, rfl, by rw [he]; exact hO, St.pick (L := [en]) hS4 [0] (by decide)⟩
end Go.Proofs
end
section
set_option linter.unusedVariables false
set_option linter.unusedSimpArgs false
set_option maxRecDepth 20000
set_option maxHeartbeats 2000000
namespace Go.Proofs
open Sc
theorem en67 : enters Tryz.prog 67 = true := by kernel_rfl
theorem st3_108 : st3 Tryz.prog 108 = true := by kernel_rfl
theorem ev_eq {x y : Ev} (h : ¬ ¬ (x.kind = y.kind ∧ x.a = y.a ∧ x.b = y.b)) : x = y := by
 obtain ⟨h1, h2, h3⟩ := Classical.not_not.1 h
 cases x; cases y; simp at h1 h2 h3; rw [h1, h2, h3]
theorem ev_ne {l m : List Ev} {k : Nat} {x y : Ev} (hx : l[k]? = some x) (hy : m[k]? = some y) (h : ¬ (x.kind = y.kind ∧ x.a = y.a ∧ x.b = y.b)) : l[k]? ≠ m[k]? := by
 rw [hx, hy]; intro e; cases e; exact h ⟨rfl, rfl, rfl⟩
instance : DecidableEq Ev := fun a b => by
  cases a; cases b; simp only [Ev.mk.injEq]; exact inferInstance
def cmn : List Ev → List Ev → Nat
  | a :: l, b :: m => if a = b then cmn l m + 1 else 0
  | _, _ => 0
theorem cmn_at : ∀ {l m : List Ev} {k : Nat}, l.take k = m.take k → k ≤ l.length → k ≤ m.length → (k = l.length ∨ k = m.length ∨ l[k]? ≠ m[k]?) → cmn l m = k
  | [], m, k, _, h1, _, _ => by simp at h1; subst h1; rfl
  | a :: l, [], k, _, _, h2, _ => by simp at h2; subst h2; rfl
  | a :: l, b :: m, 0, _, _, _, h => by
    have : a ≠ b := by rcases h with h | h | h <;> simp at h; exact h
    rw [cmn, if_neg this]
  | a :: l, b :: m, k + 1, h, h1, h2, h3 => by
    simp only [List.take_succ_cons, List.cons.injEq] at h
    rw [cmn, if_pos h.1, cmn_at h.2 (by simpa using h1) (by simpa using h2) (by simpa using h3)]
def firstEv (l m : List Ev) : Int := if l = m then -1 else (cmn l m : Int)
theorem firstEv_eq {l m : List Ev} : decide (firstEv l m = -1) = decide (l = m) := by
 unfold firstEv; by_cases h : l = m
 ·rw [if_pos h]; simp [h]
 rw [if_neg h, decide_eq_false (by omega), decide_eq_false h]
theorem firstEv_all {l m : List Ev} {k : Nat} (h : l.take k = m.take k) (h1 : k = l.length) (h2 : k = m.length) : firstEv l m = -1 := by
 rw [List.take_of_length_le (by omega), List.take_of_length_le (by omega)] at h; rw [firstEv, if_pos h]
theorem firstEv_at {l m : List Ev} {k : Nat} (h : l.take k = m.take k) (h1 : k ≤ l.length) (h2 : k ≤ m.length) (h3 : k = l.length ∨ k = m.length ∨ l[k]? ≠ m[k]?) (h4 : l ≠ m) : firstEv l m = (k : Int) := by
 rw [firstEv, if_neg h4, cmn_at h h1 h2 h3]
theorem c_rFirst  (s : Value) (l : List Ev) (y : Value) (m : List Ev) (Z0 : List Fact) (w0 : World) (g0 : l.length < 1000000000000) (g1 : m.length < 1000000000000) (hZ0 : Holds w0 Z0) (hs_s : Sl Z0 108 3 s (l.flatMap cE)) (hs_y : Sl Z0 108 3 y (m.flatMap cE)) : Calls Tryz.prog 67 #[s, y] w0 (Ret fun uu w' => uu = .int .i64 (firstEv l m) ∧ St [] w0 w' [] []) := by
 refine calls_of Tryz.func67 rfl Tryz.ntmps67 (Nat.le_of_ble_eq_true rfl) ?_
 have hS0 := St.nil w0
 refine C_sr ?_
 refine sqv (ex_assign (v := .int .i64 0) rfl) ?_
 show C _ _ _ _ _ _
 refine C_sr ?_
 refine sqv (ex_assign (v := .int .i64 0) rfl) ?_
 show C _ _ _ _ _ _
 refine C_seq ?_
 refine C_block ?_
 refine C_loop (fun nn aa ww => ∃ (m0 : Nat → Value) (k : Nat), nn = l.length - k ∧ aa = act 39 (upds m0 [(0, s), (1, y), (5, .int .i64 (k : Int))]) [] ∧ St [] w0 ww [] [] ∧ (k ≤ l.length ∧ k ≤ m.length) ∧ (l.take k = m.take k)) l.length ?_ ?_
 ·exact ⟨_, 0, rfl, act_upds ⟨rfl, rfl, (congrArg (Value.int .i64) (by first | rfl | omega)), trivial⟩, (St.pick (L := []) hS0 [] (by decide)), ⟨Nat.zero_le _, Nat.zero_le _⟩, rfl⟩
 rintro n4 a5 W2 ⟨m1, k, rfl, rfl, hS3, hk, hE⟩
 refine C_seq ?_
 refine C_sr ?_
 refine sqv (ex_move (v := .int .i64 (k : Int)) rfl) ?_
 refine sqv (ex_move (v := s) rfl) ?_
 refine sqv (ex_lenO (f := cE) (k := 3) (r := (l.length : Int)) (fun _ => rfl) (by decide) (hs_s) rfl sl61 rfl) ?_
 refine nm (decide ((k : Int) < (l.length : Int))) fun t6 ht6 => ?_
 refine sqv (ex_cmp (x := (k : Int)) (y := (l.length : Int)) rfl rfl ht6) ?_
 refine sqv (ex_move (v := .bool t6) rfl) ?_
 rcases bool_cases t6 with hb7 | hb7
 ·subst hb7
  have hb7 := of_decide_eq_true ht6.symm
  refine guard_yes (b := true) rfl rfl ?_
  refine sqv (ex_move (v := .int .i64 (k : Int)) rfl) ?_
  refine guard_yes (b := true) rfl rfl ?_
  refine sqv (ex_move (v := y) rfl) ?_
  refine guard_yes (b := true) rfl rfl ?_
  refine sqv (ex_lenO (f := cE) (k := 3) (r := (m.length : Int)) (fun _ => rfl) (by decide) (hs_y) rfl sl61 rfl) ?_
  refine guard_yes (b := true) rfl rfl ?_
  refine nm (decide ((k : Int) < (m.length : Int))) fun t8 ht8 => ?_
  refine sqv (ex_cmp (x := (k : Int)) (y := (m.length : Int)) rfl rfl ht8) ?_
  refine sqv (ex_pick (t := true) (v := .bool t8) rfl rfl) ?_
  show C _ _ _ _ _ _
  refine C_if (t := t8) rfl (fun hc9 => ?_) (fun hc9 => ?_)
  ·have hc9' := of_decide_eq_true (ht8.symm.trans hc9)
   refine C_skip ?_
   show C _ _ _ _ _ _
   refine C_block ?_
   refine C_seq ?_
   refine C_seq ?_
   obtain ⟨y10, hy11⟩ := get_lt l k (by first | omega | (simp only [List.length_set, List.length_replicate, List.length_append, List.length_take, List.length_drop, List.length_cons, List.length_nil, List.length_map]; omega))
   obtain ⟨b12, o13, hI14, hC15⟩ := sl_at (f := cE) (k := 3) (fun _ => rfl) (by decide) (hs_s) hy11
   obtain ⟨y16, hy17⟩ := get_lt m k (by first | omega | (simp only [List.length_set, List.length_replicate, List.length_append, List.length_take, List.length_drop, List.length_cons, List.length_nil, List.length_map]; omega))
   obtain ⟨b18, o19, hI20, hC21⟩ := sl_at (f := cE) (k := 3) (fun _ => rfl) (by decide) (hs_y) hy17
   refine C_draw (p := 9) (l := [(some 16, s), (some 17, .int .i64 (k : Int)), (some 18, .pointer (some ⟨b12, o13, none⟩)), (some 19, .agg #[.int .i64 y10.kind, .int .i64 y10.a, .int .i64 y10.b]), (some 20, y), (some 21, .int .i64 (k : Int)), (some 22, .pointer (some ⟨b18, o19, none⟩)), (some 23, .agg #[.int .i64 y16.kind, .int .i64 y16.a, .int .i64 y16.b]), (some 24, .bool (decide (¬ (y10.kind = y16.kind ∧ y10.a = y16.a ∧ y10.b = y16.b))))]) (G := []) (J := fun w => St [] w0 w [] []) mixed ?_ (hS3.draw _)
   refine node1 9 [] [] [] (by kernel_rfl) rfl rfl (nd rfl) rfl (by kernel_rfl) ?_ ?_ ?_
   ·intro S wd hSd
    refine ⟨n0 rfl rfl rfl (ex_move (v := s) rfl) rfl hSd, n0 rfl rfl rfl (ex_move (v := .int .i64 (k : Int)) rfl) rfl hSd, n2 rfl rfl rfl rfl (fun hq0 hq1 => (ex_sindexO hI14 (evS hq0 rfl rfl) (evS hq1 rfl rfl) sl61 rfl)) rfl hSd, n1 rfl rfl rfl rfl (fun hq2 => (ex_loadsC (r := 0) (vs := [.int .i64 y10.kind, .int .i64 y10.a, .int .i64 y10.b]) hC15 (hSd.holds0 hZ0) (evS hq2 rfl rfl) ag108 rfl rfl rfl)) rfl hSd, n0 rfl rfl rfl (ex_move (v := y) rfl) rfl hSd, n0 rfl rfl rfl (ex_move (v := .int .i64 (k : Int)) rfl) rfl hSd, n2 rfl rfl rfl rfl (fun hq4 hq5 => (ex_sindexO hI20 (evS hq4 rfl rfl) (evS hq5 rfl rfl) sl61 rfl)) rfl hSd, n1 rfl rfl rfl rfl (fun hq6 => (ex_loadsC (r := 0) (vs := [.int .i64 y16.kind, .int .i64 y16.a, .int .i64 y16.b]) hC21 (hSd.holds0 hZ0) (evS hq6 rfl rfl) ag108 rfl rfl rfl)) rfl hSd, ?_, tt⟩
    refine needG rfl ?_
    rintro ⟨hq3, hq7, _⟩ hno
    exact dx (wanted_none rfl) rfl (ex_eq3 (t := decide (¬ (y10.kind = y16.kind ∧ y10.a = y16.a ∧ y10.b = y16.b))) st3_108 (evS hq3 rfl rfl) (evS hq7 rfl rfl) rfl) ⟨rfl, hSd⟩
   ·exact fun S wd hSd => ⟨True.intro, True.intro, True.intro, True.intro, True.intro, True.intro, True.intro, True.intro, True.intro, True.intro⟩
   intro _ W22 hS23
   show C _ _ _ _ _ _
   refine C_dec (¬ (y10.kind = y16.kind ∧ y10.a = y16.a ∧ y10.b = y16.b)) rfl (fun hc24 => ?_) (fun hc24 => ?_)
   ·refine C_sr ?_
    refine sqv (ex_move (v := .int .i64 (k : Int)) rfl) ?_
    refine sqv (ex_assign (v := .int .i64 (k : Int)) rfl) ?_
    show C _ _ _ _ _ _
    refine C_ret ?_
    refine thn_ret ?_
    refine blk_ret ?_
    refine thn_ret ?_
    refine blk_ret ?_
    refine thn_ret ?_
    refine done_1 (v := .int .i64 (k : Int)) rfl rfl ?_
    exact ⟨congrArg _ (firstEv_at hE hk.1 hk.2 (.inr (.inr (ev_ne hy11 hy17 hc24))) (fun h => ev_ne hy11 hy17 hc24 (by rw [h]))).symm, hS23.none⟩
   refine C_skip ?_
   show C _ _ _ _ _ _
   refine C_region ?_
   refine sqv (ex_move (v := .int .i64 (k : Int)) rfl) ?_
   refine nm ((k : Int) + 1) fun x25 hx25 => ?_
   refine sqv (ex_add (x := (k : Int)) (y := 1) rfl rfl (w64 hx25 (by omega))) ?_
   refine sqv (ex_assign (v := .int .i64 x25) rfl) ?_
   refine blk_normal ?_
   exact ⟨_, (by omega), ⟨_, (k + 1), rfl, act_upds ⟨rfl, rfl, (congrArg (Value.int .i64) (by first | rfl | omega)), trivial⟩, (St.pick (L := []) hS23 [] (by decide)), (by omega), (by rw [take_snoc hy11, take_snoc hy17, hE, ev_eq hc24])⟩⟩
  have hc9' := of_decide_eq_false (ht8.symm.trans hc9)
  refine C_exit ?_
  refine thn_exit ?_
  refine thn_exit ?_
  refine blk_exit ?_
  show C _ _ _ _ _ _
  refine C_seq ?_
  refine C_sr ?_
  refine sqv (ex_move (v := .int .i64 (k : Int)) rfl) ?_
  refine sqv (ex_move (v := s) rfl) ?_
  refine sqv (ex_lenO (f := cE) (k := 3) (r := (l.length : Int)) (fun _ => rfl) (by decide) (hs_s) rfl sl61 rfl) ?_
  refine nm (decide ((k : Int) = (l.length : Int))) fun t26 ht26 => ?_
  refine sqv (ex_cmp (x := (k : Int)) (y := (l.length : Int)) rfl rfl ht26) ?_
  refine sqv (ex_move (v := .bool t26) rfl) ?_
  rcases bool_cases t26 with hb27 | hb27
  ·subst hb27
   have hb27 := of_decide_eq_true ht26.symm
   refine guard_yes (b := true) rfl rfl ?_
   refine sqv (ex_move (v := .int .i64 (k : Int)) rfl) ?_
   refine guard_yes (b := true) rfl rfl ?_
   refine sqv (ex_move (v := y) rfl) ?_
   refine guard_yes (b := true) rfl rfl ?_
   refine sqv (ex_lenO (f := cE) (k := 3) (r := (m.length : Int)) (fun _ => rfl) (by decide) (hs_y) rfl sl61 rfl) ?_
   refine guard_yes (b := true) rfl rfl ?_
   refine nm (decide ((k : Int) = (m.length : Int))) fun t28 ht28 => ?_
   refine sqv (ex_cmp (x := (k : Int)) (y := (m.length : Int)) rfl rfl ht28) ?_
   refine sqv (ex_pick (t := true) (v := .bool t28) rfl rfl) ?_
   show C _ _ _ _ _ _
   refine C_if (t := t28) rfl (fun hc29 => ?_) (fun hc29 => ?_)
   ·have hc29' := of_decide_eq_true (ht28.symm.trans hc29)
    refine C_sr ?_
    refine sqv (ex_assign (v := .int .i64 (-1)) rfl) ?_
    show C _ _ _ _ _ _
    refine C_ret ?_
    refine thn_ret ?_
    refine done_1 (v := .int .i64 (-1)) rfl rfl ?_
    exact ⟨congrArg _ (firstEv_all hE (by omega) (by omega)).symm, hS3.none⟩
   have hc29' := of_decide_eq_false (ht28.symm.trans hc29)
   refine C_skip ?_
   show C _ _ _ _ _ _
   refine C_sr ?_
   refine sqv (ex_move (v := .int .i64 (k : Int)) rfl) ?_
   refine sqv (ex_assign (v := .int .i64 (k : Int)) rfl) ?_
   show C _ _ _ _ _ _
   refine C_ret ?_
   refine done_1 (v := .int .i64 (k : Int)) rfl rfl ?_
   exact ⟨congrArg _ (firstEv_at hE hk.1 hk.2 (by first | (left; omega) | (right; left; omega)) (fun h => by subst h; omega)).symm, hS3.none⟩
  subst hb27
  have hb27 := of_decide_eq_false ht26.symm
  refine guard_no (b' := false) rfl rfl (by decide) ?_
  refine guard_no (b' := false) rfl rfl (by decide) ?_
  refine guard_no (b' := false) rfl rfl (by decide) ?_
  refine guard_no (b' := false) rfl rfl (by decide) ?_
  refine sqv (ex_pick (t := false) (v := .bool false) rfl rfl) ?_
  show C _ _ _ _ _ _
  refine C_false rfl ?_
  refine C_skip ?_
  show C _ _ _ _ _ _
  refine C_sr ?_
  refine sqv (ex_move (v := .int .i64 (k : Int)) rfl) ?_
  refine sqv (ex_assign (v := .int .i64 (k : Int)) rfl) ?_
  show C _ _ _ _ _ _
  refine C_ret ?_
  refine done_1 (v := .int .i64 (k : Int)) rfl rfl ?_
  exact ⟨congrArg _ (firstEv_at hE hk.1 hk.2 (by first | (left; omega) | (right; left; omega)) (fun h => by subst h; omega)).symm, hS3.none⟩
 subst hb7
 have hb7 := of_decide_eq_false ht6.symm
 refine guard_no (b' := false) rfl rfl (by decide) ?_
 refine guard_no (b' := false) rfl rfl (by decide) ?_
 refine guard_no (b' := false) rfl rfl (by decide) ?_
 refine guard_no (b' := false) rfl rfl (by decide) ?_
 refine sqv (ex_pick (t := false) (v := .bool false) rfl rfl) ?_
 show C _ _ _ _ _ _
 refine C_false rfl ?_
 refine C_exit ?_
 refine thn_exit ?_
 refine thn_exit ?_
 refine blk_exit ?_
 show C _ _ _ _ _ _
 refine C_seq ?_
 refine C_sr ?_
 refine sqv (ex_move (v := .int .i64 (k : Int)) rfl) ?_
 refine sqv (ex_move (v := s) rfl) ?_
 refine sqv (ex_lenO (f := cE) (k := 3) (r := (l.length : Int)) (fun _ => rfl) (by decide) (hs_s) rfl sl61 rfl) ?_
 refine nm (decide ((k : Int) = (l.length : Int))) fun t30 ht30 => ?_
 refine sqv (ex_cmp (x := (k : Int)) (y := (l.length : Int)) rfl rfl ht30) ?_
 refine sqv (ex_move (v := .bool t30) rfl) ?_
 rcases bool_cases t30 with hb31 | hb31
 ·subst hb31
  have hb31 := of_decide_eq_true ht30.symm
  refine guard_yes (b := true) rfl rfl ?_
  refine sqv (ex_move (v := .int .i64 (k : Int)) rfl) ?_
  refine guard_yes (b := true) rfl rfl ?_
  refine sqv (ex_move (v := y) rfl) ?_
  refine guard_yes (b := true) rfl rfl ?_
  refine sqv (ex_lenO (f := cE) (k := 3) (r := (m.length : Int)) (fun _ => rfl) (by decide) (hs_y) rfl sl61 rfl) ?_
  refine guard_yes (b := true) rfl rfl ?_
  refine nm (decide ((k : Int) = (m.length : Int))) fun t32 ht32 => ?_
  refine sqv (ex_cmp (x := (k : Int)) (y := (m.length : Int)) rfl rfl ht32) ?_
  refine sqv (ex_pick (t := true) (v := .bool t32) rfl rfl) ?_
  show C _ _ _ _ _ _
  refine C_if (t := t32) rfl (fun hc33 => ?_) (fun hc33 => ?_)
  ·have hc33' := of_decide_eq_true (ht32.symm.trans hc33)
   refine C_sr ?_
   refine sqv (ex_assign (v := .int .i64 (-1)) rfl) ?_
   show C _ _ _ _ _ _
   refine C_ret ?_
   refine thn_ret ?_
   refine done_1 (v := .int .i64 (-1)) rfl rfl ?_
   exact ⟨congrArg _ (firstEv_all hE (by omega) (by omega)).symm, hS3.none⟩
  have hc33' := of_decide_eq_false (ht32.symm.trans hc33)
  refine C_skip ?_
  show C _ _ _ _ _ _
  refine C_sr ?_
  refine sqv (ex_move (v := .int .i64 (k : Int)) rfl) ?_
  refine sqv (ex_assign (v := .int .i64 (k : Int)) rfl) ?_
  show C _ _ _ _ _ _
  refine C_ret ?_
  refine done_1 (v := .int .i64 (k : Int)) rfl rfl ?_
  exact ⟨congrArg _ (firstEv_at hE hk.1 hk.2 (by first | (left; omega) | (right; left; omega)) (fun h => by subst h; omega)).symm, hS3.none⟩
 subst hb31
 have hb31 := of_decide_eq_false ht30.symm
 refine guard_no (b' := false) rfl rfl (by decide) ?_
 refine guard_no (b' := false) rfl rfl (by decide) ?_
 refine guard_no (b' := false) rfl rfl (by decide) ?_
 refine guard_no (b' := false) rfl rfl (by decide) ?_
 refine sqv (ex_pick (t := false) (v := .bool false) rfl rfl) ?_
 show C _ _ _ _ _ _
 refine C_false rfl ?_
 refine C_skip ?_
 show C _ _ _ _ _ _
 refine C_sr ?_
 refine sqv (ex_move (v := .int .i64 (k : Int)) rfl) ?_
 refine sqv (ex_assign (v := .int .i64 (k : Int)) rfl) ?_
 show C _ _ _ _ _ _
 refine C_ret ?_
 refine done_1 (v := .int .i64 (k : Int)) rfl rfl ?_
 exact ⟨congrArg _ (firstEv_at hE hk.1 hk.2 (by first | (left; omega) | (right; left; omega)) (fun h => by subst h; omega)).symm, hS3.none⟩
theorem c_rSame  (s : Value) (l : List Ev) (y : Value) (m : List Ev) (Z0 : List Fact) (w0 : World) (g0 : l.length < 1000000000000) (g1 : m.length < 1000000000000) (hZ0 : Holds w0 Z0) (hs_s : Sl Z0 108 3 s (l.flatMap cE)) (hs_y : Sl Z0 108 3 y (m.flatMap cE)) : Calls Tryz.prog 31 #[s, y] w0 (Ret fun uu w' => uu = .bool (decide (l = m)) ∧ St [] w0 w' [] []) := by
 refine calls_of Tryz.func31 rfl Tryz.ntmps31 (Nat.le_of_ble_eq_true rfl) ?_
 have hS0 := St.nil w0
 refine C_sr ?_
 refine sqv (ex_assign (v := .bool false) rfl) ?_
 show C _ _ _ _ _ _
 refine C_sr ?_
 refine sqv (ex_move (v := s) rfl) ?_
 refine sqv (ex_move (v := y) rfl) ?_
 refine sqc (exe_call (args := #[s, y]) en67 (args_of2 rfl rfl)) (c_rFirst s l y m Z0 w0 (by omega) (by omega) (hS0.holds0 hZ0) (hs_s) (hs_y)) ?_
 rintro _ W1 ⟨rfl, hT3⟩
 have hS2 := hS0.call hT3
 refine sqv (ex_cmp (x := (firstEv l m)) (y := (-1)) (r := decide ((firstEv l m) = (-1))) rfl rfl rfl) ?_
 refine sqv (ex_assign (v := .bool (decide ((firstEv l m) = (-1)))) rfl) ?_
 show C _ _ _ _ _ _
 refine C_ret ?_
 refine done_1 (v := .bool (decide ((firstEv l m) = (-1)))) rfl rfl ?_
 exact ⟨congrArg _ (by first | exact firstEv_eq | exact firstEv_eq.symm), hS2.none⟩
end Go.Proofs
end
section
set_option linter.unusedVariables false
set_option linter.unusedSimpArgs false
set_option maxRecDepth 20000
set_option maxHeartbeats 2000000
namespace Go.Proofs
open Sc
theorem en140 : enters Tryz.prog 140 = true := by kernel_rfl
theorem en28 : enters Tryz.prog 28 = true := by kernel_rfl
structure TapeZ (Z0 : List Fact) (bt : Nat) (sl : Value) (rows : List (Nat × List Ev)) (ev : List Ev) : Prop where
  hb : (bt, Obj.cells #[sl, .int .i64 (ev.length : Int)] 106) ∈ Z0
  hs : Sl Z0 154 1 sl ((rows.map (·.1)).flatMap cP)
  hr : ∀ r ∈ rows, (r.1, Obj.cells (r.2.flatMap cE).toArray 155) ∈ Z0
  h64 : ∀ r ∈ rows, r.2.length = 64
  hev : ev = (rows.flatMap (·.2)).take ev.length
  h1 : ev.length ≤ 64 * rows.length
theorem fl64 : ∀ (rows : List (Nat × List Ev)) (q i y : Nat) (es : List Ev), (∀ r ∈ rows, r.2.length = 64) → rows[q]? = some (y, es) → i < 64 → (rows.flatMap (·.2))[64 * q + i]? = es[i]?
  | [], q, i, y, es, _, h, _ => by simp at h
  | r :: rows, 0, i, y, es, h6, h, hi => by
    simp at h; subst h
    have := h6 (y, es) (by simp)
    rw [List.flatMap_cons, Nat.mul_zero, Nat.zero_add, List.getElem?_append_left (by simp only at *; omega)]
  | r :: rows, q + 1, i, y, es, h6, h, hi => by
    have := h6 r (by simp)
    rw [List.flatMap_cons, List.getElem?_append_right (by omega), show 64 * (q + 1) + i - r.2.length = 64 * q + i from by omega]
    exact fl64 rows q i y es (fun r hr => h6 r (by simp [hr])) (by simpa using h) hi
theorem TapeZ.cells {Z0 : List Fact} {bt : Nat} {sl : Value} {rows : List (Nat × List Ev)} {ev es : List Ev} {k q i y : Nat} {e : Ev} (h : TapeZ Z0 bt sl rows ev) (hr : rows[q]? = some (y, es)) (hk : ev[k]? = some e) (hq : k = 64 * q + i) (hi : i < 64) : Cells Z0 y (i * 3) (cE e) := by
 have hm := List.mem_of_getElem? hr
 refine ⟨_, 155, (0, 0), h.hr _ hm, ?_⟩
 refine fm_at (f := cE) (k := 3) (fun _ => rfl) es i e ?_
 rw [← fl64 rows q i y es h.h64 hr hi, ← hq, ← hk]
 have hl := (List.getElem?_eq_some_iff.1 hk).1
 have h2 := h.hev
 generalize hn : ev.length = nn at h2 hl
 rw [h2, List.getElem?_take, if_pos hl]
def eseq (ev : List Ev) : List (Array Value) := ev.map fun e => #[.agg (cE e).toArray]
theorem eseq_len (ev : List Ev) : (eseq ev).length = ev.length := by simp [eseq]
theorem eseq_get {ev : List Ev} {k : Nat} {e : Ev} (h : ev[k]? = some e) : (eseq ev)[k]? = some #[.agg #[.int .i64 e.kind, .int .i64 e.a, .int .i64 e.b]] := by
 rw [eseq, List.getElem?_map, h]; rfl
theorem eseq_inv {ev : List Ev} {j : Nat} {args : Array Value} (h : (eseq ev)[j]? = some args) : ∃ e, ev[j]? = some e ∧ args = #[.agg #[.int .i64 e.kind, .int .i64 e.a, .int .i64 e.b]] := by
 rw [eseq, List.getElem?_map] at h
 cases he : ev[j]? with
 | none => rw [he] at h; cases h
 | some e => rw [he] at h; exact ⟨e, rfl, (Option.some.inj h).symm⟩
theorem c_LenZ (Z0 : List Fact) (bt : Nat) (sl : Value) (rows : List (Nat × List Ev)) (ev : List Ev) (w0 : World) (hT : TapeZ Z0 bt sl rows ev) (hZ0 : Holds w0 Z0) : Calls Tryz.prog 28 #[pt bt] w0 (Ret fun v w' => v = .int .i64 (ev.length : Int) ∧ St [] w0 w' [] []) := by
 have hC : Cells Z0 bt 0 [sl, .int .i64 (ev.length : Int)] := ⟨_, _, _, hT.hb, rfl⟩
 refine calls_of Tryz.func28 rfl Tryz.ntmps28 (Nat.le_of_ble_eq_true rfl) ?_
 have hS0 := St.nil w0
 refine C_sr ?_
 refine sqv (ex_assign (v := .int .i64 0) rfl) ?_
 show C _ _ _ _ _ _
 refine C_seq ?_
 refine C_sr ?_
 refine sqv (ex_move (v := pt bt) rfl) ?_
 refine sqv (ex_nilcmp (t := false) pt58 rfl rfl rfl) ?_
 show C _ _ _ _ _ _
 refine C_false rfl ?_
 refine C_skip ?_
 show C _ _ _ _ _ _
 refine C_sr ?_
 refine sqv (ex_move (v := pt bt) rfl) ?_
 refine sqv (ex_nilCheck (a := ⟨bt, 0, none⟩) rfl) ?_
 refine sqv (ex_field (o' := (0 + 1)) rfl fi106_1 rfl) ?_
 refine sqv (ex_loadC (r := 1) (u := .int .i64 (ev.length : Int)) hC (hS0.holds0 hZ0) rfl on3 rfl rfl) ?_
 refine sqv (ex_assign (v := .int .i64 (ev.length : Int)) rfl) ?_
 show C _ _ _ _ _ _
 refine C_ret ?_
 refine done_1 (v := .int .i64 (ev.length : Int)) rfl rfl ?_
 exact ⟨rfl, hS0⟩
theorem it_from (Z0 : List Fact) (bt : Nat) (sl : Value) (rows : List (Nat × List Ev)) (ev : List Ev) (bf bx : Nat) (hT : TapeZ Z0 bt sl rows ev) (hbf : (bf, .cells #[.int .i64 0] 3) ∈ Z0) (hbx : (bx, .cells #[pt bt] 58) ∈ Z0) (hlen : ev.length < 1000000000000) : Iter Tryz.prog Z0 (.func (.func 140) #[] #[pt bf, pt bx]) (eseq ev) := by
 refine ⟨140, #[], #[pt bf, pt bx], rfl, en140, fun y hY1 Q Lt w0 hH hO hL hQ hY => ?_⟩
 have hC : Cells Z0 bt 0 [sl, .int .i64 (ev.length : Int)] := ⟨_, _, _, hT.hb, rfl⟩
 have hCf : Cells Z0 bf 0 [.int .i64 0] := ⟨_, _, _, hbf, rfl⟩
 have hCx : Cells Z0 bx 0 [pt bt] := ⟨_, _, _, hbx, rfl⟩
 have h1 := hT.h1
 show Calls _ _ #[y, pt bf, pt bx] _ _
 refine calls_of Tryz.func140 rfl Tryz.ntmps140 (Nat.le_of_ble_eq_true rfl) ?_
 have hS0 := hL
 refine C_seq ?_
 refine C_draw (p := 5) (l := [(some 6, .int .i64 0), (some 7, .int .i64 0), (some 8, pt bt), (some 9, undef), (some 4, undef)]) (G := [3]) (J := fun w => St (bks Lt) w0 w ([] ++ Lt) []) mixed ?_ (hS0.draw _)
 refine node1 5 [3] [] [4] (by kernel_rfl) rfl rfl (nd rfl) rfl (by kernel_rfl) ?_ ?_ ?_
 ·intro S wd hSd
  exact ⟨n0 rfl rfl rfl (ex_loadC (r := 0) (u := .int .i64 0) hCf (hSd.holdsA hH hO) rfl on3 rfl rfl) rfl hSd, n1 rfl rfl rfl rfl (fun hq0 => (ex_max (a := 0) (b := 0) (r := 0) (evS hq0 rfl rfl) rfl rfl)) rfl hSd, n0 rfl rfl rfl (ex_loadC (r := 0) (u := pt bt) hCx (hSd.holdsA hH hO) rfl on58 rfl rfl) rfl hSd, sG rfl, sG rfl, tt⟩
 ·intro S wd hSd
  refine ⟨tt, tt, tt, ?_, tt, tt⟩
  refine needH rfl ?_
  rintro ⟨hq2, _⟩ hno
  refine dxC (wanted_none rfl) rfl (exe_call (args := #[pt bt]) en28 (args_of1 (evS hq2 rfl rfl))) (c_LenZ _ _ _ _ _ wd hT ((hSd.holdsA hH hO))) ?_
  rintro _ W1 ⟨rfl, hT3⟩
  have hS2 := hSd.call hT3
  refine ⟨fun w => St (bks Lt) w0 w ([] ++ Lt) [], [(some 6, .int .i64 0), (some 7, .int .i64 0), (some 8, pt bt), (some 9, .int .i64 (ev.length : Int)), (some 4, .int .i64 0)], [4], hS2, by kernel_rfl, ⟨rfl, rfl, rfl, rfl, rfl, rfl, rfl, True.intro, rfl, True.intro, True.intro⟩, rfl, ?_⟩
  show Sc.Node _ _ _ _ _ _ _ 5 [(some 6, .int .i64 0), (some 7, .int .i64 0), (some 8, pt bt), (some 9, .int .i64 (ev.length : Int)), (some 4, .int .i64 0)] [] [3] _
  refine node1 5 [] [3] [] (by kernel_rfl) rfl rfl (nd rfl) rfl (by kernel_rfl) ?_ ?_ ?_
  ·intro S wd hSd
   refine ⟨n0 rfl rfl rfl (ex_loadC (r := 0) (u := .int .i64 0) hCf (hSd.holdsA hH hO) rfl on3 rfl rfl) rfl hSd, n1 rfl rfl rfl rfl (fun hq0 => (ex_max (a := 0) (b := 0) (r := 0) (evS hq0 rfl rfl) rfl rfl)) rfl hSd, n0 rfl rfl rfl (ex_loadC (r := 0) (u := pt bt) hCx (hSd.holdsA hH hO) rfl on58 rfl rfl) rfl hSd, sG rfl, ?_, tt⟩
   refine needG rfl ?_
   rintro ⟨hq1, hq3, hq0, hq1, _⟩ hno
   exact dx (wanted_none rfl) rfl (ex_assign (v := .int .i64 0) (evS hq1 rfl rfl)) ⟨rfl, hSd⟩
  ·exact fun S wd hSd => ⟨True.intro, True.intro, True.intro, True.intro, True.intro, True.intro⟩
  intro _ W4 hS5
  refine sqv (ex_assign (v := .int .i64 (ev.length : Int)) rfl) ?_
  show C _ _ _ _ _ _
  refine C_block ?_
  refine C_loop (fun nn aa ww => ∃ (m0 : Nat → Value) (k : Nat) (Lu : List Ent), nn = ev.length - k ∧ aa = act 32 (upds m0 [(0, y), (2, pt bx), (4, .int .i64 (k : Int)), (5, .int .i64 (ev.length : Int))]) [] ∧ St (bks Lt) w0 ww ([] ++ Lu) [] ∧ (k ≤ ev.length) ∧ (Q k Lu)) ev.length ?_ ?_
  ·exact ⟨_, 0, Lt, rfl, act_upds ⟨rfl, rfl, (congrArg (Value.int .i64) (by first | rfl | omega)), (congrArg (Value.int .i64) (by first | rfl | omega)), trivial⟩, (St.pickB (Lf := []) hS5 [] (by decide) rfl), (Nat.zero_le _), hQ⟩
  rintro n9 a10 W7 ⟨m6, k, Lu, rfl, rfl, hS8, hk, hQu⟩
  refine C_seq ?_
  refine C_sr ?_
  refine sqv (ex_move (v := .int .i64 (k : Int)) rfl) ?_
  refine sqv (ex_move (v := .int .i64 (ev.length : Int)) rfl) ?_
  refine nm (decide ((k : Int) < (ev.length : Int))) fun t11 ht11 => ?_
  refine sqv (ex_cmp (x := (k : Int)) (y := (ev.length : Int)) rfl rfl ht11) ?_
  refine sqv (ex_move (v := .bool t11) rfl) ?_
  rcases bool_cases t11 with hb12 | hb12
  ·subst hb12
   have hb12 := of_decide_eq_true ht11.symm
   refine guard_yes (b := true) rfl rfl ?_
   refine sqv (ex_move (v := y) rfl) ?_
   refine guard_yes (b := true) rfl rfl ?_
   refine sqv (ex_loadC (r := 0) (u := pt bt) hCx (hS8.holdsA hH hO) rfl on58 rfl rfl) ?_
   refine guard_yes (b := true) rfl rfl ?_
   refine sqv (ex_nilCheck (a := ⟨bt, 0, none⟩) rfl) ?_
   refine guard_yes (b := true) rfl rfl ?_
   refine sqv (ex_field (o' := 0) rfl fi106_0 rfl) ?_
   refine guard_yes (b := true) rfl rfl ?_
   refine sqv (ex_loadC (r := 0) (u := sl) hC (hS8.holdsA hH hO) rfl on104 rfl rfl) ?_
   refine guard_yes (b := true) rfl rfl ?_
   refine sqv (ex_move (v := .int .i64 (k : Int)) rfl) ?_
   refine guard_yes (b := true) rfl rfl ?_
   refine nm ((k : Int) / 64) fun x13 hx13 => ?_
   refine sqv (ex_quo (x := (k : Int)) (y := 64) rfl rfl (by omega) (w64q (hx13.trans (Int.tdiv_eq_ediv_of_nonneg (by omega)).symm) (by rw [Int.tdiv_eq_ediv_of_nonneg (by omega)]; omega))) ?_
   refine guard_yes (b := true) rfl rfl ?_
   obtain ⟨j14, hj15⟩ := ex_nat x13 (by omega)
   obtain ⟨y16, hy17⟩ := get_lt (rows.map (·.1)) j14 (by first | omega | (simp only [List.length_set, List.length_replicate, List.length_append, List.length_take, List.length_drop, List.length_cons, List.length_nil, List.length_map]; omega))
   obtain ⟨b18, o19, hI20, hC21⟩ := sl_at (f := cP) (k := 1) (fun _ => rfl) (by decide) (hT.hs) hy17
   refine sqv (ex_sindexO hI20 rfl rfl sl104 (by omega)) ?_
   refine guard_yes (b := true) rfl rfl ?_
   refine sqv (ex_loadC (r := 0) (u := pt y16) hC21 (hS8.holdsA hH hO) rfl on154 rfl rfl) ?_
   refine guard_yes (b := true) rfl rfl ?_
   refine sqv (ex_move (v := .int .i64 (k : Int)) rfl) ?_
   refine guard_yes (b := true) rfl rfl ?_
   refine nm ((k : Int) % 64) fun x22 hx22 => ?_
   refine sqv (ex_rem (x := (k : Int)) (y := 64) rfl rfl (by omega) (hx22.trans (Int.tmod_eq_emod_of_nonneg (by omega)).symm)) ?_
   refine guard_yes (b := true) rfl rfl ?_
   refine sqv (ex_nilCheck (a := ⟨y16, 0, none⟩) rfl) ?_
   refine guard_yes (b := true) rfl rfl ?_
   obtain ⟨j23, hj24⟩ := ex_nat x22 (by omega)
   refine sqv (ex_index (j := x22) (o' := j23 * 3) rfl rfl ar155 (by omega) (by omega) (by omega)) ?_
   refine guard_yes (b := true) rfl rfl ?_
   obtain ⟨es25, hr26⟩ := map_get hy17
   obtain ⟨e27, he28⟩ := get_lt ev k (by omega)
   have hC29 := hT.cells (i := j23) hr26 he28 (by omega) (by omega)
   refine sqv (ex_loadsC (r := 0) (vs := [.int .i64 e27.kind, .int .i64 e27.a, .int .i64 e27.b]) hC29 (hS8.holdsA hH hO) rfl ag108 rfl rfl rfl) ?_
   refine guard_yes (b := true) rfl rfl ?_
   have hs35 := eseq_get he28
   refine sqy (hY _ _ W7 Lu hs35 hQu (hS8.holdsA hH hO) (St.off0 (Lf := []) hS8 hH hO) (St.lend (Lf := []) hS8)) rfl (args_of1 rfl) ?_
   rintro _ W30 ⟨rfl, Lt33, hQ34, hT32⟩
   have hS31 := St.callS (Lf := []) (Ln := []) hS8 hT32
   refine sqv (ex_pick (t := true) (v := .bool true) rfl rfl) ?_
   show C _ _ _ _ _ _
   refine C_true rfl ?_
   refine C_skip ?_
   show C _ _ _ _ _ _
   refine C_seq ?_
   refine C_block ?_
   refine C_skip ?_
   refine blk_normal ?_
   show C _ _ _ _ _ _
   refine C_region ?_
   refine sqv (ex_move (v := .int .i64 (k : Int)) rfl) ?_
   refine nm ((k : Int) + 1) fun x36 hx36 => ?_
   refine sqv (ex_add (x := (k : Int)) (y := 1) rfl rfl (w64 hx36 (by omega))) ?_
   refine sqv (ex_assign (v := .int .i64 x36) rfl) ?_
   exact ⟨_, (by omega), ⟨_, (k + 1), Lt33, rfl, act_upds ⟨rfl, rfl, (congrArg (Value.int .i64) (by first | rfl | omega)), (congrArg (Value.int .i64) (by first | rfl | omega)), trivial⟩, (St.pickB (Lf := []) hS31 [] (by decide) rfl), (by omega), hQ34⟩⟩
  subst hb12
  have hb12 := of_decide_eq_false ht11.symm
  refine guard_no (b' := false) rfl rfl (by decide) ?_
  refine guard_no (b' := false) rfl rfl (by decide) ?_
  refine guard_no (b' := false) rfl rfl (by decide) ?_
  refine guard_no (b' := false) rfl rfl (by decide) ?_
  refine guard_no (b' := false) rfl rfl (by decide) ?_
  refine guard_no (b' := false) rfl rfl (by decide) ?_
  refine guard_no (b' := false) rfl rfl (by decide) ?_
  refine guard_no (b' := false) rfl rfl (by decide) ?_
  refine guard_no (b' := false) rfl rfl (by decide) ?_
  refine guard_no (b' := false) rfl rfl (by decide) ?_
  refine guard_no (b' := false) rfl rfl (by decide) ?_
  refine guard_no (b' := false) rfl rfl (by decide) ?_
  refine guard_no (b' := false) rfl rfl (by decide) ?_
  refine guard_no (b' := false) rfl rfl (by decide) ?_
  refine guard_no (b' := false) rfl rfl (by decide) ?_
  refine sqv (ex_pick (t := false) (v := .bool false) rfl rfl) ?_
  show C _ _ _ _ _ _
  refine C_false rfl ?_
  refine C_exit ?_
  refine thn_exit ?_
  refine thn_exit ?_
  refine blk_exit ?_
  refine done_0n  rfl  ?_
  exact ⟨rfl, Lu, (by rw [eseq_len, show ev.length = k from by omega]; exact hQu), hS8⟩
 exact fun h => absurd h (by decide)
end Go.Proofs
end
section
set_option linter.unusedVariables false
set_option linter.unusedSimpArgs false
set_option maxRecDepth 20000
set_option maxHeartbeats 2000000
namespace Go.Proofs
open Sc
theorem en110 : enters Tryz.prog 110 = true := by kernel_rfl
theorem en111 : enters Tryz.prog 111 = true := by kernel_rfl
theorem en139 : enters Tryz.prog 139 = true := by kernel_rfl
theorem en68 : enters Tryz.prog 68 = true := by kernel_rfl
theorem on61 : oneOf Tryz.prog 61 = true := by kernel_rfl
theorem c_from (t : Value) (w0 : World) (g0 : Y1 t) : Calls Tryz.prog 111 #[t, .int .i64 0] w0 (Ret fun uu w' => ∃ (bx : Nat), ∃ (bf : Nat), uu = .func (.func 140) #[] #[pt bf, pt bx] ∧ St [] w0 w' [] [(bx, .cells #[t] 58), (bf, .cells #[.int .i64 0] 3)]) := by
 refine calls_of Tryz.func111 rfl Tryz.ntmps111 (Nat.le_of_ble_eq_true rfl) ?_
 have hS0 := St.nil w0
 refine C_sr ?_
 refine sqE (st_box (v := t) (cs := #[t]) hS0 rfl g0.1) fun b1 W2 hS3 => ?_
 refine sqE (st_box (v := .int .i64 0) (cs := #[.int .i64 0]) hS3 rfl rfl) fun b4 W5 hS6 => ?_
 refine sqv (ex_assign (v := .nilFunc) rfl) ?_
 show C _ _ _ _ _ _
 refine C_sr ?_
 refine sqv (ex_func (a := #[]) (b := #[pt b4, pt b1]) args_of0 (args_of2 rfl rfl)) ?_
 refine sqv (ex_assign (v := .func (.func 140) #[] #[pt b4, pt b1]) rfl) ?_
 show C _ _ _ _ _ _
 refine C_ret ?_
 refine done_1 (v := .func (.func 140) #[] #[pt b4, pt b1]) rfl rfl ?_
 have hZ0 := St.shut 0 hS6 rfl
 have hZ1 := St.shut 1 hZ0 rfl
 exact ⟨b1, b4, rfl, hZ1.none⟩
theorem c_AppendSeq (Z0 : List Fact) (g : Value) (ev : List Ev) (w0 : World) (hI : Iter Tryz.prog Z0 g (eseq ev)) (hZ0 : Holds w0 Z0) (hlen : ev.length < 1000000000000) : Calls Tryz.prog 139 #[.slice none 0 0, g] w0 (Ret fun u w' => ∃ (v : Value) (en : Ent), u = v ∧ Own 108 3 cE v ev en ∧ St [] w0 w' [en] []) := by
 obtain ⟨f, first, cap, rfl, hen, hIt⟩ := hI
 refine callsM_of Tryz.func139 rfl Tryz.ntmps139 (Nat.le_of_ble_eq_true rfl) ?_
 have hS0 := St.nil w0
 refine C_sr ?_
 refine sqE (st_box (v := .slice none 0 0) (cs := #[.slice none 0 0]) hS0 rfl rfl) fun b1 W2 hS3 => ?_
 refine sqv (ex_assign (v := .slice none 0 0) rfl) ?_
 show C _ _ _ _ _ _
 refine C_seq ?_
 refine C_sr ?_
 refine sqv (ex_move (v := .func (.func f) first cap) rfl) ?_
 show C _ _ _ _ _ _
 refine C_block ?_
 have hS4 := St.non hS3
 refine C_range hS4 rfl hen (fun fn5 r6 l7 W8 hS9 => ?_)
 generalize hrc11 : rcd _ _ _ _ _ _ _ _ = rc11 at hS9
 refine Calls.mono (hIt (yv l7) ⟨rfl, rfl⟩ (fun jj LL => ∃ (v : Value) (en : Ent) (o : List Ev), LL = [some (l7, .loop rc11), some (r6, .deferred (some [])), en, some (b1, .cells #[v] 61)] ∧ (Own 108 3 cE v o en) ∧ (o = ev.take jj)) [some (l7, .loop rc11), some (r6, .deferred (some [])), none, some (b1, .cells #[.slice none 0 0] 61)] W8 (hS9.holds0 hZ0) (St.off0 (Lf := []) hS9 hZ0 (Off.nil _)) (St.lend (Lf := []) hS9) ⟨(.slice none 0 0), none, [], rfl, (Own.nil _ _ _), rfl⟩ ?_) ?_
 ·rintro jj _ W12 _ hs16 ⟨v, en, o, rfl, hOw, ho⟩ hH13 hO14 hS15
  obtain ⟨e, he, rfl⟩ := eseq_inv hs16
  have hjl := (List.getElem?_eq_some_iff.1 he).1
  have hol : o.length = jj := by rw [ho, List.length_take]; omega
  refine yok1 (i := 0) (ds := []) hS15 rfl (by rw [← hrc11]; rfl) (by rw [← hrc11]; rfl) ?_
  rw [show rc11.assign = _ from by rw [← hrc11], show rc11.body = _ from by rw [← hrc11]]
  refine C_region ?_
  refine sqE (st_alloc hS15 ze108) fun b17 W18 hS19 => ?_
  refine sqUE (st_stores (v := .agg #[.int .i64 e.kind, .int .i64 e.a, .int .i64 e.b]) (cs' := #[.int .i64 e.kind, .int .i64 e.a, .int .i64 e.b]) 0 hS19 rfl rfl rfl ag108 rfl (Nat.le_of_ble_eq_true rfl) (ones_of rfl) rfl) fun W20 hS21 => ?_
  show Exists _
  obtain ⟨W22, hb24, hS23⟩ := begin_ok (P := Tryz.prog) 1 hS21 rfl (by rw [← hrc11]; rfl)
  refine ⟨W22, hb24, ?_⟩
  show C _ _ _ _ _ _
  refine C_block ?_
  refine C_region ?_
  refine sqv (ex_load (v := v) rfl (hS23.at 4 rfl) on61 rfl) ?_
  refine sqv (ex_loads (vs := [.int .i64 e.kind, .int .i64 e.a, .int .i64 e.b]) rfl (hS23.at 0 rfl) ag108 rfl rfl) ?_
  refine sqE (st_bslice (vs := [.agg #[.int .i64 e.kind, .int .i64 e.a, .int .i64 e.b]]) hS23 sl61 ze108 rfl (by simp [Value.cells]) rfl (by decide)) fun b25 W26 hS27 => ?_
  refine sqA (st_appendM (f := cE) (k := 3) (xs := o) (ys := [⟨e.kind, e.a, e.b⟩]) (fun _ => rfl) (fun _ => ones_of rfl) (by decide) 4 hS27 (hOw) ((sl_row (f := cE) (k := 3) (t := 108) (b := b25) (n := 1) (cs := #[.int .i64 e.kind, .int .i64 e.a, .int .i64 e.b]) (ys := [⟨e.kind, e.a, e.b⟩]) (fun _ => rfl) rfl (Nat.le_of_ble_eq_true rfl) rfl)) (hS27.entH 0 rfl) rfl rfl rfl sl61 ze108 rfl (by first | omega | (simp only [List.length_append, List.length_cons, List.length_nil, maxLen]; omega)) (by first | omega | (simp only [List.length_append, List.length_cons, List.length_nil, maxLen]; omega))) fun u28 en29 W30 ⟨hS31, ho32⟩ => ?_
  refine sqUE (st_store (v := u28) (cs' := #[u28]) 5 hS31 rfl rfl rfl on61 (own_1 ho32).1 (Nat.le_of_ble_eq_true rfl) (own_1 ho32).2 rfl) fun W33 hS34 => ?_
  refine blk_normal ?_
  refine round_end 2 hS34 rfl fun W35 hS36 => ?_
  have hrest : rest rc11 = rc11 := by rw [← hrc11]; rfl
  have hrb : rest (busy rc11) = rc11 := by rw [← hrc11]; rfl
  rw [hrb] at hS36
  exact ⟨rfl, _, ⟨u28, en29, (o ++ ([⟨e.kind, e.a, e.b⟩])), rfl, ho32, (by rw [take_snoc he, ho])⟩, (St.pick (L := [some (b25, .cells #[.int .i64 e.kind, .int .i64 e.a, .int .i64 e.b] 108), some (b17, .cells #[.int .i64 e.kind, .int .i64 e.a, .int .i64 e.b] 108), some (l7, .loop rc11), some (r6, .deferred (some [])), en29, some (b1, .cells #[u28] 61)]) hS36 [2, 3, 4, 5] (by decide))⟩
 intro e41 W39 he
 cases e41 with
 | panicked => exact he.elim
 | outgrown => exact he.elim
 | returned v =>
   obtain ⟨rfl, _, ⟨v, en, o, rfl, hOw, ho⟩, hT38⟩ := he
   have hS40 : St [] w0 W39 [some (l7, .loop rc11), some (r6, .deferred (some [])), en, some (b1, .cells #[v] 61)] [] := St.callS (Lf := []) (Lt := [some (l7, .loop rc11), some (r6, .deferred (some [])), none, some (b1, .cells #[.slice none 0 0] 61)]) (Lt' := [some (l7, .loop rc11), some (r6, .deferred (some [])), en, some (b1, .cells #[v] 61)]) (Ln := []) hS9 hT38
   refine ⟨rc11, hS40.at 0 rfl, by rw [← hrc11]; rfl, by rw [← hrc11]; rfl, ?_⟩
   have hS44 := hS40.obj 0 (.loop { rc11 with state := .exhausted }) rfl
   change St _ _ (World.putObj W39 l7 (.loop { rc11 with state := .exhausted })) _ _ at hS44
   generalize World.putObj W39 l7 (.loop { rc11 with state := .exhausted }) = W43 at *
   rw [eseq_len, List.take_length] at ho
   refine blk_normal ?_
   show C _ _ _ _ _ _
   refine C_seq ?_
   refine C_region ?_
   refine sqv (ex_load (v := v) rfl (hS44.at 3 rfl) on61 rfl) ?_
   refine sqv (ex_assign (v := v) rfl) ?_
   show C _ _ _ _ _ _
   refine C_ret ?_
   refine doneM_1 (rs := [r6]) (v := v) (.inr rfl) rfl rfl ?_
   refine take1 1 hS44 rfl fun W45 hS46 => ?_
   refine ⟨rfl, ?_⟩
   subst ho
   exact ⟨_, _, rfl, hOw, St.pick (L := [some (l7, .loop { rc11 with state := .exhausted }), some (r6, .deferred none), en, some (b1, .cells #[v] 61)]) hS46 [2] (by decide)⟩
theorem c_Collect (Z0 : List Fact) (g : Value) (ev : List Ev) (w0 : World) (hI : Iter Tryz.prog Z0 g (eseq ev)) (hZ0 : Holds w0 Z0) (hlen : ev.length < 1000000000000) : Calls Tryz.prog 110 #[g] w0 (Ret fun u w' => ∃ (v : Value) (en : Ent), u = v ∧ Own 108 3 cE v ev en ∧ St [] w0 w' [en] []) := by
 refine calls_of Tryz.func110 rfl Tryz.ntmps110 (Nat.le_of_ble_eq_true rfl) ?_
 have hS0 := St.nil w0
 refine C_sr ?_
 refine sqv (ex_assign (v := .slice none 0 0) rfl) ?_
 show C _ _ _ _ _ _
 refine C_sr ?_
 refine sqv (ex_move (v := g) rfl) ?_
 refine sqc (exe_call (args := #[.slice none 0 0, g]) en139 (args_of2 rfl rfl)) (c_AppendSeq Z0 g ev w0 hI (hS0.holds0 hZ0) hlen) ?_
 rintro v4 W1 ⟨_, en5, rfl, hp6, hT3⟩
 have hS2 := St.call (Ln := [en5]) hS0 hT3
 refine sqv (ex_assign (v := v4) rfl) ?_
 show C _ _ _ _ _ _
 refine C_ret ?_
 refine done_1 (v := v4) rfl rfl ?_
 exact ⟨_, _, rfl, hp6, (St.pick (L := [en5]) hS2 [0] (by decide))⟩
theorem TapeZ.mono {Z0 Z : List Fact} {bt : Nat} {sl : Value} {rows : List (Nat × List Ev)} {ev : List Ev} (h : TapeZ Z0 bt sl rows ev) (hz : ∀ p ∈ Z0, p ∈ Z) : TapeZ Z bt sl rows ev :=
  ⟨hz _ h.hb, Sl.mono h.hs hz, fun r hr => hz _ (h.hr r hr), h.h64, h.hev, h.h1⟩
theorem c_Since (Z0 : List Fact) (bt : Nat) (sl : Value) (rows : List (Nat × List Ev)) (ev : List Ev) (w0 : World) (hT : TapeZ Z0 bt sl rows ev) (hZ0 : Holds w0 Z0) (hlen : ev.length < 1000000000000) : Calls Tryz.prog 68 #[pt bt, .int .i64 0] w0 (Ret fun u w' => ∃ (v : Value) (en : Ent), u = v ∧ Own 108 3 cE v ev en ∧ St [] w0 w' [en] []) := by
 refine calls_of Tryz.func68 rfl Tryz.ntmps68 (Nat.le_of_ble_eq_true rfl) ?_
 have hS0 := St.nil w0
 refine C_sr ?_
 refine sqv (ex_assign (v := .slice none 0 0) rfl) ?_
 show C _ _ _ _ _ _
 refine C_sr ?_
 refine sqv (ex_move (v := pt bt) rfl) ?_
 refine sqv (ex_move (v := .int .i64 0) rfl) ?_
 refine sqc (exe_call (args := #[pt bt, .int .i64 0]) en111 (args_of2 rfl rfl)) (c_from (pt bt) w0 ⟨rfl, rfl⟩) ?_
 rintro _ W1 ⟨bx5, bf6, rfl, hT3⟩
 have hS2 := hS0.call hT3
 refine sqc (exe_call (args := #[.func (.func 140) #[] #[pt bf6, pt bx5]]) en110 (args_of1 rfl)) (c_Collect (([(bx5, .cells #[(pt bt)] 58), (bf6, .cells #[.int .i64 0] 3)] : List Fact) ++ Z0) _ ev W1 (it_from _ bt sl rows ev bf6 bx5 (hT.mono fun _ h => List.mem_append_right _ h) (by simp) (by simp) hlen) (Holds.app hS2.holdsZ (hS2.holds0 hZ0)) hlen) ?_
 rintro v10 W7 ⟨_, en11, rfl, hp12, hT9⟩
 have hS8 := St.call (Ln := [en11]) hS2 hT9
 refine sqv (ex_assign (v := v10) rfl) ?_
 show C _ _ _ _ _ _
 refine C_ret ?_
 refine done_1 (v := v10) rfl rfl ?_
 exact ⟨_, _, rfl, hp12, (St.pick (L := [en11]) hS8 [0] (by decide)).less (fun _ h => absurd h (by simp))⟩
theorem c_Events (Z0 : List Fact) (bt : Nat) (sl : Value) (rows : List (Nat × List Ev)) (ev : List Ev) (w0 : World) (hT : TapeZ Z0 bt sl rows ev) (hZ0 : Holds w0 Z0) (hlen : ev.length < 1000000000000) : Calls Tryz.prog 32 #[pt bt] w0 (Ret fun u w' => ∃ (v : Value) (en : Ent), u = v ∧ Own 108 3 cE v ev en ∧ St [] w0 w' [en] []) := by
 refine calls_of Tryz.func32 rfl Tryz.ntmps32 (Nat.le_of_ble_eq_true rfl) ?_
 have hS0 := St.nil w0
 refine C_sr ?_
 refine sqv (ex_assign (v := .slice none 0 0) rfl) ?_
 show C _ _ _ _ _ _
 refine C_sr ?_
 refine sqv (ex_move (v := pt bt) rfl) ?_
 refine sqc (exe_call (args := #[pt bt, .int .i64 0]) en68 (args_of2 rfl rfl)) (c_Since Z0 bt sl rows ev w0 hT (hS0.holds0 hZ0) hlen) ?_
 rintro v4 W1 ⟨_, en5, rfl, hp6, hT3⟩
 have hS2 := St.call (Ln := [en5]) hS0 hT3
 refine sqv (ex_assign (v := v4) rfl) ?_
 show C _ _ _ _ _ _
 refine C_ret ?_
 refine done_1 (v := v4) rfl rfl ?_
 exact ⟨_, _, rfl, hp6, (St.pick (L := [en5]) hS2 [0] (by decide))⟩
theorem c_New  (w0 : World)  : Calls Tryz.prog 26 #[.slice none 0 0] w0 (Ret fun uu w' => ∃ (b : Nat), uu = pt b ∧ St [] w0 w' [some (b, .cells #[.slice none 0 0, .int .i64 0] 106)] []) := by
 refine calls_of Tryz.func26 rfl Tryz.ntmps26 (Nat.le_of_ble_eq_true rfl) ?_
 have hS0 := St.nil w0
 refine C_sr ?_
 refine sqv (ex_assign (v := .pointer none) rfl) ?_
 show C _ _ _ _ _ _
 refine C_sr ?_
 refine sqv (ex_build (vs := []) (cells := #[.slice none 0 0, .int .i64 0]) rfl (by kernel_rfl)) ?_
 refine sqE (st_box (v := .agg #[.slice none 0 0, .int .i64 0]) (cs := #[.slice none 0 0, .int .i64 0]) hS0 rfl rfl) fun b1 W2 hS3 => ?_
 refine sqv (ex_assign (v := pt b1) rfl) ?_
 show C _ _ _ _ _ _
 refine C_seq ?_
 refine C_sr ?_
 refine sqv (ex_move (v := .slice none 0 0) rfl) ?_
 refine sqv (ex_len (r := 0) rfl sl61 rfl) ?_
 refine sqv (ex_move (v := .int .i64 0) rfl) ?_
 show C _ _ _ _ _ _
 refine C_block ?_
 refine C_unroll 1 ?_
 show C _ _ _ _ _ _
 refine C_sr ?_
 refine sqv (ex_cmp (x := 0) (y := 0) (r := false) rfl rfl rfl) ?_
 show C _ _ _ _ _ _
 refine C_seq ?_
 refine C_false rfl ?_
 refine C_exit ?_
 refine thn_exit ?_
 refine thn_exit ?_
 refine blk_exit ?_
 show C _ _ _ _ _ _
 refine C_sr ?_
 refine sqv (ex_move (v := pt b1) rfl) ?_
 refine sqv (ex_assign (v := pt b1) rfl) ?_
 show C _ _ _ _ _ _
 refine C_ret ?_
 refine done_1 (v := pt b1) rfl rfl ?_
 exact ⟨b1, rfl, St.pick (L := [some (b1, .cells #[.slice none 0 0, .int .i64 0] 106)]) hS3 [0] (by decide)⟩
end Go.Proofs
end
section
set_option linter.unusedVariables false
set_option linter.unusedSimpArgs false
set_option maxRecDepth 20000
set_option maxHeartbeats 2000000
namespace Go.Proofs
open Sc
theorem en26 : enters Tryz.prog 26 = true := by kernel_rfl
theorem en30 : enters Tryz.prog 30 = true := by kernel_rfl
theorem en31 : enters Tryz.prog 31 = true := by kernel_rfl
theorem en32 : enters Tryz.prog 32 = true := by kernel_rfl
section
variable {X : List Nat} {w0 w : World} {A B D M N T L : List Ent} {Z : List Fact}
theorem St.rot (h : St X w0 w ((A ++ B) ++ D) Z) : St X w0 w ((A ++ D) ++ B) Z := h.perm (by rw [List.append_assoc, List.append_assoc]; exact List.Perm.append_left A List.perm_append_comm)
theorem St.regr (h : St X w0 w (N ++ ((A ++ M) ++ T)) Z) : St X w0 w ((N ++ A) ++ (M ++ T)) Z := by simpa [List.append_assoc] using h
theorem St.regr0 (h : St X w0 w (N ++ (A ++ T)) Z) : St X w0 w ((N ++ A) ++ T) Z := by simpa [List.append_assoc] using h
theorem St.holdsB (h : St X w0 w L Z) (hm : ∀ e ∈ T, e ∈ L) : Holds w (T.flatMap entF) := by
 intro p hp
 obtain ⟨e, he, hpe⟩ := List.mem_flatMap.1 hp
 cases e with
 | none => simp [entF] at hpe
 | some q => simp [entF] at hpe; subst hpe; exact (h.own p (hm _ he)).2
end
theorem tape_new (b : Nat) : Tp (pt b) [] [some (b, .cells #[.slice none 0 0, .int .i64 0] 106), none] :=
  .inr ⟨b, .slice none 0 0, none, [], rfl, rfl, Own.nil _ _ _, (fun _ h => absurd h (by simp)), rfl, (by simp), (by simp)⟩
theorem tape_Z {b : Nat} {ev : List Ev} {T : List Ent} (h : Tp (pt b) ev T) : ∃ sl rows, TapeZ (T.flatMap entF) b sl rows ev := by
 rcases h with ⟨h, _⟩ | ⟨bt, sl, x, rows, h, rfl, hO, h6, hev, h1, h2⟩
 ·cases h
 cases h
 have hx : ∀ p ∈ entF x, p ∈ ((some (b, Obj.cells #[sl, .int .i64 (ev.length : Int)] 106) :: x :: rows.map (fun r => some (r.1, Obj.cells (r.2.flatMap cE).toArray 155))) : List Ent).flatMap entF := fun p hp => List.mem_flatMap.2 ⟨x, by simp, hp⟩
 refine ⟨sl, rows, ?_, Sl.mono hO.slF hx, fun r hr => ?_, h6, hev, h1⟩
 ·exact List.mem_flatMap.2 ⟨_, List.mem_cons_self .., by simp [entF]⟩
 exact List.mem_flatMap.2 ⟨some (r.1, Obj.cells (r.2.flatMap cE).toArray 155), List.mem_cons_of_mem _ (List.mem_cons_of_mem _ (List.mem_map.2 ⟨r, hr, rfl⟩)), by simp [entF]⟩
theorem c_AuditEventsE  (s : Value) (l : List Sh) (Z0 : List Fact) (w0 : World) (g0 : ∀ s ∈ l, ∀ y ∈ s.p, y < B256) (g1 : ckShs l ≠ 0) (hZ0 : Holds w0 Z0) (hs_s : Shs Z0 46 49 s l) (hG : Cells Z0 0 0 gC) : Calls Tryz.prog 5 #[s] w0 (Ret fun uu w' => uu = .bool true ∧ St [] w0 w' [] []) := by
 have hlen := sl_lt (f := cS) (k := 5) (fun _ => rfl) (by decide) hs_s.1
 refine calls_of Tryz.func5 rfl Tryz.ntmps5 (Nat.le_of_ble_eq_true rfl) ?_
 have hS0 := St.nil w0
 refine C_sr ?_
 refine sqv (ex_assign (v := .bool false) rfl) ?_
 show C _ _ _ _ _ _
 refine C_seq ?_
 refine C_sr ?_
 refine sqv (ex_move (v := s) rfl) ?_
 refine sqc (exe_call (args := #[s]) en13 (args_of1 rfl)) (c_Large s l Z0 w0 (hS0.holds0 hZ0) (hs_s)) ?_
 rintro _ W1 ⟨rfl, hT3⟩
 have hS2 := hS0.call hT3
 refine nm (decide (0 < (lrg l))) fun t5 ht5 => ?_
 refine sqv (ex_cmp (x := (lrg l)) (y := 0) rfl rfl ht5) ?_
 refine sqv (ex_move (v := .bool t5) rfl) ?_
 rcases bool_cases t5 with hb6 | hb6
 ·subst hb6
  have hb6 := of_decide_eq_true ht5.symm
  refine guard_no (b' := true) rfl rfl (by decide) ?_
  refine guard_no (b' := true) rfl rfl (by decide) ?_
  refine guard_no (b' := true) rfl rfl (by decide) ?_
  refine sqv (ex_pick (t := true) (v := .bool true) rfl rfl) ?_
  show C _ _ _ _ _ _
  refine C_true rfl ?_
  refine C_sr ?_
  refine sqc (exe_call (args := #[]) en14 args_of0) (c_alive18 Z0 W1 (hS2.holds0 hZ0) (hG)) ?_
  rintro _ W7 ⟨rfl, hT9⟩
  have hS8 := hS2.call hT9
  refine sqv (ex_assign (v := .bool true) rfl) ?_
  show C _ _ _ _ _ _
  refine C_ret ?_
  refine thn_ret ?_
  refine done_1 (v := .bool true) rfl rfl ?_
  exact ⟨congrArg _ (by first | rfl | assumption | (symm; assumption)), St.pickB (Lf := []) hS8 [] (by decide) rfl⟩
 subst hb6
 have hb6 := of_decide_eq_false ht5.symm
 refine guard_yes (b := false) rfl rfl ?_
 refine sqv (ex_move (v := s) rfl) ?_
 refine guard_yes (b := false) rfl rfl ?_
 refine sqv (ex_lenO (f := cS) (k := 5) (r := (l.length : Int)) (fun _ => rfl) (by decide) ((hs_s).1) rfl sl22 rfl) ?_
 refine guard_yes (b := false) rfl rfl ?_
 refine nm (decide (7 < (l.length : Int))) fun t11 ht11 => ?_
 refine sqv (ex_cmp (x := (l.length : Int)) (y := 7) rfl rfl ht11) ?_
 refine sqv (ex_pick (t := false) (v := .bool t11) rfl rfl) ?_
 show C _ _ _ _ _ _
 refine C_if (t := t11) rfl (fun hc12 => ?_) (fun hc12 => ?_)
 ·have hc12' := of_decide_eq_true (ht11.symm.trans hc12)
  refine C_sr ?_
  refine sqc (exe_call (args := #[]) en14 args_of0) (c_alive18 Z0 W1 (hS2.holds0 hZ0) (hG)) ?_
  rintro _ W13 ⟨rfl, hT15⟩
  have hS14 := hS2.call hT15
  refine sqv (ex_assign (v := .bool true) rfl) ?_
  show C _ _ _ _ _ _
  refine C_ret ?_
  refine thn_ret ?_
  refine done_1 (v := .bool true) rfl rfl ?_
  exact ⟨congrArg _ (by first | rfl | assumption | (symm; assumption)), St.pickB (Lf := []) hS14 [] (by decide) rfl⟩
 have hc12' := of_decide_eq_false (ht11.symm.trans hc12)
 refine C_skip ?_
 show C _ _ _ _ _ _
 refine C_sr ?_
 refine sqc (exe_call (args := #[.slice none 0 0]) en26 (args_of1 rfl)) (c_New W1) ?_
 rintro _ W17 ⟨b21, rfl, hT19⟩
 have hS18 := hS2.call hT19
 refine sqc (exe_call (args := #[.slice none 0 0]) en26 (args_of1 rfl)) (c_New W17) ?_
 rintro _ W22 ⟨b26, rfl, hT24⟩
 have hS23 := hS18.call hT24
 refine sqc (exe_call (args := #[.slice none 0 0]) en26 (args_of1 rfl)) (c_New W22) ?_
 rintro _ W27 ⟨b31, rfl, hT29⟩
 have hS28 := hS23.call hT29
 refine sqv (ex_assign (v := pt b21) rfl) ?_
 refine sqv (ex_assign (v := pt b26) rfl) ?_
 refine sqv (ex_assign (v := pt b31) rfl) ?_
 show C _ _ _ _ _ _
 refine C_sr ?_
 refine sqv (ex_move (v := pt b21) rfl) ?_
 refine sqv (ex_move (v := s) rfl) ?_
 have hS33 : St [] w0 W27 ([some (b31, .cells #[.slice none 0 0, .int .i64 0] 106), some (b26, .cells #[.slice none 0 0, .int .i64 0] 106)] ++ [some (b21, .cells #[.slice none 0 0, .int .i64 0] 106), none]) [] := (St.pick (L := none :: [some (b31, .cells #[.slice none 0 0, .int .i64 0] 106), some (b26, .cells #[.slice none 0 0, .int .i64 0] 106), some (b21, .cells #[.slice none 0 0, .int .i64 0] 106)]) (St.non hS28) [1, 2, 3, 0] (by decide))
 refine sqc (exe_call (args := #[pt b21, s]) en23 (args_of2 rfl rfl)) (c_ConsistentE s l Z0 (pt b21) [] [some (b21, .cells #[.slice none 0 0, .int .i64 0] 106), none] W27 g1 g0 (by omega) (hS33.holds0 hZ0) (St.off0 (Lf := [some (b31, .cells #[.slice none 0 0, .int .i64 0] 106), some (b26, .cells #[.slice none 0 0, .int .i64 0] 106)]) hS33 hZ0 (Off.nil _)) hs_s hG (tape_new b21) (St.lend (Lf := [some (b31, .cells #[.slice none 0 0, .int .i64 0] 106), some (b26, .cells #[.slice none 0 0, .int .i64 0] 106)]) hS33)) ?_
 rintro _ W34 ⟨Lt36, rfl, hU37, hT35⟩
 have hS38 : St [] w0 W34 ([some (b31, .cells #[.slice none 0 0, .int .i64 0] 106), some (b26, .cells #[.slice none 0 0, .int .i64 0] 106)] ++ Lt36) [] := St.regr0 (St.callS (Lf := [some (b31, .cells #[.slice none 0 0, .int .i64 0] 106), some (b26, .cells #[.slice none 0 0, .int .i64 0] 106)]) (Ln := []) hS33 hT35)
 simp only [List.append_nil] at hU37
 obtain ⟨sl39, rows40, hTz41⟩ := tape_Z hU37
 show C _ _ _ _ _ _
 refine C_sr ?_
 refine sqv (ex_move (v := pt b26) rfl) ?_
 refine sqv (ex_move (v := s) rfl) ?_
 have hS43 : St [] w0 W34 (([some (b31, .cells #[.slice none 0 0, .int .i64 0] 106)] ++ Lt36) ++ [some (b26, .cells #[.slice none 0 0, .int .i64 0] 106), none]) [] := St.rot (A := [some (b31, .cells #[.slice none 0 0, .int .i64 0] 106)]) (B := [some (b26, .cells #[.slice none 0 0, .int .i64 0] 106), none]) (D := Lt36) (St.pickB (Lf := none :: [some (b31, .cells #[.slice none 0 0, .int .i64 0] 106), some (b26, .cells #[.slice none 0 0, .int .i64 0] 106)]) (St.non hS38) [1, 2, 0] (by decide) rfl)
 refine sqc (exe_call (args := #[pt b26, s]) en24 (args_of2 rfl rfl)) (c_ChunksE s l Z0 (pt b26) [] [some (b26, .cells #[.slice none 0 0, .int .i64 0] 106), none] W34 g1 g0 (by omega) (hS43.holds0 hZ0) (St.off0 (Lf := ([some (b31, .cells #[.slice none 0 0, .int .i64 0] 106)] ++ Lt36)) hS43 hZ0 (Off.nil _)) hs_s hG (tape_new b26) (St.lend (Lf := ([some (b31, .cells #[.slice none 0 0, .int .i64 0] 106)] ++ Lt36)) hS43)) ?_
 rintro _ W44 ⟨Lt46, rfl, hU47, hT45⟩
 have hS48 : St [] w0 W44 ([some (b31, .cells #[.slice none 0 0, .int .i64 0] 106)] ++ (Lt36 ++ Lt46)) [] := St.regr (St.callS (Lf := ([some (b31, .cells #[.slice none 0 0, .int .i64 0] 106)] ++ Lt36)) (Ln := []) hS43 hT45)
 simp only [List.append_nil] at hU47
 obtain ⟨sl49, rows50, hTz51⟩ := tape_Z hU47
 show C _ _ _ _ _ _
 refine C_sr ?_
 refine sqv (ex_move (v := pt b31) rfl) ?_
 refine sqv (ex_move (v := s) rfl) ?_
 have hS53 : St [] w0 W44 (([] ++ (Lt36 ++ Lt46)) ++ [some (b31, .cells #[.slice none 0 0, .int .i64 0] 106), none]) [] := St.rot (A := []) (B := [some (b31, .cells #[.slice none 0 0, .int .i64 0] 106), none]) (D := (Lt36 ++ Lt46)) (St.pickB (Lf := none :: [some (b31, .cells #[.slice none 0 0, .int .i64 0] 106)]) (St.non hS48) [1, 0] (by decide) rfl)
 refine sqc (exe_call (args := #[pt b31, s]) en15 (args_of2 rfl rfl)) (c_SuspectsG s l Z0 (pt b31) [] [some (b31, .cells #[.slice none 0 0, .int .i64 0] 106), none] W44 g0 (lrg_le (by have := lrg_01 l; omega)) (by decide) (hS53.holds0 hZ0) (St.off0 (Lf := ([] ++ (Lt36 ++ Lt46))) hS53 hZ0 (Off.nil _)) hs_s hG (tape_new b31) (St.lend (Lf := ([] ++ (Lt36 ++ Lt46))) hS53)) ?_
 rintro _ W54 ⟨v62, en63, Lt56, rfl, hp64, hU57, hT55⟩
 have hS58 : St [] w0 W54 ([en63] ++ ((Lt36 ++ Lt46) ++ Lt56)) [] := St.regr (St.callS (Lf := ([] ++ (Lt36 ++ Lt46))) (Ln := [en63]) hS53 hT55)
 rw [(sus_err g1).2.2, List.append_nil] at hU57
 obtain ⟨sl59, rows60, hTz61⟩ := tape_Z hU57
 show C _ _ _ _ _ _
 refine C_seq ?_
 refine C_sr ?_
 refine sqv (ex_move (v := s) rfl) ?_
 refine sqc (exe_call (args := #[s]) en27 (args_of1 rfl)) (c_rCheckShares s l Z0 W54 (by omega) (by omega) (hS58.holds0 hZ0) (hs_s)) ?_
 rintro _ W65 ⟨rfl, hT67⟩
 have hS66 := hS58.call hT67
 refine sqv (ex_cmp (x := (ckShs l)) (y := 0) (r := decide ((ckShs l) ≠ 0)) rfl rfl rfl) ?_
 show C _ _ _ _ _ _
 refine C_dec ((ckShs l) ≠ 0) rfl (fun hc69 => ?_) (fun hc69 => ?_)
 ·refine C_sr ?_
  refine sqc (exe_call (args := #[]) en14 args_of0) (c_alive18 Z0 W65 (hS66.holds0 hZ0) (hG)) ?_
  rintro _ W70 ⟨rfl, hT72⟩
  have hS71 := hS66.call hT72
  refine sqv (ex_move (v := .bool true) rfl) ?_
  refine guard_yes (b := true) rfl rfl ?_
  refine sqv (ex_move (v := pt b21) rfl) ?_
  refine guard_yes (b := true) rfl rfl ?_
  refine sqc (exe_call (args := #[pt b21]) en28 (args_of1 rfl)) (c_LenZ _ _ _ _ _ W70 hTz41 (St.holdsB hS71 fun e he => by simp [he])) ?_
  rintro _ W74 ⟨rfl, hT76⟩
  have hS75 := hS71.call hT76
  refine guard_yes (b := true) rfl rfl ?_
  refine sqv (ex_move (v := pt b26) rfl) ?_
  refine guard_yes (b := true) rfl rfl ?_
  refine sqc (exe_call (args := #[pt b26]) en28 (args_of1 rfl)) (c_LenZ _ _ _ _ _ W74 hTz51 (St.holdsB hS75 fun e he => by simp [he])) ?_
  rintro _ W77 ⟨rfl, hT79⟩
  have hS78 := hS75.call hT79
  refine guard_yes (b := true) rfl rfl ?_
  refine sqv (ex_add (x := 0) (y := 0) (r := 0) rfl rfl (by rfl)) ?_
  refine guard_yes (b := true) rfl rfl ?_
  refine sqv (ex_move (v := pt b31) rfl) ?_
  refine guard_yes (b := true) rfl rfl ?_
  refine sqc (exe_call (args := #[pt b31]) en28 (args_of1 rfl)) (c_LenZ _ _ _ _ _ W77 hTz61 (St.holdsB hS78 fun e he => by simp [he])) ?_
  rintro _ W80 ⟨rfl, hT82⟩
  have hS81 := hS78.call hT82
  refine guard_yes (b := true) rfl rfl ?_
  refine sqv (ex_add (x := 0) (y := 0) (r := 0) rfl rfl (by rfl)) ?_
  refine guard_yes (b := true) rfl rfl ?_
  refine sqv (ex_cmp (x := 0) (y := 0) (r := true) rfl rfl rfl) ?_
  refine sqv (ex_pick (t := true) (v := .bool true) rfl rfl) ?_
  refine sqv (ex_assign (v := .bool true) rfl) ?_
  show C _ _ _ _ _ _
  refine C_ret ?_
  refine thn_ret ?_
  refine done_1 (v := .bool true) rfl rfl ?_
  exact ⟨congrArg _ (by first | rfl | assumption | (symm; assumption)), hS81.none⟩
 exact absurd g1 (by assumption)
theorem aEv_lenS {F : PrF} {l : List Sh} {s0 : Sh} (h : Acc F l s0) (h1 : l.length ≤ 12 ∧ ∀ s ∈ l, s.p.length ≤ 4) : (aEv l.length s0.t s0.p.length).length < 1000000000000 := by
 have h2 := h1.2 s0 (List.mem_of_getElem? h.h0)
 have h3 := aEv_len (n := l.length) (by omega) s0.t s0.p.length
 omega
theorem susEv_lenS {F : PrF} {l : List Sh} {s0 : Sh} (h : Acc F l s0) (h1 : l.length ≤ 12 ∧ ∀ s ∈ l, s.p.length ≤ 4) : (susEv l).length < 1000000000000 := by
 have h2 := h1.2 s0 (List.mem_of_getElem? h.h0)
 by_cases ht : s0.t < l.length
 ·rw [(sus_ok h.ck h.h0 ht).2.2]
  have h3 := sEv_len (n := l.length) (by omega) s0.t s0.p.length l.length
  have h4 := Nat.mul_le_mul h1.1 (show s0.p.length * 2000000 + 1 ≤ 8000001 from by omega)
  omega
 rw [(sus_few h.ck h.h0 ht).2.2]; simp
theorem c_AuditEventsA (F : PrF) (s0 : Sh) (s : Value) (l : List Sh) (Z0 : List Fact) (w0 : World) (g0 : ∀ s ∈ l, ∀ y ∈ s.p, y < B256) (g1 : Acc F l s0) (hZ0 : Holds w0 Z0) (hs_s : Shs Z0 46 49 s l) (hG : Cells Z0 0 0 gC) : Calls Tryz.prog 5 #[s] w0 (Ret fun uu w' => uu = .bool true ∧ St [] w0 w' [] []) := by
 have hlen := sl_lt (f := cS) (k := 5) (fun _ => rfl) (by decide) hs_s.1
 refine calls_of Tryz.func5 rfl Tryz.ntmps5 (Nat.le_of_ble_eq_true rfl) ?_
 have hS0 := St.nil w0
 refine C_sr ?_
 refine sqv (ex_assign (v := .bool false) rfl) ?_
 show C _ _ _ _ _ _
 refine C_seq ?_
 refine C_sr ?_
 refine sqv (ex_move (v := s) rfl) ?_
 refine sqc (exe_call (args := #[s]) en13 (args_of1 rfl)) (c_Large s l Z0 w0 (hS0.holds0 hZ0) (hs_s)) ?_
 rintro _ W1 ⟨rfl, hT3⟩
 have hS2 := hS0.call hT3
 refine nm (decide (0 < (lrg l))) fun t5 ht5 => ?_
 refine sqv (ex_cmp (x := (lrg l)) (y := 0) rfl rfl ht5) ?_
 refine sqv (ex_move (v := .bool t5) rfl) ?_
 rcases bool_cases t5 with hb6 | hb6
 ·subst hb6
  have hb6 := of_decide_eq_true ht5.symm
  refine guard_no (b' := true) rfl rfl (by decide) ?_
  refine guard_no (b' := true) rfl rfl (by decide) ?_
  refine guard_no (b' := true) rfl rfl (by decide) ?_
  refine sqv (ex_pick (t := true) (v := .bool true) rfl rfl) ?_
  show C _ _ _ _ _ _
  refine C_true rfl ?_
  refine C_sr ?_
  refine sqc (exe_call (args := #[]) en14 args_of0) (c_alive18 Z0 W1 (hS2.holds0 hZ0) (hG)) ?_
  rintro _ W7 ⟨rfl, hT9⟩
  have hS8 := hS2.call hT9
  refine sqv (ex_assign (v := .bool true) rfl) ?_
  show C _ _ _ _ _ _
  refine C_ret ?_
  refine thn_ret ?_
  refine done_1 (v := .bool true) rfl rfl ?_
  exact ⟨congrArg _ (by first | rfl | assumption | (symm; assumption)), St.pickB (Lf := []) hS8 [] (by decide) rfl⟩
 subst hb6
 have hb6 := of_decide_eq_false ht5.symm
 refine guard_yes (b := false) rfl rfl ?_
 refine sqv (ex_move (v := s) rfl) ?_
 refine guard_yes (b := false) rfl rfl ?_
 refine sqv (ex_lenO (f := cS) (k := 5) (r := (l.length : Int)) (fun _ => rfl) (by decide) ((hs_s).1) rfl sl22 rfl) ?_
 refine guard_yes (b := false) rfl rfl ?_
 refine nm (decide (7 < (l.length : Int))) fun t11 ht11 => ?_
 refine sqv (ex_cmp (x := (l.length : Int)) (y := 7) rfl rfl ht11) ?_
 refine sqv (ex_pick (t := false) (v := .bool t11) rfl rfl) ?_
 show C _ _ _ _ _ _
 refine C_if (t := t11) rfl (fun hc12 => ?_) (fun hc12 => ?_)
 ·have hc12' := of_decide_eq_true (ht11.symm.trans hc12)
  refine C_sr ?_
  refine sqc (exe_call (args := #[]) en14 args_of0) (c_alive18 Z0 W1 (hS2.holds0 hZ0) (hG)) ?_
  rintro _ W13 ⟨rfl, hT15⟩
  have hS14 := hS2.call hT15
  refine sqv (ex_assign (v := .bool true) rfl) ?_
  show C _ _ _ _ _ _
  refine C_ret ?_
  refine thn_ret ?_
  refine done_1 (v := .bool true) rfl rfl ?_
  exact ⟨congrArg _ (by first | rfl | assumption | (symm; assumption)), St.pickB (Lf := []) hS14 [] (by decide) rfl⟩
 have hc12' := of_decide_eq_false (ht11.symm.trans hc12)
 refine C_skip ?_
 show C _ _ _ _ _ _
 refine C_sr ?_
 refine sqc (exe_call (args := #[.slice none 0 0]) en26 (args_of1 rfl)) (c_New W1) ?_
 rintro _ W17 ⟨b21, rfl, hT19⟩
 have hS18 := hS2.call hT19
 refine sqc (exe_call (args := #[.slice none 0 0]) en26 (args_of1 rfl)) (c_New W17) ?_
 rintro _ W22 ⟨b26, rfl, hT24⟩
 have hS23 := hS18.call hT24
 refine sqc (exe_call (args := #[.slice none 0 0]) en26 (args_of1 rfl)) (c_New W22) ?_
 rintro _ W27 ⟨b31, rfl, hT29⟩
 have hS28 := hS23.call hT29
 refine sqv (ex_assign (v := pt b21) rfl) ?_
 refine sqv (ex_assign (v := pt b26) rfl) ?_
 refine sqv (ex_assign (v := pt b31) rfl) ?_
 show C _ _ _ _ _ _
 refine C_sr ?_
 refine sqv (ex_move (v := pt b21) rfl) ?_
 refine sqv (ex_move (v := s) rfl) ?_
 have hS33 : St [] w0 W27 ([some (b31, .cells #[.slice none 0 0, .int .i64 0] 106), some (b26, .cells #[.slice none 0 0, .int .i64 0] 106)] ++ [some (b21, .cells #[.slice none 0 0, .int .i64 0] 106), none]) [] := (St.pick (L := none :: [some (b31, .cells #[.slice none 0 0, .int .i64 0] 106), some (b26, .cells #[.slice none 0 0, .int .i64 0] 106), some (b21, .cells #[.slice none 0 0, .int .i64 0] 106)]) (St.non hS28) [1, 2, 3, 0] (by decide))
 refine sqc (exe_call (args := #[pt b21, s]) en23 (args_of2 rfl rfl)) (c_Consistent F s0 s l Z0 (pt b21) [] [some (b21, .cells #[.slice none 0 0, .int .i64 0] 106), none] W27 g1 g0 (by omega) (by have hsm := ((lrg_le (by have := lrg_01 l; omega))).2 s0 (List.mem_of_getElem? g1.h0); simp only [List.length_nil]; omega) (hS33.holds0 hZ0) (St.off0 (Lf := [some (b31, .cells #[.slice none 0 0, .int .i64 0] 106), some (b26, .cells #[.slice none 0 0, .int .i64 0] 106)]) hS33 hZ0 (Off.nil _)) hs_s hG (tape_new b21) (St.lend (Lf := [some (b31, .cells #[.slice none 0 0, .int .i64 0] 106), some (b26, .cells #[.slice none 0 0, .int .i64 0] 106)]) hS33)) ?_
 rintro _ W34 ⟨Lt36, rfl, hU37, hT35⟩
 have hS38 : St [] w0 W34 ([some (b31, .cells #[.slice none 0 0, .int .i64 0] 106), some (b26, .cells #[.slice none 0 0, .int .i64 0] 106)] ++ Lt36) [] := St.regr0 (St.callS (Lf := [some (b31, .cells #[.slice none 0 0, .int .i64 0] 106), some (b26, .cells #[.slice none 0 0, .int .i64 0] 106)]) (Ln := []) hS33 hT35)
 rw [List.nil_append] at hU37
 obtain ⟨sl39, rows40, hTz41⟩ := tape_Z hU37
 show C _ _ _ _ _ _
 refine C_sr ?_
 refine sqv (ex_move (v := pt b26) rfl) ?_
 refine sqv (ex_move (v := s) rfl) ?_
 have hS43 : St [] w0 W34 (([some (b31, .cells #[.slice none 0 0, .int .i64 0] 106)] ++ Lt36) ++ [some (b26, .cells #[.slice none 0 0, .int .i64 0] 106), none]) [] := St.rot (A := [some (b31, .cells #[.slice none 0 0, .int .i64 0] 106)]) (B := [some (b26, .cells #[.slice none 0 0, .int .i64 0] 106), none]) (D := Lt36) (St.pickB (Lf := none :: [some (b31, .cells #[.slice none 0 0, .int .i64 0] 106), some (b26, .cells #[.slice none 0 0, .int .i64 0] 106)]) (St.non hS38) [1, 2, 0] (by decide) rfl)
 refine sqc (exe_call (args := #[pt b26, s]) en24 (args_of2 rfl rfl)) (c_Chunks F s0 s l Z0 (pt b26) [] [some (b26, .cells #[.slice none 0 0, .int .i64 0] 106), none] W34 g1 g0 (by omega) (by have hsm := ((lrg_le (by have := lrg_01 l; omega))).2 s0 (List.mem_of_getElem? g1.h0); simp only [List.length_nil]; omega) (by have hsm := ((lrg_le (by have := lrg_01 l; omega))).2 s0 (List.mem_of_getElem? g1.h0); omega) (hS43.holds0 hZ0) (St.off0 (Lf := ([some (b31, .cells #[.slice none 0 0, .int .i64 0] 106)] ++ Lt36)) hS43 hZ0 (Off.nil _)) hs_s hG (tape_new b26) (St.lend (Lf := ([some (b31, .cells #[.slice none 0 0, .int .i64 0] 106)] ++ Lt36)) hS43)) ?_
 rintro _ W44 ⟨v52, en53, Lt46, rfl, hp54, hU47, hT45⟩
 have hS48 : St [] w0 W44 ([en53, some (b31, .cells #[.slice none 0 0, .int .i64 0] 106)] ++ (Lt36 ++ Lt46)) [] := St.regr (St.callS (Lf := ([some (b31, .cells #[.slice none 0 0, .int .i64 0] 106)] ++ Lt36)) (Ln := [en53]) hS43 hT45)
 rw [List.nil_append] at hU47
 obtain ⟨sl49, rows50, hTz51⟩ := tape_Z hU47
 show C _ _ _ _ _ _
 refine C_sr ?_
 refine sqv (ex_move (v := pt b31) rfl) ?_
 refine sqv (ex_move (v := s) rfl) ?_
 have hS56 : St [] w0 W44 (([en53] ++ (Lt36 ++ Lt46)) ++ [some (b31, .cells #[.slice none 0 0, .int .i64 0] 106), none]) [] := St.rot (A := [en53]) (B := [some (b31, .cells #[.slice none 0 0, .int .i64 0] 106), none]) (D := (Lt36 ++ Lt46)) (St.pickB (Lf := none :: [en53, some (b31, .cells #[.slice none 0 0, .int .i64 0] 106)]) (St.non hS48) [1, 2, 0] (by decide) rfl)
 refine sqc (exe_call (args := #[pt b31, s]) en15 (args_of2 rfl rfl)) (c_SuspectsG s l Z0 (pt b31) [] [some (b31, .cells #[.slice none 0 0, .int .i64 0] 106), none] W44 g0 (lrg_le (by have := lrg_01 l; omega)) (by decide) (hS56.holds0 hZ0) (St.off0 (Lf := ([en53] ++ (Lt36 ++ Lt46))) hS56 hZ0 (Off.nil _)) hs_s hG (tape_new b31) (St.lend (Lf := ([en53] ++ (Lt36 ++ Lt46))) hS56)) ?_
 rintro _ W57 ⟨v65, en66, Lt59, rfl, hp67, hU60, hT58⟩
 have hS61 : St [] w0 W57 ([en66, en53] ++ ((Lt36 ++ Lt46) ++ Lt59)) [] := St.regr (St.callS (Lf := ([en53] ++ (Lt36 ++ Lt46))) (Ln := [en66]) hS56 hT58)
 rw [List.nil_append] at hU60
 obtain ⟨sl62, rows63, hTz64⟩ := tape_Z hU60
 show C _ _ _ _ _ _
 refine C_seq ?_
 refine C_sr ?_
 refine sqv (ex_move (v := s) rfl) ?_
 refine sqc (exe_call (args := #[s]) en27 (args_of1 rfl)) (c_rCheckShares s l Z0 W57 (by omega) (by omega) (hS61.holds0 hZ0) (hs_s)) ?_
 rintro _ W68 ⟨rfl, hT70⟩
 have hS69 := hS61.call hT70
 refine sqv (ex_cmp (x := (ckShs l)) (y := 0) (r := decide ((ckShs l) ≠ 0)) rfl rfl rfl) ?_
 show C _ _ _ _ _ _
 refine C_dec ((ckShs l) ≠ 0) rfl (fun hc72 => ?_) (fun hc72 => ?_)
 ·exact absurd g1.ck (by assumption)
 refine C_skip ?_
 show C _ _ _ _ _ _
 refine C_seq ?_
 obtain ⟨b73, o74, hI75, hC76⟩ := sl_at (f := cS) (k := 5) (fun _ => rfl) (by decide) ((hs_s).1) g1.h0
 obtain ⟨b77, o78, hI79, hC80⟩ := sl_at (f := cS) (k := 5) (fun _ => rfl) (by decide) ((hs_s).1) g1.h0
 refine C_draw (p := 13) (l := [(some 47, s), (some 48, .int .i64 (l.length : Int)), (some 49, s), (some 50, .pointer (some ⟨b73, o74, none⟩)), (some 51, .pointer (some ⟨b73, o74 + 1, none⟩)), (some 52, .int .i64 s0.t), (some 53, s), (some 54, .pointer (some ⟨b77, o78, none⟩)), (some 55, .pointer (some ⟨b77, o78 + 4, none⟩)), (some 56, s0.v), (some 57, .int .i64 (s0.p.length : Int)), (some 6, .int .i64 (l.length : Int)), (some 7, .int .i64 s0.t)]) (G := []) (J := fun w => St [] w0 w ([en66, en53] ++ ((Lt36 ++ Lt46) ++ Lt59)) []) mixed ?_ (hS69.draw _)
 refine node1 13 [] [] [] (by kernel_rfl) rfl rfl (nd rfl) rfl (by kernel_rfl) ?_ ?_ ?_
 ·intro S wd hSd
  refine ⟨n0 rfl rfl rfl (ex_move (v := s) rfl) rfl hSd, n1 rfl rfl rfl rfl (fun hq0 => (ex_lenO (f := cS) (k := 5) (r := (l.length : Int)) (fun _ => rfl) (by decide) ((hs_s).1) (evS hq0 rfl rfl) sl22 rfl)) rfl hSd, n0 rfl rfl rfl (ex_move (v := s) rfl) rfl hSd, n1 rfl rfl rfl rfl (fun hq2 => (ex_sindexO hI75 (evS hq2 rfl rfl) rfl sl22 (by omega))) rfl hSd, n1 rfl rfl rfl rfl (fun hq3 => (ex_field (o' := (o74 + 1)) (evS hq3 rfl rfl) fi46_1 rfl)) rfl hSd, n1 rfl rfl rfl rfl (fun hq4 => (ex_loadC (r := 1) (u := .int .i64 s0.t) hC76 (hSd.holds0 hZ0) (evS hq4 rfl rfl) on3 rfl rfl)) rfl hSd, n0 rfl rfl rfl (ex_move (v := s) rfl) rfl hSd, n1 rfl rfl rfl rfl (fun hq6 => (ex_sindexO hI79 (evS hq6 rfl rfl) rfl sl22 (by omega))) rfl hSd, n1 rfl rfl rfl rfl (fun hq7 => (ex_field (o' := (o78 + 4)) (evS hq7 rfl rfl) fi46_4 rfl)) rfl hSd, n1 rfl rfl rfl rfl (fun hq8 => (ex_loadC (r := 4) (u := s0.v) hC80 (hSd.holds0 hZ0) (evS hq8 rfl rfl) on44 rfl rfl)) rfl hSd, n1 rfl rfl rfl rfl (fun hq9 => (ex_lenO (f := el) (k := 4) (r := (s0.p.length : Int)) (fun _ => rfl) (by decide) ((hs_s).2 s0 (List.mem_of_getElem? g1.h0)) (evS hq9 rfl rfl) sl44 rfl)) rfl hSd, ?_, ?_, tt⟩
  ·refine needG rfl ?_
   rintro ⟨hq1, hq0, hq1, _⟩ hno
   exact dx (wanted_none rfl) rfl (ex_assign (v := .int .i64 (l.length : Int)) (evS hq1 rfl rfl)) ⟨rfl, hSd⟩
  refine needG rfl ?_
  rintro ⟨hq5, hq11, hq0, hq1, hq2, hq3, hq4, hq5, hq11, _⟩ hno
  exact dx (wanted_none rfl) rfl (ex_assign (v := .int .i64 s0.t) (evS hq5 rfl rfl)) ⟨rfl, hSd⟩
 ·exact fun S wd hSd => ⟨True.intro, True.intro, True.intro, True.intro, True.intro, True.intro, True.intro, True.intro, True.intro, True.intro, True.intro, True.intro, True.intro, True.intro⟩
 intro _ W81 hS82
 refine sqv (ex_assign (v := .int .i64 (s0.p.length : Int)) rfl) ?_
 show C _ _ _ _ _ _
 refine C_sr ?_
 refine sqv (ex_move (v := .int .i64 (l.length : Int)) rfl) ?_
 refine sqv (ex_move (v := .int .i64 s0.t) rfl) ?_
 refine sqv (ex_move (v := .int .i64 (s0.p.length : Int)) rfl) ?_
 refine sqc (exe_call (args := #[.int .i64 (l.length : Int), .int .i64 s0.t, .int .i64 (s0.p.length : Int)]) en29 (args_of3 rfl rfl rfl)) (c_rAllE l.length s0.t s0.p.length W81 (by omega) (by have hsm := ((lrg_le (by have := lrg_01 l; omega))).2 s0 (List.mem_of_getElem? g1.h0); omega)) ?_
 rintro v87 W83 ⟨_, en88, rfl, hp89, hT85⟩
 have hS84 := hS82.call hT85
 refine sqv (ex_assign (v := v87) rfl) ?_
 show C _ _ _ _ _ _
 refine C_sr ?_
 refine sqv (ex_assign (v := .slice none 0 0) rfl) ?_
 show C _ _ _ _ _ _
 refine C_seq ?_
 refine C_sr ?_
 refine sqv (ex_move (v := .int .i64 (l.length : Int)) rfl) ?_
 refine sqv (ex_move (v := .int .i64 s0.t) rfl) ?_
 refine sqv (ex_cmp (x := (l.length : Int)) (y := s0.t) (r := decide (s0.t < (l.length : Int))) rfl rfl rfl) ?_
 show C _ _ _ _ _ _
 refine C_dec (s0.t < (l.length : Int)) rfl (fun hc90 => ?_) (fun hc90 => ?_)
 ·refine C_region ?_
  refine sqv (ex_move (v := .int .i64 (l.length : Int)) rfl) ?_
  refine sqv (ex_move (v := .int .i64 s0.t) rfl) ?_
  refine sqv (ex_move (v := .int .i64 (s0.p.length : Int)) rfl) ?_
  refine sqc (exe_call (args := #[.int .i64 (l.length : Int), .int .i64 s0.t, .int .i64 (s0.p.length : Int)]) en30 (args_of3 rfl rfl rfl)) (c_rSuspE l.length s0.t s0.p.length W83 (by omega) (by have hsm := ((lrg_le (by have := lrg_01 l; omega))).2 s0 (List.mem_of_getElem? g1.h0); omega) (by have := (List.getElem?_eq_some_iff.1 g1.h0).1; omega)) ?_
  rintro v95 W91 ⟨_, en96, rfl, hp97, hT93⟩
  have hS92 := hS84.call hT93
  refine sqv (ex_assign (v := v95) rfl) ?_
  show C _ _ _ _ _ _
  refine C_sr ?_
  refine sqc (exe_call (args := #[]) en14 args_of0) (c_alive18 Z0 W91 (hS92.holds0 hZ0) (hG)) ?_
  rintro _ W98 ⟨rfl, hT100⟩
  have hS99 := hS92.call hT100
  refine sqv (ex_move (v := .bool true) rfl) ?_
  refine guard_yes (b := true) rfl rfl ?_
  refine sqv (ex_move (v := pt b21) rfl) ?_
  refine guard_yes (b := true) rfl rfl ?_
  refine sqc (exe_call (args := #[pt b21]) en32 (args_of1 rfl)) (c_Events _ _ _ _ (aEv l.length s0.t s0.p.length) W98 hTz41 (St.holdsB hS99 fun e he => by simp [he]) (aEv_lenS g1 (lrg_le (by have := lrg_01 l; omega)))) ?_
  rintro v105 W102 ⟨_, en106, rfl, hp107, hT104⟩
  have hS103 := St.call (Ln := [en106]) hS99 hT104
  refine guard_yes (b := true) rfl rfl ?_
  refine sqv (ex_move (v := v87) rfl) ?_
  refine guard_yes (b := true) rfl rfl ?_
  refine sqc (exe_call (args := #[v105, v87]) en31 (args_of2 rfl rfl)) (c_rSame v105 (aEv l.length s0.t s0.p.length) v87 (aEv l.length s0.t s0.p.length) ((entF en106) ++ (entF en88)) W102 (by first | exact aEv_lenS g1 (lrg_le (by have := lrg_01 l; omega)) | exact susEv_lenS g1 (lrg_le (by have := lrg_01 l; omega))) (by first | exact aEv_lenS g1 (lrg_le (by have := lrg_01 l; omega)) | (rw [← (sus_ok g1.ck g1.h0 (by omega)).2.2]; exact susEv_lenS g1 (lrg_le (by have := lrg_01 l; omega))) | simp) (Holds.app (hS103.entH 0 rfl) (hS103.entH 2 rfl)) (Sl.mono ((hp107).slF) fun _ hp => (List.mem_append_left _ hp)) (Sl.mono ((hp89).slF) fun _ hp => (List.mem_append_right _ hp))) ?_
  rintro _ W108 ⟨rfl, hT110⟩
  have hS109 := hS103.call hT110
  rw [show (decide ((aEv l.length s0.t s0.p.length) = (aEv l.length s0.t s0.p.length))) = true from decide_eq_true rfl]
  refine sqv (ex_pick (t := true) (v := .bool true) rfl rfl) ?_
  refine sqv (ex_move (v := .bool true) rfl) ?_
  refine guard_yes (b := true) rfl rfl ?_
  refine sqv (ex_move (v := pt b26) rfl) ?_
  refine guard_yes (b := true) rfl rfl ?_
  refine sqc (exe_call (args := #[pt b26]) en32 (args_of1 rfl)) (c_Events _ _ _ _ (aEv l.length s0.t s0.p.length) W108 hTz51 (St.holdsB hS109 fun e he => by simp [he]) (aEv_lenS g1 (lrg_le (by have := lrg_01 l; omega)))) ?_
  rintro v115 W112 ⟨_, en116, rfl, hp117, hT114⟩
  have hS113 := St.call (Ln := [en116]) hS109 hT114
  refine guard_yes (b := true) rfl rfl ?_
  refine sqv (ex_move (v := v87) rfl) ?_
  refine guard_yes (b := true) rfl rfl ?_
  refine sqc (exe_call (args := #[v115, v87]) en31 (args_of2 rfl rfl)) (c_rSame v115 (aEv l.length s0.t s0.p.length) v87 (aEv l.length s0.t s0.p.length) ((entF en116) ++ (entF en88)) W112 (by first | exact aEv_lenS g1 (lrg_le (by have := lrg_01 l; omega)) | exact susEv_lenS g1 (lrg_le (by have := lrg_01 l; omega))) (by first | exact aEv_lenS g1 (lrg_le (by have := lrg_01 l; omega)) | (rw [← (sus_ok g1.ck g1.h0 (by omega)).2.2]; exact susEv_lenS g1 (lrg_le (by have := lrg_01 l; omega))) | simp) (Holds.app (hS113.entH 0 rfl) (hS113.entH 3 rfl)) (Sl.mono ((hp117).slF) fun _ hp => (List.mem_append_left _ hp)) (Sl.mono ((hp89).slF) fun _ hp => (List.mem_append_right _ hp))) ?_
  rintro _ W118 ⟨rfl, hT120⟩
  have hS119 := hS113.call hT120
  rw [show (decide ((aEv l.length s0.t s0.p.length) = (aEv l.length s0.t s0.p.length))) = true from decide_eq_true rfl]
  refine sqv (ex_pick (t := true) (v := .bool true) rfl rfl) ?_
  refine sqv (ex_move (v := .bool true) rfl) ?_
  refine guard_yes (b := true) rfl rfl ?_
  refine sqv (ex_move (v := pt b31) rfl) ?_
  refine guard_yes (b := true) rfl rfl ?_
  refine sqc (exe_call (args := #[pt b31]) en32 (args_of1 rfl)) (c_Events _ _ _ _ (susEv l) W118 hTz64 (St.holdsB hS119 fun e he => by simp [he]) (susEv_lenS g1 (lrg_le (by have := lrg_01 l; omega)))) ?_
  rintro v125 W122 ⟨_, en126, rfl, hp127, hT124⟩
  have hS123 := St.call (Ln := [en126]) hS119 hT124
  refine guard_yes (b := true) rfl rfl ?_
  refine sqv (ex_move (v := v95) rfl) ?_
  refine guard_yes (b := true) rfl rfl ?_
  refine sqc (exe_call (args := #[v125, v95]) en31 (args_of2 rfl rfl)) (c_rSame v125 (susEv l) v95 (sEv l.length s0.t s0.p.length l.length) ((entF en126) ++ (entF en96)) W122 (by first | exact aEv_lenS g1 (lrg_le (by have := lrg_01 l; omega)) | exact susEv_lenS g1 (lrg_le (by have := lrg_01 l; omega))) (by first | exact aEv_lenS g1 (lrg_le (by have := lrg_01 l; omega)) | (rw [← (sus_ok g1.ck g1.h0 (by omega)).2.2]; exact susEv_lenS g1 (lrg_le (by have := lrg_01 l; omega))) | simp) (Holds.app (hS123.entH 0 rfl) (hS123.entH 3 rfl)) (Sl.mono ((hp127).slF) fun _ hp => (List.mem_append_left _ hp)) (Sl.mono ((hp97).slF) fun _ hp => (List.mem_append_right _ hp))) ?_
  rintro _ W128 ⟨rfl, hT130⟩
  have hS129 := hS123.call hT130
  rw [show (decide ((susEv l) = (sEv l.length s0.t s0.p.length l.length))) = true from (by first | exact decide_eq_true (sus_ok g1.ck g1.h0 (by omega)).2.2 | exact decide_eq_true (sus_few g1.ck g1.h0 (by omega)).2.2)]
  refine sqv (ex_pick (t := true) (v := .bool true) rfl rfl) ?_
  refine sqv (ex_assign (v := .bool true) rfl) ?_
  show C _ _ _ _ _ _
  refine C_ret ?_
  refine done_1 (v := .bool true) rfl rfl ?_
  exact ⟨congrArg _ (by first | rfl | assumption | (symm; assumption)), hS129.none⟩
 refine C_skip ?_
 show C _ _ _ _ _ _
 refine C_sr ?_
 refine sqc (exe_call (args := #[]) en14 args_of0) (c_alive18 Z0 W83 (hS84.holds0 hZ0) (hG)) ?_
 rintro _ W132 ⟨rfl, hT134⟩
 have hS133 := hS84.call hT134
 refine sqv (ex_move (v := .bool true) rfl) ?_
 refine guard_yes (b := true) rfl rfl ?_
 refine sqv (ex_move (v := pt b21) rfl) ?_
 refine guard_yes (b := true) rfl rfl ?_
 refine sqc (exe_call (args := #[pt b21]) en32 (args_of1 rfl)) (c_Events _ _ _ _ (aEv l.length s0.t s0.p.length) W132 hTz41 (St.holdsB hS133 fun e he => by simp [he]) (aEv_lenS g1 (lrg_le (by have := lrg_01 l; omega)))) ?_
 rintro v139 W136 ⟨_, en140, rfl, hp141, hT138⟩
 have hS137 := St.call (Ln := [en140]) hS133 hT138
 refine guard_yes (b := true) rfl rfl ?_
 refine sqv (ex_move (v := v87) rfl) ?_
 refine guard_yes (b := true) rfl rfl ?_
 refine sqc (exe_call (args := #[v139, v87]) en31 (args_of2 rfl rfl)) (c_rSame v139 (aEv l.length s0.t s0.p.length) v87 (aEv l.length s0.t s0.p.length) ((entF en140) ++ (entF en88)) W136 (by first | exact aEv_lenS g1 (lrg_le (by have := lrg_01 l; omega)) | exact susEv_lenS g1 (lrg_le (by have := lrg_01 l; omega))) (by first | exact aEv_lenS g1 (lrg_le (by have := lrg_01 l; omega)) | (rw [← (sus_ok g1.ck g1.h0 (by omega)).2.2]; exact susEv_lenS g1 (lrg_le (by have := lrg_01 l; omega))) | simp) (Holds.app (hS137.entH 0 rfl) (hS137.entH 1 rfl)) (Sl.mono ((hp141).slF) fun _ hp => (List.mem_append_left _ hp)) (Sl.mono ((hp89).slF) fun _ hp => (List.mem_append_right _ hp))) ?_
 rintro _ W142 ⟨rfl, hT144⟩
 have hS143 := hS137.call hT144
 rw [show (decide ((aEv l.length s0.t s0.p.length) = (aEv l.length s0.t s0.p.length))) = true from decide_eq_true rfl]
 refine sqv (ex_pick (t := true) (v := .bool true) rfl rfl) ?_
 refine sqv (ex_move (v := .bool true) rfl) ?_
 refine guard_yes (b := true) rfl rfl ?_
 refine sqv (ex_move (v := pt b26) rfl) ?_
 refine guard_yes (b := true) rfl rfl ?_
 refine sqc (exe_call (args := #[pt b26]) en32 (args_of1 rfl)) (c_Events _ _ _ _ (aEv l.length s0.t s0.p.length) W142 hTz51 (St.holdsB hS143 fun e he => by simp [he]) (aEv_lenS g1 (lrg_le (by have := lrg_01 l; omega)))) ?_
 rintro v149 W146 ⟨_, en150, rfl, hp151, hT148⟩
 have hS147 := St.call (Ln := [en150]) hS143 hT148
 refine guard_yes (b := true) rfl rfl ?_
 refine sqv (ex_move (v := v87) rfl) ?_
 refine guard_yes (b := true) rfl rfl ?_
 refine sqc (exe_call (args := #[v149, v87]) en31 (args_of2 rfl rfl)) (c_rSame v149 (aEv l.length s0.t s0.p.length) v87 (aEv l.length s0.t s0.p.length) ((entF en150) ++ (entF en88)) W146 (by first | exact aEv_lenS g1 (lrg_le (by have := lrg_01 l; omega)) | exact susEv_lenS g1 (lrg_le (by have := lrg_01 l; omega))) (by first | exact aEv_lenS g1 (lrg_le (by have := lrg_01 l; omega)) | (rw [← (sus_ok g1.ck g1.h0 (by omega)).2.2]; exact susEv_lenS g1 (lrg_le (by have := lrg_01 l; omega))) | simp) (Holds.app (hS147.entH 0 rfl) (hS147.entH 2 rfl)) (Sl.mono ((hp151).slF) fun _ hp => (List.mem_append_left _ hp)) (Sl.mono ((hp89).slF) fun _ hp => (List.mem_append_right _ hp))) ?_
 rintro _ W152 ⟨rfl, hT154⟩
 have hS153 := hS147.call hT154
 rw [show (decide ((aEv l.length s0.t s0.p.length) = (aEv l.length s0.t s0.p.length))) = true from decide_eq_true rfl]
 refine sqv (ex_pick (t := true) (v := .bool true) rfl rfl) ?_
 refine sqv (ex_move (v := .bool true) rfl) ?_
 refine guard_yes (b := true) rfl rfl ?_
 refine sqv (ex_move (v := pt b31) rfl) ?_
 refine guard_yes (b := true) rfl rfl ?_
 refine sqc (exe_call (args := #[pt b31]) en32 (args_of1 rfl)) (c_Events _ _ _ _ (susEv l) W152 hTz64 (St.holdsB hS153 fun e he => by simp [he]) (susEv_lenS g1 (lrg_le (by have := lrg_01 l; omega)))) ?_
 rintro v159 W156 ⟨_, en160, rfl, hp161, hT158⟩
 have hS157 := St.call (Ln := [en160]) hS153 hT158
 refine guard_yes (b := true) rfl rfl ?_
 refine sqv (ex_move (v := .slice none 0 0) rfl) ?_
 refine guard_yes (b := true) rfl rfl ?_
 refine sqc (exe_call (args := #[v159, .slice none 0 0]) en31 (args_of2 rfl rfl)) (c_rSame v159 (susEv l) (.slice none 0 0) ([]) ((entF en160) ++ []) W156 (by first | exact aEv_lenS g1 (lrg_le (by have := lrg_01 l; omega)) | exact susEv_lenS g1 (lrg_le (by have := lrg_01 l; omega))) (by first | exact aEv_lenS g1 (lrg_le (by have := lrg_01 l; omega)) | (rw [← (sus_ok g1.ck g1.h0 (by omega)).2.2]; exact susEv_lenS g1 (lrg_le (by have := lrg_01 l; omega))) | simp) (Holds.app (hS157.entH 0 rfl) (Holds.nil _)) (Sl.mono ((hp161).slF) fun _ hp => (List.mem_append_left _ hp)) (Sl.mono ((Sl.nil _ _ _)) fun _ hp => (List.mem_append_right _ hp))) ?_
 rintro _ W162 ⟨rfl, hT164⟩
 have hS163 := hS157.call hT164
 rw [show (decide ((susEv l) = ([]))) = true from (by first | exact decide_eq_true (sus_ok g1.ck g1.h0 (by omega)).2.2 | exact decide_eq_true (sus_few g1.ck g1.h0 (by omega)).2.2)]
 refine sqv (ex_pick (t := true) (v := .bool true) rfl rfl) ?_
 refine sqv (ex_assign (v := .bool true) rfl) ?_
 show C _ _ _ _ _ _
 refine C_ret ?_
 refine done_1 (v := .bool true) rfl rfl ?_
 exact ⟨congrArg _ (by first | rfl | assumption | (symm; assumption)), hS163.none⟩
theorem c_AuditEvents  (s : Value) (l : List Sh) (Z0 : List Fact) (w0 : World) (g0 : ∀ s ∈ l, ∀ y ∈ s.p, y < B256) (hZ0 : Holds w0 Z0) (hs_s : Shs Z0 46 49 s l) (hG : Cells Z0 0 0 gC) : Calls Tryz.prog 5 #[s] w0 (Ret fun uu w' => uu = .bool true ∧ St [] w0 w' [] []) := by
 by_cases h : ckShs l = 0
 ·obtain ⟨s0, hA⟩ := acc_of h
  exact c_AuditEventsA (fieldOf' s0.f) s0 s l Z0 w0 g0 hA hZ0 hs_s hG
 exact c_AuditEventsE s l Z0 w0 g0 h hZ0 hs_s hG
end Go.Proofs
end
section
set_option linter.unusedVariables false
namespace Sc
open Go
def facts (w : World) : List Fact := (List.range w.heap.size).filterMap fun i => (w.heap[i]?).map fun o => (i, o)
theorem facts_holds (w : World) : Holds w (facts w) := by
  intro p hp
  obtain ⟨i, _, h⟩ := List.mem_filterMap.1 hp
  cases hq : w.heap[i]? with
  | none => simp [hq] at h
  | some o => simp [hq] at h; subst h; exact hq
theorem mem_facts {w : World} {b : Nat} {o : Obj} (h : w.heap[b]? = some o) : (b, o) ∈ facts w :=
  List.mem_filterMap.2 ⟨b, List.mem_range.2 (lt_of_some h), by rw [h]; rfl⟩
section
variable {H : Type} {enc : TypeId × Value → H} {P : Program} {w : World} {base : Nat} {spare : Nat → Bool} {held : Bool}
theorem cell_block {a : Addr} {v : Value} (h : w.cell? a = some v) : ∃ arr t fr, w.heap[a.block]? = some (.cells arr t fr) ∧ a.spot = none ∧ arr[a.off]? = some v := by
  unfold World.cell? at h
  split at h
  · rename_i c t fr hb
    split at h
    · cases h
    · rename_i hs
      exact ⟨c, t, fr, hb, by simpa using hs, h⟩
  · cases h
theorem add_off {a : Addr} (h : a.spot = none) (n : Nat) : a.add n = ⟨a.block, a.off + n, none⟩ := by
  obtain ⟨b, o, s⟩ := a
  simp only at h; subst h
  unfold Addr.add
  split
  · rename_i h0; subst h0; rfl
  · rfl
theorem rd_slice {α : Type} [Inhabited α] {f : α → List Value} {Q : α → Prop} {k : Nat} (hf : ∀ x, (f x).length = k) (hk : 0 < k) {t e : TypeId} {fuel : Nat} {cs : List Value} {x : DataW H × List MemPlace} (ht : P.underlying t = some (.slice e)) (hc : P.cellsOf e = k)
    (h : DataW.trod enc P w base (fun _ => true) held fuel t cs = some x) (hel : ∀ n cs' y, DataW.trod enc P w base (fun _ => true) held n e cs' = some y → ∃ z, cs' = f z ∧ Q z) :
    ∃ (v : Value) (xs : List α), cs = [v] ∧ Sl (facts w) e k v (xs.flatMap f) ∧ ∀ z ∈ xs, Q z := by
  rcases Go.Deep.open_slice ht h with ⟨rfl, _⟩ | ⟨a, len, cap, m, n, D, Pl, rfl, hb, hl, hm, hmm, _, hx⟩
  · exact ⟨_, [], rfl, Sl.nil _ _ _, by simp⟩
  · simp only [if_true] at hmm
    subst hmm
    have hx' : ∀ i, i < m → ∃ z : α, w.cells? base (a.add (i * k)) k = some (f z) ∧ Q z := fun i hi => by
      obtain ⟨cs', h1, h2⟩ := hx i hi
      rw [hc] at h1
      obtain ⟨z, rfl, hz⟩ := hel _ _ _ h2
      exact ⟨z, h1, hz⟩
    obtain ⟨g, hg⟩ := Go.Deep.choose_lt hx'
    refine ⟨_, (List.range len).map g, rfl, ?_, fun z hz => ?_⟩
    · refine ⟨some a, len, m, rfl, by rw [fm_length hf]; simp, hl, hm, ?_⟩
      rcases Nat.eq_zero_or_pos m with h0 | hpos
      · exact .inl ⟨by omega, h0⟩
      ·
        have hcell : ∀ i r, i < m → r < k → w.cell? ((a.add (i * k)).add r) = (f (g i))[r]? := fun i r hi hr => (World.cells?_some (hg i hi).1).2.2 r hr
        have h0 := hcell 0 0 hpos hk
        rw [show (a.add (0 * k)).add 0 = a from by rw [Nat.zero_mul]; rfl, List.getElem?_eq_getElem (by rw [hf]; exact hk)] at h0
        obtain ⟨arr, tt, fr, hh, hs, _⟩ := cell_block h0
        have hall : ∀ i r, i < m → r < k → arr[a.off + (i * k + r)]? = (f (g i))[r]? := fun i r hi hr => by
          have h1 := hcell i r hi hr
          rw [add_off hs, add_off rfl] at h1
          rw [← h1]
          simp [World.cell?, hh, Nat.add_assoc]
        right
        refine ⟨a.block, a.off, by obtain ⟨b, o, s⟩ := a; simp only at hs; subst hs; rfl, ?_⟩
        rcases Nat.eq_zero_or_pos len with hl0 | hlpos
        · exact .inl hl0
        right
        have hmul : (len - 1) * k + k = len * k := by rw [← Nat.succ_mul]; congr 1; omega
        have hlast := hall (len - 1) (k - 1) (by omega) (by omega)
        rw [List.getElem?_eq_getElem (by rw [hf]; omega)] at hlast
        have hlt := (Array.getElem?_eq_some_iff.1 hlast).1
        refine ⟨arr, tt, fr, mem_facts hh, by omega, ?_⟩
        apply List.ext_getElem?
        intro j
        rw [List.getElem?_take]
        split
        · rename_i hj
          rw [List.getElem?_drop]
          have hi : j / k < len := by rw [Nat.div_lt_iff_lt_mul hk]; exact hj
          have hjk : j = (j / k) * k + j % k := by rw [Nat.mul_comm]; exact (Nat.div_add_mod j k).symm
          have h1 := hall (j / k) (j % k) (by omega) (Nat.mod_lt _ hk)
          rw [← hjk] at h1
          have h2 := fm_at hf ((List.range len).map g) (j / k) (g (j / k)) (by rw [List.getElem?_map, List.getElem?_range hi]; rfl)
          have h3 : (((((List.range len).map g).flatMap f).drop (j / k * k)).take k)[j % k]? = (f (g (j / k)))[j % k]? := by rw [h2]
          rw [List.getElem?_take, if_pos (Nat.mod_lt _ hk), List.getElem?_drop, ← hjk] at h3
          rw [h3, ← h1]; simp
        · rename_i hj
          rw [List.getElem?_eq_none (by rw [fm_length hf]; simp; omega)]
    · obtain ⟨i, hi, rfl⟩ := List.mem_map.1 hz
      exact (hg i (by have := List.mem_range.1 hi; omega)).2
theorem rd_el {t e : TypeId} {fuel : Nat} {cs : List Value} {x : DataW H × List MemPlace} (ht : P.underlying t = some (.array 4 e)) (he : P.underlying e = some (.int .u64)) (hc : P.cellsOf t = 4) (hce : P.cellsOf e = 1)
    (h : DataW.trod enc P w base spare held fuel t cs = some x) : ∃ N, cs = el N ∧ N < B256 ∧ x.1 = .agg [.lit (.int .u64 (limb N 0)), .lit (.int .u64 (limb N 1)), .lit (.int .u64 (limb N 2)), .lit (.int .u64 (limb N 3))] := by
  obtain ⟨_, _, _, _, hl, _, _⟩ := DataW.trod_array ht h
  rw [hc] at hl
  match cs, hl with
  | [c0, c1, c2, c3], _ =>
    obtain ⟨y0, y1, y2, y3, n, hx, h0, h1, h2, h3⟩ := Go.ChangeShapes.trod_array4 ht hce h
    obtain ⟨a, e0, f0, w0⟩ := DataW.trod_int he h0
    obtain ⟨b, e1, f1, w1⟩ := DataW.trod_int he h1
    obtain ⟨c, e2, f2, w2⟩ := DataW.trod_int he h2
    obtain ⟨d, e3, f3, w3⟩ := DataW.trod_int he h3
    cases e0; cases e1; cases e2; cases e3
    have r : ∀ {z : Int}, (Lit.int .u64 z).wf = true → 0 ≤ z ∧ z < 18446744073709551616 := fun {z} hz => by
      simp [Lit.wf, IntKind.min, IntKind.max, IntKind.signed, IntKind.bits] at hz; omega
    have a' := r w0; have b' := r w1; have c' := r w2; have d' := r w3
    have hs : ((a + b * 18446744073709551616 + c * 340282366920938463463374607431768211456 + d * 6277101735386680763835789423207666416102355444464034512896).toNat : Int) = a + b * 18446744073709551616 + c * 340282366920938463463374607431768211456 + d * 6277101735386680763835789423207666416102355444464034512896 := Int.toNat_of_nonneg (by omega)
    obtain ⟨l0, l1, l2, l3⟩ := limb_of _ a b c d a' b' c' d' hs
    refine ⟨_, by rw [el, l0, l1, l2, l3], by unfold B256; omega, ?_⟩
    rw [l0, l1, l2, l3, hx, f0, f1, f2, f3]
end
end Sc
end
