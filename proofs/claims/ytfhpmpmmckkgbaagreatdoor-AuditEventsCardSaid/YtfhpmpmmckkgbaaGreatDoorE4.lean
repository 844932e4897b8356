/- AuditEvents holds: the events that the audit records are those of the reference, for all arguments that the statement admits, with no further condition. Part 4 of 12. -/
import Derived.Test.YtfhpmpmmckkgbaaGreatDoorE3
import Derived.Test.YtfhpmpmmckkgbaaGreatDoorProg
set_option linter.unusedVariables false
set_option linter.unusedSimpArgs false
set_option linter.unusedSectionVars false
section
set_option linter.unusedVariables false
set_option linter.unusedSimpArgs false
set_option maxRecDepth 20000
set_option maxHeartbeats 2000000
namespace Go.Proofs
open Sc
theorem ag117 : aggOf Tryz.prog 117 = some 14 := by kernel_rfl
theorem ag40 : aggOf Tryz.prog 40 = some 4 := by kernel_rfl
theorem ag49 : aggOf Tryz.prog 49 = some 4 := by kernel_rfl
theorem ar40 : arrOf Tryz.prog 40 = some (4, 1) := by kernel_rfl
theorem en149 : enters Tryz.prog 149 = true := by kernel_rfl
theorem en150 : enters Tryz.prog 150 = true := by kernel_rfl
theorem en157 : enters Tryz.prog 157 = true := by kernel_rfl
theorem en158 : enters Tryz.prog 158 = true := by kernel_rfl
theorem en159 : enters Tryz.prog 159 = true := by kernel_rfl
theorem en160 : enters Tryz.prog 160 = true := by kernel_rfl
theorem en169 : enters Tryz.prog 169 = true := by kernel_rfl
theorem en174 : enters Tryz.prog 174 = true := by kernel_rfl
theorem fi117_1 : fieldOf Tryz.prog 117 1 = some 1 := by kernel_rfl
theorem fi214_0 : fieldOf Tryz.prog 214 0 = some 0 := by kernel_rfl
theorem mixed : Tryz.prog.follows .mixedOrders = true := by kernel_rfl
theorem on198 : oneOf Tryz.prog 198 = true := by kernel_rfl
theorem on39 : oneOf Tryz.prog 39 = true := by kernel_rfl
theorem ze40 : zeroOf Tryz.prog 40 = some #[.int .u64 0, .int .u64 0, .int .u64 0, .int .u64 0] := by kernel_rfl
theorem ze49 : zeroOf Tryz.prog 49 = some #[.int .u64 0, .int .u64 0, .int .u64 0, .int .u64 0] := by kernel_rfl
theorem c_FromBit_m (x : Bool) (w0 : World)  : Calls Tryz.prog 160 #[.int .u64 (mk x)] w0 (Ret fun uu w' => uu = .int .u64 (mk x) ∧ St [] w0 w' [] []) := by
 refine calls_of Tryz.func160 rfl Tryz.ntmps160 (Nat.le_of_ble_eq_true rfl) ?_
 have hS0 := St.nil w0
 refine C_sr ?_
 refine sqv (ex_assign (v := .int .u64 0) rfl) ?_
 show C _ _ _ _ _ _
 refine C_sr ?_
 refine sqv (ex_move (v := .int .u64 (mk x)) rfl) ?_
 refine nm (bitv .and .u64 (mk x) 1) fun x1 hx1 => ?_
 refine sqv (ex_bit (x := (mk x)) (y := 1) rfl rfl hx1) ?_
 refine nm ((0 - x1) % 18446744073709551616) fun x2 hx2 => ?_
 refine sqv (ex_neg (x := x1) rfl (wu64 hx2)) ?_
 refine sqv (ex_assign (v := .int .u64 x2) rfl) ?_
 show C _ _ _ _ _ _
 refine C_ret ?_
 refine done_1 (v := .int .u64 x2) rfl rfl ?_
 exact ⟨congrArg (Value.int .u64) (show _ = mk x from by subst_vars; exact fromBit_mk x), hS0.none⟩
theorem c_FromBit_b (x : Bool) (w0 : World)  : Calls Tryz.prog 160 #[.int .u64 (bI x)] w0 (Ret fun uu w' => uu = .int .u64 (mk x) ∧ St [] w0 w' [] []) := by
 refine calls_of Tryz.func160 rfl Tryz.ntmps160 (Nat.le_of_ble_eq_true rfl) ?_
 have hS0 := St.nil w0
 refine C_sr ?_
 refine sqv (ex_assign (v := .int .u64 0) rfl) ?_
 show C _ _ _ _ _ _
 refine C_sr ?_
 refine sqv (ex_move (v := .int .u64 (bI x)) rfl) ?_
 refine nm (bitv .and .u64 (bI x) 1) fun x1 hx1 => ?_
 refine sqv (ex_bit (x := (bI x)) (y := 1) rfl rfl hx1) ?_
 refine nm ((0 - x1) % 18446744073709551616) fun x2 hx2 => ?_
 refine sqv (ex_neg (x := x1) rfl (wu64 hx2)) ?_
 refine sqv (ex_assign (v := .int .u64 x2) rfl) ?_
 show C _ _ _ _ _ _
 refine C_ret ?_
 refine done_1 (v := .int .u64 x2) rfl rfl ?_
 exact ⟨congrArg (Value.int .u64) (show _ = mk x from by subst_vars; exact fromBit_bI x), hS0.none⟩
theorem c_mChoose (m : Int) (a : Int) (b : Int) (w0 : World)  : Calls Tryz.prog 174 #[.int .u64 m, .int .u64 a, .int .u64 b] w0 (Ret fun uu w' => uu = .int .u64 (mChoose m a b) ∧ St [] w0 w' [] []) := by
 refine calls_of Tryz.func174 rfl Tryz.ntmps174 (Nat.le_of_ble_eq_true rfl) ?_
 have hS0 := St.nil w0
 refine C_sr ?_
 refine sqv (ex_assign (v := .int .u64 0) rfl) ?_
 show C _ _ _ _ _ _
 refine C_sr ?_
 refine sqv (ex_move (v := .int .u64 b) rfl) ?_
 refine sqv (ex_move (v := .int .u64 m) rfl) ?_
 refine sqv (ex_move (v := .int .u64 a) rfl) ?_
 refine sqv (ex_move (v := .int .u64 b) rfl) ?_
 refine nm (bitv .xor .u64 a b) fun x1 hx1 => ?_
 refine sqv (ex_bit (x := a) (y := b) rfl rfl hx1) ?_
 refine nm (bitv .and .u64 m x1) fun x2 hx2 => ?_
 refine sqv (ex_bit (x := m) (y := x1) rfl rfl hx2) ?_
 refine nm (bitv .xor .u64 b x2) fun x3 hx3 => ?_
 refine sqv (ex_bit (x := b) (y := x2) rfl rfl hx3) ?_
 refine sqv (ex_assign (v := .int .u64 x3) rfl) ?_
 show C _ _ _ _ _ _
 refine C_ret ?_
 refine done_1 (v := .int .u64 x3) rfl rfl ?_
 exact ⟨by subst_vars; rfl, hS0.none⟩
theorem e_Add64 : e64 Tryz.prog 148 "Add64" := ⟨_, Tryz.func148, by kernel_rfl, by kernel_rfl, by kernel_rfl, _, by kernel_rfl, fun _ => rfl⟩
theorem c_applyAdd64 (a : Nat) (b : Nat) (w0 : World) (g0 : a < B256) (g1 : b < B256) : Calls Tryz.prog 169 #[.agg #[.func (.func 148) #[] #[]], elV a, elV b] w0 (Ret fun uu w' => uu = .tuple #[elV (addN a b), .int .u64 (bI (decide (B256 ≤ a + b)))] ∧ St [] w0 w' [] []) := by
 refine calls_of Tryz.func169 rfl Tryz.ntmps169 (Nat.le_of_ble_eq_true rfl) ?_
 have hS0 := St.nil w0
 refine C_sr ?_
 refine sqE (st_box (v := .agg #[.func (.func 148) #[] #[]]) (cs := #[.func (.func 148) #[] #[]]) hS0 rfl rfl) fun b1 W2 hS3 => ?_
 refine sqE (st_box (v := elV a) (cs := (elA a)) hS3 rfl rfl) fun b4 W5 hS6 => ?_
 refine sqE (st_box (v := elV b) (cs := (elA b)) hS6 rfl rfl) fun b7 W8 hS9 => ?_
 refine sqE (st_alloc hS9 ze40) fun b10 W11 hS12 => ?_
 refine sqv (ex_assign (v := .int .u64 0) rfl) ?_
 show C _ _ _ _ _ _
 refine C_seq ?_
 refine C_sr ?_
 refine sqv (ex_move (v := .int .i64 0) rfl) ?_
 show C _ _ _ _ _ _
 refine C_block ?_
 refine C_unroll 5 ?_
 show C _ _ _ _ _ _
 refine C_sr ?_
 refine sqv (ex_cmp (x := 0) (y := 4) (r := true) rfl rfl rfl) ?_
 show C _ _ _ _ _ _
 refine C_seq ?_
 refine C_true rfl ?_
 refine C_skip ?_
 show C _ _ _ _ _ _
 refine C_seq ?_
 refine C_block ?_
 refine C_sr ?_
 refine sqv (ex_move (v := .int .i64 0) rfl) ?_
 refine sqv (ex_assign (v := .int .i64 0) rfl) ?_
 show C _ _ _ _ _ _
 refine nm (addLo (limb a 0) (limb b 0) 0) fun x13 hx13 => ?_
 refine nm (addHi (limb a 0) (limb b 0) 0) fun x14 hx14 => ?_
 have hcx14 : 0 ≤ x14 ∧ x14 ≤ 1 := hx14 ▸ addHi_bd (limb_nonneg _ _) (limb_lt _ _) (limb_nonneg _ _) (limb_lt _ _) (by decide)
 refine C_draw (p := 16) (l := [(some 13, .int .i64 0), (some 14, pt b1), (some 15, .func (.func 148) #[] #[]), (some 16, .int .i64 0), (some 17, pt b4), (some 18, .int .u64 (limb a 0)), (some 19, .int .i64 0), (some 20, pt b7), (some 21, .int .u64 (limb b 0)), (some 22, .int .u64 0), (some 23, .tuple #[.int .u64 x13, .int .u64 x14]), (some 12, .tuple #[.int .u64 x13, .int .u64 x14]), (some 24, .int .u64 x13), (some 25, .int .u64 x14), (some 26, pt b10), (none, undef)]) (G := [15]) (J := fun w => St [] w0 w [some (b10, .cells #[.int .u64 0, .int .u64 0, .int .u64 0, .int .u64 0] 40), some (b7, .cells (elA b) 40), some (b4, .cells (elA a) 40), some (b1, .cells #[.func (.func 148) #[] #[]] 214)] []) mixed ?_ (hS12.draw _)
 refine node1 16 [15] [] [] (by kernel_rfl) rfl rfl (nd rfl) rfl (by kernel_rfl) ?_ ?_ ?_
 ·intro S wd hSd
  refine ⟨n0 rfl rfl rfl (ex_move (v := .int .i64 0) rfl) rfl hSd, n0 rfl rfl rfl (ex_field (o' := 0) rfl fi214_0 rfl) rfl hSd, n1 rfl rfl rfl rfl (fun hq1 => (ex_load (v := .func (.func 148) #[] #[]) (evS hq1 rfl rfl) (hSd.at 3 rfl) on198 rfl)) rfl hSd, n0 rfl rfl rfl (ex_move (v := .int .i64 0) rfl) rfl hSd, n1 rfl rfl rfl rfl (fun hq3 => (ex_index (j := 0) (o' := 0) rfl (evS hq3 rfl rfl) ar40 (by decide) (by decide) rfl)) rfl hSd, n1 rfl rfl rfl rfl (fun hq4 => (ex_load (v := .int .u64 (limb a 0)) (evS hq4 rfl rfl) (hSd.at 2 rfl) on39 rfl)) rfl hSd, n0 rfl rfl rfl (ex_move (v := .int .i64 0) rfl) rfl hSd, n1 rfl rfl rfl rfl (fun hq6 => (ex_index (j := 0) (o' := 0) rfl (evS hq6 rfl rfl) ar40 (by decide) (by decide) rfl)) rfl hSd, n1 rfl rfl rfl rfl (fun hq7 => (ex_load (v := .int .u64 (limb b 0)) (evS hq7 rfl rfl) (hSd.at 1 rfl) on39 rfl)) rfl hSd, n0 rfl rfl rfl (ex_move (v := .int .u64 0) rfl) rfl hSd, ?_, n1 rfl rfl rfl rfl (fun hq10 => (ex_move (v := .tuple #[.int .u64 x13, .int .u64 x14]) (evS hq10 rfl rfl))) rfl hSd, n1 rfl rfl rfl rfl (fun hq11 => (ex_extract (v := .int .u64 x13) (evS hq11 rfl rfl) rfl)) rfl hSd, n1 rfl rfl rfl rfl (fun hq11 => (ex_extract (v := .int .u64 x14) (evS hq11 rfl rfl) rfl)) rfl hSd, ?_, sG rfl, tt⟩
  ·refine needG rfl ?_
   rintro ⟨hq2, hq5, hq8, hq9, _⟩ hno
   exact dx (wanted_none rfl) rfl (exq_add64 (x := (limb a 0)) (y := (limb b 0)) (c := 0) hx13 hx14 e_Add64 (evS hq2 rfl rfl) (args_of3 (evS hq5 rfl rfl) (evS hq8 rfl rfl) (evS hq9 rfl rfl)) (limb_nonneg _ _) (limb_nonneg _ _) (by decide)) ⟨rfl, hSd⟩
  refine needG rfl ?_
  rintro ⟨hq0, hq0, hq1, hq2, hq3, hq4, hq5, hq6, hq7, hq8, hq9, hq10, hq11, hq12, _⟩ hno
  exact dx (wanted_none rfl) rfl (ex_index (j := 0) (o' := 0) rfl (evS hq0 rfl rfl) ar40 (by decide) (by decide) rfl) ⟨rfl, hSd⟩
 ·intro S wd hSd
  refine ⟨tt, tt, tt, tt, tt, tt, tt, tt, tt, tt, tt, tt, tt, tt, tt, ?_, tt⟩
  refine needH rfl ?_
  rintro ⟨hq14, hq12, hq10, hq0, hq1, hq2, hq3, hq4, hq5, hq6, hq7, hq8, hq9, hq10, hq11, hq12, _⟩ hno
  refine dxU (wanted_none rfl) rfl (st_store (v := .int .u64 x13) (cs' := #[.int .u64 x13, .int .u64 0, .int .u64 0, .int .u64 0]) 0 hSd (evS hq14 rfl rfl) (evS hq12 rfl rfl) rfl on39 rfl (Nat.le_of_ble_eq_true rfl) rfl rfl) fun W15 hS16 => ?_
  refine ⟨fun w => St [] w0 w [some (b10, .cells #[.int .u64 x13, .int .u64 0, .int .u64 0, .int .u64 0] 40), some (b7, .cells (elA b) 40), some (b4, .cells (elA a) 40), some (b1, .cells #[.func (.func 148) #[] #[]] 214)] [], [(some 13, .int .i64 0), (some 14, pt b1), (some 15, .func (.func 148) #[] #[]), (some 16, .int .i64 0), (some 17, pt b4), (some 18, .int .u64 (limb a 0)), (some 19, .int .i64 0), (some 20, pt b7), (some 21, .int .u64 (limb b 0)), (some 22, .int .u64 0), (some 23, .tuple #[.int .u64 x13, .int .u64 x14]), (some 12, .tuple #[.int .u64 x13, .int .u64 x14]), (some 24, .int .u64 x13), (some 25, .int .u64 x14), (some 26, pt b10), (none, undef)], [], hS16, by kernel_rfl, ⟨rfl, rfl, rfl, rfl, rfl, rfl, rfl, rfl, rfl, rfl, rfl, rfl, rfl, rfl, rfl, rfl, rfl, rfl, rfl, rfl, rfl, rfl, rfl, rfl, rfl, rfl, rfl, rfl, rfl, rfl, rfl, True.intro, True.intro⟩, rfl, ?_⟩
  show Sc.Node _ _ _ _ _ _ _ 16 [(some 13, .int .i64 0), (some 14, pt b1), (some 15, .func (.func 148) #[] #[]), (some 16, .int .i64 0), (some 17, pt b4), (some 18, .int .u64 (limb a 0)), (some 19, .int .i64 0), (some 20, pt b7), (some 21, .int .u64 (limb b 0)), (some 22, .int .u64 0), (some 23, .tuple #[.int .u64 x13, .int .u64 x14]), (some 12, .tuple #[.int .u64 x13, .int .u64 x14]), (some 24, .int .u64 x13), (some 25, .int .u64 x14), (some 26, pt b10), (none, undef)] [] [15] _
  refine node1 16 [] [15] [] (by kernel_rfl) rfl rfl (nd rfl) rfl (by kernel_rfl) ?_ ?_ ?_
  ·intro S wd hSd
   refine ⟨n0 rfl rfl rfl (ex_move (v := .int .i64 0) rfl) rfl hSd, n0 rfl rfl rfl (ex_field (o' := 0) rfl fi214_0 rfl) rfl hSd, n1 rfl rfl rfl rfl (fun hq1 => (ex_load (v := .func (.func 148) #[] #[]) (evS hq1 rfl rfl) (hSd.at 3 rfl) on198 rfl)) rfl hSd, n0 rfl rfl rfl (ex_move (v := .int .i64 0) rfl) rfl hSd, n1 rfl rfl rfl rfl (fun hq3 => (ex_index (j := 0) (o' := 0) rfl (evS hq3 rfl rfl) ar40 (by decide) (by decide) rfl)) rfl hSd, n1 rfl rfl rfl rfl (fun hq4 => (ex_load (v := .int .u64 (limb a 0)) (evS hq4 rfl rfl) (hSd.at 2 rfl) on39 rfl)) rfl hSd, n0 rfl rfl rfl (ex_move (v := .int .i64 0) rfl) rfl hSd, n1 rfl rfl rfl rfl (fun hq6 => (ex_index (j := 0) (o' := 0) rfl (evS hq6 rfl rfl) ar40 (by decide) (by decide) rfl)) rfl hSd, n1 rfl rfl rfl rfl (fun hq7 => (ex_load (v := .int .u64 (limb b 0)) (evS hq7 rfl rfl) (hSd.at 1 rfl) on39 rfl)) rfl hSd, n0 rfl rfl rfl (ex_move (v := .int .u64 0) rfl) rfl hSd, ?_, n1 rfl rfl rfl rfl (fun hq10 => (ex_move (v := .tuple #[.int .u64 x13, .int .u64 x14]) (evS hq10 rfl rfl))) rfl hSd, n1 rfl rfl rfl rfl (fun hq11 => (ex_extract (v := .int .u64 x13) (evS hq11 rfl rfl) rfl)) rfl hSd, n1 rfl rfl rfl rfl (fun hq11 => (ex_extract (v := .int .u64 x14) (evS hq11 rfl rfl) rfl)) rfl hSd, ?_, sG rfl, tt⟩
   ·refine needG rfl ?_
    rintro ⟨hq2, hq5, hq8, hq9, _⟩ hno
    exact dx (wanted_none rfl) rfl (exq_add64 (x := (limb a 0)) (y := (limb b 0)) (c := 0) hx13 hx14 e_Add64 (evS hq2 rfl rfl) (args_of3 (evS hq5 rfl rfl) (evS hq8 rfl rfl) (evS hq9 rfl rfl)) (limb_nonneg _ _) (limb_nonneg _ _) (by decide)) ⟨rfl, hSd⟩
   refine needG rfl ?_
   rintro ⟨hq0, hq0, hq1, hq2, hq3, hq4, hq5, hq6, hq7, hq8, hq9, hq10, hq11, hq12, _⟩ hno
   exact dx (wanted_none rfl) rfl (ex_index (j := 0) (o' := 0) rfl (evS hq0 rfl rfl) ar40 (by decide) (by decide) rfl) ⟨rfl, hSd⟩
  ·exact fun S wd hSd => ⟨True.intro, True.intro, True.intro, True.intro, True.intro, True.intro, True.intro, True.intro, True.intro, True.intro, True.intro, True.intro, True.intro, True.intro, True.intro, True.intro, True.intro⟩
  intro _ W17 hS18
  refine sqv (ex_assign (v := .int .u64 x14) rfl) ?_
  refine blk_normal ?_
  show C _ _ _ _ _ _
  refine C_region ?_
  refine sqv (ex_add (x := 0) (y := 1) (r := 1) rfl rfl (by rfl)) ?_
  refine sqv (ex_move (v := .int .i64 1) rfl) ?_
  show C _ _ _ _ _ _
  refine C_sr ?_
  refine sqv (ex_cmp (x := 1) (y := 4) (r := true) rfl rfl rfl) ?_
  show C _ _ _ _ _ _
  refine C_seq ?_
  refine C_true rfl ?_
  refine C_skip ?_
  show C _ _ _ _ _ _
  refine C_seq ?_
  refine C_block ?_
  refine C_sr ?_
  refine sqv (ex_move (v := .int .i64 1) rfl) ?_
  refine sqv (ex_assign (v := .int .i64 1) rfl) ?_
  show C _ _ _ _ _ _
  refine nm (addLo (limb a 1) (limb b 1) x14) fun x19 hx19 => ?_
  refine nm (addHi (limb a 1) (limb b 1) x14) fun x20 hx20 => ?_
  have hcx20 : 0 ≤ x20 ∧ x20 ≤ 1 := hx20 ▸ addHi_bd (limb_nonneg _ _) (limb_lt _ _) (limb_nonneg _ _) (limb_lt _ _) hcx14
  refine C_draw (p := 16) (l := [(some 13, .int .i64 1), (some 14, pt b1), (some 15, .func (.func 148) #[] #[]), (some 16, .int .i64 1), (some 17, .pointer (some ⟨b4, 1, none⟩)), (some 18, .int .u64 (limb a 1)), (some 19, .int .i64 1), (some 20, .pointer (some ⟨b7, 1, none⟩)), (some 21, .int .u64 (limb b 1)), (some 22, .int .u64 x14), (some 23, .tuple #[.int .u64 x19, .int .u64 x20]), (some 12, .tuple #[.int .u64 x19, .int .u64 x20]), (some 24, .int .u64 x19), (some 25, .int .u64 x20), (some 26, .pointer (some ⟨b10, 1, none⟩)), (none, undef)]) (G := [15]) (J := fun w => St [] w0 w [some (b10, .cells #[.int .u64 x13, .int .u64 0, .int .u64 0, .int .u64 0] 40), some (b7, .cells (elA b) 40), some (b4, .cells (elA a) 40), some (b1, .cells #[.func (.func 148) #[] #[]] 214)] []) mixed ?_ (hS18.draw _)
  refine node1 16 [15] [] [] (by kernel_rfl) rfl rfl (nd rfl) rfl (by kernel_rfl) ?_ ?_ ?_
  ·intro S wd hSd
   refine ⟨n0 rfl rfl rfl (ex_move (v := .int .i64 1) rfl) rfl hSd, n0 rfl rfl rfl (ex_field (o' := 0) rfl fi214_0 rfl) rfl hSd, n1 rfl rfl rfl rfl (fun hq1 => (ex_load (v := .func (.func 148) #[] #[]) (evS hq1 rfl rfl) (hSd.at 3 rfl) on198 rfl)) rfl hSd, n0 rfl rfl rfl (ex_move (v := .int .i64 1) rfl) rfl hSd, n1 rfl rfl rfl rfl (fun hq3 => (ex_index (j := 1) (o' := 1) rfl (evS hq3 rfl rfl) ar40 (by decide) (by decide) rfl)) rfl hSd, n1 rfl rfl rfl rfl (fun hq4 => (ex_load (v := .int .u64 (limb a 1)) (evS hq4 rfl rfl) (hSd.at 2 rfl) on39 rfl)) rfl hSd, n0 rfl rfl rfl (ex_move (v := .int .i64 1) rfl) rfl hSd, n1 rfl rfl rfl rfl (fun hq6 => (ex_index (j := 1) (o' := 1) rfl (evS hq6 rfl rfl) ar40 (by decide) (by decide) rfl)) rfl hSd, n1 rfl rfl rfl rfl (fun hq7 => (ex_load (v := .int .u64 (limb b 1)) (evS hq7 rfl rfl) (hSd.at 1 rfl) on39 rfl)) rfl hSd, n0 rfl rfl rfl (ex_move (v := .int .u64 x14) rfl) rfl hSd, ?_, n1 rfl rfl rfl rfl (fun hq10 => (ex_move (v := .tuple #[.int .u64 x19, .int .u64 x20]) (evS hq10 rfl rfl))) rfl hSd, n1 rfl rfl rfl rfl (fun hq11 => (ex_extract (v := .int .u64 x19) (evS hq11 rfl rfl) rfl)) rfl hSd, n1 rfl rfl rfl rfl (fun hq11 => (ex_extract (v := .int .u64 x20) (evS hq11 rfl rfl) rfl)) rfl hSd, ?_, sG rfl, tt⟩
   ·refine needG rfl ?_
    rintro ⟨hq2, hq5, hq8, hq9, _⟩ hno
    exact dx (wanted_none rfl) rfl (exq_add64 (x := (limb a 1)) (y := (limb b 1)) (c := x14) hx19 hx20 e_Add64 (evS hq2 rfl rfl) (args_of3 (evS hq5 rfl rfl) (evS hq8 rfl rfl) (evS hq9 rfl rfl)) (limb_nonneg _ _) (limb_nonneg _ _) hcx14) ⟨rfl, hSd⟩
   refine needG rfl ?_
   rintro ⟨hq0, hq0, hq1, hq2, hq3, hq4, hq5, hq6, hq7, hq8, hq9, hq10, hq11, hq12, _⟩ hno
   exact dx (wanted_none rfl) rfl (ex_index (j := 1) (o' := 1) rfl (evS hq0 rfl rfl) ar40 (by decide) (by decide) rfl) ⟨rfl, hSd⟩
  ·intro S wd hSd
   refine ⟨tt, tt, tt, tt, tt, tt, tt, tt, tt, tt, tt, tt, tt, tt, tt, ?_, tt⟩
   refine needH rfl ?_
   rintro ⟨hq14, hq12, hq10, hq0, hq1, hq2, hq3, hq4, hq5, hq6, hq7, hq8, hq9, hq10, hq11, hq12, _⟩ hno
   refine dxU (wanted_none rfl) rfl (st_store (v := .int .u64 x19) (cs' := #[.int .u64 x13, .int .u64 x19, .int .u64 0, .int .u64 0]) 0 hSd (evS hq14 rfl rfl) (evS hq12 rfl rfl) rfl on39 rfl (Nat.le_of_ble_eq_true rfl) rfl rfl) fun W21 hS22 => ?_
   refine ⟨fun w => St [] w0 w [some (b10, .cells #[.int .u64 x13, .int .u64 x19, .int .u64 0, .int .u64 0] 40), some (b7, .cells (elA b) 40), some (b4, .cells (elA a) 40), some (b1, .cells #[.func (.func 148) #[] #[]] 214)] [], [(some 13, .int .i64 1), (some 14, pt b1), (some 15, .func (.func 148) #[] #[]), (some 16, .int .i64 1), (some 17, .pointer (some ⟨b4, 1, none⟩)), (some 18, .int .u64 (limb a 1)), (some 19, .int .i64 1), (some 20, .pointer (some ⟨b7, 1, none⟩)), (some 21, .int .u64 (limb b 1)), (some 22, .int .u64 x14), (some 23, .tuple #[.int .u64 x19, .int .u64 x20]), (some 12, .tuple #[.int .u64 x19, .int .u64 x20]), (some 24, .int .u64 x19), (some 25, .int .u64 x20), (some 26, .pointer (some ⟨b10, 1, none⟩)), (none, undef)], [], hS22, by kernel_rfl, ⟨rfl, rfl, rfl, rfl, rfl, rfl, rfl, rfl, rfl, rfl, rfl, rfl, rfl, rfl, rfl, rfl, rfl, rfl, rfl, rfl, rfl, rfl, rfl, rfl, rfl, rfl, rfl, rfl, rfl, rfl, rfl, True.intro, True.intro⟩, rfl, ?_⟩
   show Sc.Node _ _ _ _ _ _ _ 16 [(some 13, .int .i64 1), (some 14, pt b1), (some 15, .func (.func 148) #[] #[]), (some 16, .int .i64 1), (some 17, .pointer (some ⟨b4, 1, none⟩)), (some 18, .int .u64 (limb a 1)), (some 19, .int .i64 1), (some 20, .pointer (some ⟨b7, 1, none⟩)), (some 21, .int .u64 (limb b 1)), (some 22, .int .u64 x14), (some 23, .tuple #[.int .u64 x19, .int .u64 x20]), (some 12, .tuple #[.int .u64 x19, .int .u64 x20]), (some 24, .int .u64 x19), (some 25, .int .u64 x20), (some 26, .pointer (some ⟨b10, 1, none⟩)), (none, undef)] [] [15] _
   refine node1 16 [] [15] [] (by kernel_rfl) rfl rfl (nd rfl) rfl (by kernel_rfl) ?_ ?_ ?_
   ·intro S wd hSd
    refine ⟨n0 rfl rfl rfl (ex_move (v := .int .i64 1) rfl) rfl hSd, n0 rfl rfl rfl (ex_field (o' := 0) rfl fi214_0 rfl) rfl hSd, n1 rfl rfl rfl rfl (fun hq1 => (ex_load (v := .func (.func 148) #[] #[]) (evS hq1 rfl rfl) (hSd.at 3 rfl) on198 rfl)) rfl hSd, n0 rfl rfl rfl (ex_move (v := .int .i64 1) rfl) rfl hSd, n1 rfl rfl rfl rfl (fun hq3 => (ex_index (j := 1) (o' := 1) rfl (evS hq3 rfl rfl) ar40 (by decide) (by decide) rfl)) rfl hSd, n1 rfl rfl rfl rfl (fun hq4 => (ex_load (v := .int .u64 (limb a 1)) (evS hq4 rfl rfl) (hSd.at 2 rfl) on39 rfl)) rfl hSd, n0 rfl rfl rfl (ex_move (v := .int .i64 1) rfl) rfl hSd, n1 rfl rfl rfl rfl (fun hq6 => (ex_index (j := 1) (o' := 1) rfl (evS hq6 rfl rfl) ar40 (by decide) (by decide) rfl)) rfl hSd, n1 rfl rfl rfl rfl (fun hq7 => (ex_load (v := .int .u64 (limb b 1)) (evS hq7 rfl rfl) (hSd.at 1 rfl) on39 rfl)) rfl hSd, n0 rfl rfl rfl (ex_move (v := .int .u64 x14) rfl) rfl hSd, ?_, n1 rfl rfl rfl rfl (fun hq10 => (ex_move (v := .tuple #[.int .u64 x19, .int .u64 x20]) (evS hq10 rfl rfl))) rfl hSd, n1 rfl rfl rfl rfl (fun hq11 => (ex_extract (v := .int .u64 x19) (evS hq11 rfl rfl) rfl)) rfl hSd, n1 rfl rfl rfl rfl (fun hq11 => (ex_extract (v := .int .u64 x20) (evS hq11 rfl rfl) rfl)) rfl hSd, ?_, sG rfl, tt⟩
    ·refine needG rfl ?_
     rintro ⟨hq2, hq5, hq8, hq9, _⟩ hno
     exact dx (wanted_none rfl) rfl (exq_add64 (x := (limb a 1)) (y := (limb b 1)) (c := x14) hx19 hx20 e_Add64 (evS hq2 rfl rfl) (args_of3 (evS hq5 rfl rfl) (evS hq8 rfl rfl) (evS hq9 rfl rfl)) (limb_nonneg _ _) (limb_nonneg _ _) hcx14) ⟨rfl, hSd⟩
    refine needG rfl ?_
    rintro ⟨hq0, hq0, hq1, hq2, hq3, hq4, hq5, hq6, hq7, hq8, hq9, hq10, hq11, hq12, _⟩ hno
    exact dx (wanted_none rfl) rfl (ex_index (j := 1) (o' := 1) rfl (evS hq0 rfl rfl) ar40 (by decide) (by decide) rfl) ⟨rfl, hSd⟩
   ·exact fun S wd hSd => ⟨True.intro, True.intro, True.intro, True.intro, True.intro, True.intro, True.intro, True.intro, True.intro, True.intro, True.intro, True.intro, True.intro, True.intro, True.intro, True.intro, True.intro⟩
   intro _ W23 hS24
   refine sqv (ex_assign (v := .int .u64 x20) rfl) ?_
   refine blk_normal ?_
   show C _ _ _ _ _ _
   refine C_region ?_
   refine sqv (ex_add (x := 1) (y := 1) (r := 2) rfl rfl (by rfl)) ?_
   refine sqv (ex_move (v := .int .i64 2) rfl) ?_
   show C _ _ _ _ _ _
   refine C_sr ?_
   refine sqv (ex_cmp (x := 2) (y := 4) (r := true) rfl rfl rfl) ?_
   show C _ _ _ _ _ _
   refine C_seq ?_
   refine C_true rfl ?_
   refine C_skip ?_
   show C _ _ _ _ _ _
   refine C_seq ?_
   refine C_block ?_
   refine C_sr ?_
   refine sqv (ex_move (v := .int .i64 2) rfl) ?_
   refine sqv (ex_assign (v := .int .i64 2) rfl) ?_
   show C _ _ _ _ _ _
   refine nm (addLo (limb a 2) (limb b 2) x20) fun x25 hx25 => ?_
   refine nm (addHi (limb a 2) (limb b 2) x20) fun x26 hx26 => ?_
   have hcx26 : 0 ≤ x26 ∧ x26 ≤ 1 := hx26 ▸ addHi_bd (limb_nonneg _ _) (limb_lt _ _) (limb_nonneg _ _) (limb_lt _ _) hcx20
   refine C_draw (p := 16) (l := [(some 13, .int .i64 2), (some 14, pt b1), (some 15, .func (.func 148) #[] #[]), (some 16, .int .i64 2), (some 17, .pointer (some ⟨b4, 2, none⟩)), (some 18, .int .u64 (limb a 2)), (some 19, .int .i64 2), (some 20, .pointer (some ⟨b7, 2, none⟩)), (some 21, .int .u64 (limb b 2)), (some 22, .int .u64 x20), (some 23, .tuple #[.int .u64 x25, .int .u64 x26]), (some 12, .tuple #[.int .u64 x25, .int .u64 x26]), (some 24, .int .u64 x25), (some 25, .int .u64 x26), (some 26, .pointer (some ⟨b10, 2, none⟩)), (none, undef)]) (G := [15]) (J := fun w => St [] w0 w [some (b10, .cells #[.int .u64 x13, .int .u64 x19, .int .u64 0, .int .u64 0] 40), some (b7, .cells (elA b) 40), some (b4, .cells (elA a) 40), some (b1, .cells #[.func (.func 148) #[] #[]] 214)] []) mixed ?_ (hS24.draw _)
   refine node1 16 [15] [] [] (by kernel_rfl) rfl rfl (nd rfl) rfl (by kernel_rfl) ?_ ?_ ?_
   ·intro S wd hSd
    refine ⟨n0 rfl rfl rfl (ex_move (v := .int .i64 2) rfl) rfl hSd, n0 rfl rfl rfl (ex_field (o' := 0) rfl fi214_0 rfl) rfl hSd, n1 rfl rfl rfl rfl (fun hq1 => (ex_load (v := .func (.func 148) #[] #[]) (evS hq1 rfl rfl) (hSd.at 3 rfl) on198 rfl)) rfl hSd, n0 rfl rfl rfl (ex_move (v := .int .i64 2) rfl) rfl hSd, n1 rfl rfl rfl rfl (fun hq3 => (ex_index (j := 2) (o' := 2) rfl (evS hq3 rfl rfl) ar40 (by decide) (by decide) rfl)) rfl hSd, n1 rfl rfl rfl rfl (fun hq4 => (ex_load (v := .int .u64 (limb a 2)) (evS hq4 rfl rfl) (hSd.at 2 rfl) on39 rfl)) rfl hSd, n0 rfl rfl rfl (ex_move (v := .int .i64 2) rfl) rfl hSd, n1 rfl rfl rfl rfl (fun hq6 => (ex_index (j := 2) (o' := 2) rfl (evS hq6 rfl rfl) ar40 (by decide) (by decide) rfl)) rfl hSd, n1 rfl rfl rfl rfl (fun hq7 => (ex_load (v := .int .u64 (limb b 2)) (evS hq7 rfl rfl) (hSd.at 1 rfl) on39 rfl)) rfl hSd, n0 rfl rfl rfl (ex_move (v := .int .u64 x20) rfl) rfl hSd, ?_, n1 rfl rfl rfl rfl (fun hq10 => (ex_move (v := .tuple #[.int .u64 x25, .int .u64 x26]) (evS hq10 rfl rfl))) rfl hSd, n1 rfl rfl rfl rfl (fun hq11 => (ex_extract (v := .int .u64 x25) (evS hq11 rfl rfl) rfl)) rfl hSd, n1 rfl rfl rfl rfl (fun hq11 => (ex_extract (v := .int .u64 x26) (evS hq11 rfl rfl) rfl)) rfl hSd, ?_, sG rfl, tt⟩
    ·refine needG rfl ?_
     rintro ⟨hq2, hq5, hq8, hq9, _⟩ hno
     exact dx (wanted_none rfl) rfl (exq_add64 (x := (limb a 2)) (y := (limb b 2)) (c := x20) hx25 hx26 e_Add64 (evS hq2 rfl rfl) (args_of3 (evS hq5 rfl rfl) (evS hq8 rfl rfl) (evS hq9 rfl rfl)) (limb_nonneg _ _) (limb_nonneg _ _) hcx20) ⟨rfl, hSd⟩
    refine needG rfl ?_
    rintro ⟨hq0, hq0, hq1, hq2, hq3, hq4, hq5, hq6, hq7, hq8, hq9, hq10, hq11, hq12, _⟩ hno
    exact dx (wanted_none rfl) rfl (ex_index (j := 2) (o' := 2) rfl (evS hq0 rfl rfl) ar40 (by decide) (by decide) rfl) ⟨rfl, hSd⟩
   ·intro S wd hSd
    refine ⟨tt, tt, tt, tt, tt, tt, tt, tt, tt, tt, tt, tt, tt, tt, tt, ?_, tt⟩
    refine needH rfl ?_
    rintro ⟨hq14, hq12, hq10, hq0, hq1, hq2, hq3, hq4, hq5, hq6, hq7, hq8, hq9, hq10, hq11, hq12, _⟩ hno
    refine dxU (wanted_none rfl) rfl (st_store (v := .int .u64 x25) (cs' := #[.int .u64 x13, .int .u64 x19, .int .u64 x25, .int .u64 0]) 0 hSd (evS hq14 rfl rfl) (evS hq12 rfl rfl) rfl on39 rfl (Nat.le_of_ble_eq_true rfl) rfl rfl) fun W27 hS28 => ?_
    refine ⟨fun w => St [] w0 w [some (b10, .cells #[.int .u64 x13, .int .u64 x19, .int .u64 x25, .int .u64 0] 40), some (b7, .cells (elA b) 40), some (b4, .cells (elA a) 40), some (b1, .cells #[.func (.func 148) #[] #[]] 214)] [], [(some 13, .int .i64 2), (some 14, pt b1), (some 15, .func (.func 148) #[] #[]), (some 16, .int .i64 2), (some 17, .pointer (some ⟨b4, 2, none⟩)), (some 18, .int .u64 (limb a 2)), (some 19, .int .i64 2), (some 20, .pointer (some ⟨b7, 2, none⟩)), (some 21, .int .u64 (limb b 2)), (some 22, .int .u64 x20), (some 23, .tuple #[.int .u64 x25, .int .u64 x26]), (some 12, .tuple #[.int .u64 x25, .int .u64 x26]), (some 24, .int .u64 x25), (some 25, .int .u64 x26), (some 26, .pointer (some ⟨b10, 2, none⟩)), (none, undef)], [], hS28, by kernel_rfl, ⟨rfl, rfl, rfl, rfl, rfl, rfl, rfl, rfl, rfl, rfl, rfl, rfl, rfl, rfl, rfl, rfl, rfl, rfl, rfl, rfl, rfl, rfl, rfl, rfl, rfl, rfl, rfl, rfl, rfl, rfl, rfl, True.intro, True.intro⟩, rfl, ?_⟩
    show Sc.Node _ _ _ _ _ _ _ 16 [(some 13, .int .i64 2), (some 14, pt b1), (some 15, .func (.func 148) #[] #[]), (some 16, .int .i64 2), (some 17, .pointer (some ⟨b4, 2, none⟩)), (some 18, .int .u64 (limb a 2)), (some 19, .int .i64 2), (some 20, .pointer (some ⟨b7, 2, none⟩)), (some 21, .int .u64 (limb b 2)), (some 22, .int .u64 x20), (some 23, .tuple #[.int .u64 x25, .int .u64 x26]), (some 12, .tuple #[.int .u64 x25, .int .u64 x26]), (some 24, .int .u64 x25), (some 25, .int .u64 x26), (some 26, .pointer (some ⟨b10, 2, none⟩)), (none, undef)] [] [15] _
    refine node1 16 [] [15] [] (by kernel_rfl) rfl rfl (nd rfl) rfl (by kernel_rfl) ?_ ?_ ?_
    ·intro S wd hSd
     refine ⟨n0 rfl rfl rfl (ex_move (v := .int .i64 2) rfl) rfl hSd, n0 rfl rfl rfl (ex_field (o' := 0) rfl fi214_0 rfl) rfl hSd, n1 rfl rfl rfl rfl (fun hq1 => (ex_load (v := .func (.func 148) #[] #[]) (evS hq1 rfl rfl) (hSd.at 3 rfl) on198 rfl)) rfl hSd, n0 rfl rfl rfl (ex_move (v := .int .i64 2) rfl) rfl hSd, n1 rfl rfl rfl rfl (fun hq3 => (ex_index (j := 2) (o' := 2) rfl (evS hq3 rfl rfl) ar40 (by decide) (by decide) rfl)) rfl hSd, n1 rfl rfl rfl rfl (fun hq4 => (ex_load (v := .int .u64 (limb a 2)) (evS hq4 rfl rfl) (hSd.at 2 rfl) on39 rfl)) rfl hSd, n0 rfl rfl rfl (ex_move (v := .int .i64 2) rfl) rfl hSd, n1 rfl rfl rfl rfl (fun hq6 => (ex_index (j := 2) (o' := 2) rfl (evS hq6 rfl rfl) ar40 (by decide) (by decide) rfl)) rfl hSd, n1 rfl rfl rfl rfl (fun hq7 => (ex_load (v := .int .u64 (limb b 2)) (evS hq7 rfl rfl) (hSd.at 1 rfl) on39 rfl)) rfl hSd, n0 rfl rfl rfl (ex_move (v := .int .u64 x20) rfl) rfl hSd, ?_, n1 rfl rfl rfl rfl (fun hq10 => (ex_move (v := .tuple #[.int .u64 x25, .int .u64 x26]) (evS hq10 rfl rfl))) rfl hSd, n1 rfl rfl rfl rfl (fun hq11 => (ex_extract (v := .int .u64 x25) (evS hq11 rfl rfl) rfl)) rfl hSd, n1 rfl rfl rfl rfl (fun hq11 => (ex_extract (v := .int .u64 x26) (evS hq11 rfl rfl) rfl)) rfl hSd, ?_, sG rfl, tt⟩
     ·refine needG rfl ?_
      rintro ⟨hq2, hq5, hq8, hq9, _⟩ hno
      exact dx (wanted_none rfl) rfl (exq_add64 (x := (limb a 2)) (y := (limb b 2)) (c := x20) hx25 hx26 e_Add64 (evS hq2 rfl rfl) (args_of3 (evS hq5 rfl rfl) (evS hq8 rfl rfl) (evS hq9 rfl rfl)) (limb_nonneg _ _) (limb_nonneg _ _) hcx20) ⟨rfl, hSd⟩
     refine needG rfl ?_
     rintro ⟨hq0, hq0, hq1, hq2, hq3, hq4, hq5, hq6, hq7, hq8, hq9, hq10, hq11, hq12, _⟩ hno
     exact dx (wanted_none rfl) rfl (ex_index (j := 2) (o' := 2) rfl (evS hq0 rfl rfl) ar40 (by decide) (by decide) rfl) ⟨rfl, hSd⟩
    ·exact fun S wd hSd => ⟨True.intro, True.intro, True.intro, True.intro, True.intro, True.intro, True.intro, True.intro, True.intro, True.intro, True.intro, True.intro, True.intro, True.intro, True.intro, True.intro, True.intro⟩
    intro _ W29 hS30
    refine sqv (ex_assign (v := .int .u64 x26) rfl) ?_
    refine blk_normal ?_
    show C _ _ _ _ _ _
    refine C_region ?_
    refine sqv (ex_add (x := 2) (y := 1) (r := 3) rfl rfl (by rfl)) ?_
    refine sqv (ex_move (v := .int .i64 3) rfl) ?_
    show C _ _ _ _ _ _
    refine C_sr ?_
    refine sqv (ex_cmp (x := 3) (y := 4) (r := true) rfl rfl rfl) ?_
    show C _ _ _ _ _ _
    refine C_seq ?_
    refine C_true rfl ?_
    refine C_skip ?_
    show C _ _ _ _ _ _
    refine C_seq ?_
    refine C_block ?_
    refine C_sr ?_
    refine sqv (ex_move (v := .int .i64 3) rfl) ?_
    refine sqv (ex_assign (v := .int .i64 3) rfl) ?_
    show C _ _ _ _ _ _
    refine nm (addLo (limb a 3) (limb b 3) x26) fun x31 hx31 => ?_
    refine nm (addHi (limb a 3) (limb b 3) x26) fun x32 hx32 => ?_
    have hcx32 : 0 ≤ x32 ∧ x32 ≤ 1 := hx32 ▸ addHi_bd (limb_nonneg _ _) (limb_lt _ _) (limb_nonneg _ _) (limb_lt _ _) hcx26
    refine C_draw (p := 16) (l := [(some 13, .int .i64 3), (some 14, pt b1), (some 15, .func (.func 148) #[] #[]), (some 16, .int .i64 3), (some 17, .pointer (some ⟨b4, 3, none⟩)), (some 18, .int .u64 (limb a 3)), (some 19, .int .i64 3), (some 20, .pointer (some ⟨b7, 3, none⟩)), (some 21, .int .u64 (limb b 3)), (some 22, .int .u64 x26), (some 23, .tuple #[.int .u64 x31, .int .u64 x32]), (some 12, .tuple #[.int .u64 x31, .int .u64 x32]), (some 24, .int .u64 x31), (some 25, .int .u64 x32), (some 26, .pointer (some ⟨b10, 3, none⟩)), (none, undef)]) (G := [15]) (J := fun w => St [] w0 w [some (b10, .cells #[.int .u64 x13, .int .u64 x19, .int .u64 x25, .int .u64 0] 40), some (b7, .cells (elA b) 40), some (b4, .cells (elA a) 40), some (b1, .cells #[.func (.func 148) #[] #[]] 214)] []) mixed ?_ (hS30.draw _)
    refine node1 16 [15] [] [] (by kernel_rfl) rfl rfl (nd rfl) rfl (by kernel_rfl) ?_ ?_ ?_
    ·intro S wd hSd
     refine ⟨n0 rfl rfl rfl (ex_move (v := .int .i64 3) rfl) rfl hSd, n0 rfl rfl rfl (ex_field (o' := 0) rfl fi214_0 rfl) rfl hSd, n1 rfl rfl rfl rfl (fun hq1 => (ex_load (v := .func (.func 148) #[] #[]) (evS hq1 rfl rfl) (hSd.at 3 rfl) on198 rfl)) rfl hSd, n0 rfl rfl rfl (ex_move (v := .int .i64 3) rfl) rfl hSd, n1 rfl rfl rfl rfl (fun hq3 => (ex_index (j := 3) (o' := 3) rfl (evS hq3 rfl rfl) ar40 (by decide) (by decide) rfl)) rfl hSd, n1 rfl rfl rfl rfl (fun hq4 => (ex_load (v := .int .u64 (limb a 3)) (evS hq4 rfl rfl) (hSd.at 2 rfl) on39 rfl)) rfl hSd, n0 rfl rfl rfl (ex_move (v := .int .i64 3) rfl) rfl hSd, n1 rfl rfl rfl rfl (fun hq6 => (ex_index (j := 3) (o' := 3) rfl (evS hq6 rfl rfl) ar40 (by decide) (by decide) rfl)) rfl hSd, n1 rfl rfl rfl rfl (fun hq7 => (ex_load (v := .int .u64 (limb b 3)) (evS hq7 rfl rfl) (hSd.at 1 rfl) on39 rfl)) rfl hSd, n0 rfl rfl rfl (ex_move (v := .int .u64 x26) rfl) rfl hSd, ?_, n1 rfl rfl rfl rfl (fun hq10 => (ex_move (v := .tuple #[.int .u64 x31, .int .u64 x32]) (evS hq10 rfl rfl))) rfl hSd, n1 rfl rfl rfl rfl (fun hq11 => (ex_extract (v := .int .u64 x31) (evS hq11 rfl rfl) rfl)) rfl hSd, n1 rfl rfl rfl rfl (fun hq11 => (ex_extract (v := .int .u64 x32) (evS hq11 rfl rfl) rfl)) rfl hSd, ?_, sG rfl, tt⟩
     ·refine needG rfl ?_
      rintro ⟨hq2, hq5, hq8, hq9, _⟩ hno
      exact dx (wanted_none rfl) rfl (exq_add64 (x := (limb a 3)) (y := (limb b 3)) (c := x26) hx31 hx32 e_Add64 (evS hq2 rfl rfl) (args_of3 (evS hq5 rfl rfl) (evS hq8 rfl rfl) (evS hq9 rfl rfl)) (limb_nonneg _ _) (limb_nonneg _ _) hcx26) ⟨rfl, hSd⟩
     refine needG rfl ?_
     rintro ⟨hq0, hq0, hq1, hq2, hq3, hq4, hq5, hq6, hq7, hq8, hq9, hq10, hq11, hq12, _⟩ hno
     exact dx (wanted_none rfl) rfl (ex_index (j := 3) (o' := 3) rfl (evS hq0 rfl rfl) ar40 (by decide) (by decide) rfl) ⟨rfl, hSd⟩
    ·intro S wd hSd
     refine ⟨tt, tt, tt, tt, tt, tt, tt, tt, tt, tt, tt, tt, tt, tt, tt, ?_, tt⟩
     refine needH rfl ?_
     rintro ⟨hq14, hq12, hq10, hq0, hq1, hq2, hq3, hq4, hq5, hq6, hq7, hq8, hq9, hq10, hq11, hq12, _⟩ hno
     refine dxU (wanted_none rfl) rfl (st_store (v := .int .u64 x31) (cs' := #[.int .u64 x13, .int .u64 x19, .int .u64 x25, .int .u64 x31]) 0 hSd (evS hq14 rfl rfl) (evS hq12 rfl rfl) rfl on39 rfl (Nat.le_of_ble_eq_true rfl) rfl rfl) fun W33 hS34 => ?_
     refine ⟨fun w => St [] w0 w [some (b10, .cells #[.int .u64 x13, .int .u64 x19, .int .u64 x25, .int .u64 x31] 40), some (b7, .cells (elA b) 40), some (b4, .cells (elA a) 40), some (b1, .cells #[.func (.func 148) #[] #[]] 214)] [], [(some 13, .int .i64 3), (some 14, pt b1), (some 15, .func (.func 148) #[] #[]), (some 16, .int .i64 3), (some 17, .pointer (some ⟨b4, 3, none⟩)), (some 18, .int .u64 (limb a 3)), (some 19, .int .i64 3), (some 20, .pointer (some ⟨b7, 3, none⟩)), (some 21, .int .u64 (limb b 3)), (some 22, .int .u64 x26), (some 23, .tuple #[.int .u64 x31, .int .u64 x32]), (some 12, .tuple #[.int .u64 x31, .int .u64 x32]), (some 24, .int .u64 x31), (some 25, .int .u64 x32), (some 26, .pointer (some ⟨b10, 3, none⟩)), (none, undef)], [], hS34, by kernel_rfl, ⟨rfl, rfl, rfl, rfl, rfl, rfl, rfl, rfl, rfl, rfl, rfl, rfl, rfl, rfl, rfl, rfl, rfl, rfl, rfl, rfl, rfl, rfl, rfl, rfl, rfl, rfl, rfl, rfl, rfl, rfl, rfl, True.intro, True.intro⟩, rfl, ?_⟩
     show Sc.Node _ _ _ _ _ _ _ 16 [(some 13, .int .i64 3), (some 14, pt b1), (some 15, .func (.func 148) #[] #[]), (some 16, .int .i64 3), (some 17, .pointer (some ⟨b4, 3, none⟩)), (some 18, .int .u64 (limb a 3)), (some 19, .int .i64 3), (some 20, .pointer (some ⟨b7, 3, none⟩)), (some 21, .int .u64 (limb b 3)), (some 22, .int .u64 x26), (some 23, .tuple #[.int .u64 x31, .int .u64 x32]), (some 12, .tuple #[.int .u64 x31, .int .u64 x32]), (some 24, .int .u64 x31), (some 25, .int .u64 x32), (some 26, .pointer (some ⟨b10, 3, none⟩)), (none, undef)] [] [15] _
     refine node1 16 [] [15] [] (by kernel_rfl) rfl rfl (nd rfl) rfl (by kernel_rfl) ?_ ?_ ?_
     ·intro S wd hSd
      refine ⟨n0 rfl rfl rfl (ex_move (v := .int .i64 3) rfl) rfl hSd, n0 rfl rfl rfl (ex_field (o' := 0) rfl fi214_0 rfl) rfl hSd, n1 rfl rfl rfl rfl (fun hq1 => (ex_load (v := .func (.func 148) #[] #[]) (evS hq1 rfl rfl) (hSd.at 3 rfl) on198 rfl)) rfl hSd, n0 rfl rfl rfl (ex_move (v := .int .i64 3) rfl) rfl hSd, n1 rfl rfl rfl rfl (fun hq3 => (ex_index (j := 3) (o' := 3) rfl (evS hq3 rfl rfl) ar40 (by decide) (by decide) rfl)) rfl hSd, n1 rfl rfl rfl rfl (fun hq4 => (ex_load (v := .int .u64 (limb a 3)) (evS hq4 rfl rfl) (hSd.at 2 rfl) on39 rfl)) rfl hSd, n0 rfl rfl rfl (ex_move (v := .int .i64 3) rfl) rfl hSd, n1 rfl rfl rfl rfl (fun hq6 => (ex_index (j := 3) (o' := 3) rfl (evS hq6 rfl rfl) ar40 (by decide) (by decide) rfl)) rfl hSd, n1 rfl rfl rfl rfl (fun hq7 => (ex_load (v := .int .u64 (limb b 3)) (evS hq7 rfl rfl) (hSd.at 1 rfl) on39 rfl)) rfl hSd, n0 rfl rfl rfl (ex_move (v := .int .u64 x26) rfl) rfl hSd, ?_, n1 rfl rfl rfl rfl (fun hq10 => (ex_move (v := .tuple #[.int .u64 x31, .int .u64 x32]) (evS hq10 rfl rfl))) rfl hSd, n1 rfl rfl rfl rfl (fun hq11 => (ex_extract (v := .int .u64 x31) (evS hq11 rfl rfl) rfl)) rfl hSd, n1 rfl rfl rfl rfl (fun hq11 => (ex_extract (v := .int .u64 x32) (evS hq11 rfl rfl) rfl)) rfl hSd, ?_, sG rfl, tt⟩
      ·refine needG rfl ?_
       rintro ⟨hq2, hq5, hq8, hq9, _⟩ hno
       exact dx (wanted_none rfl) rfl (exq_add64 (x := (limb a 3)) (y := (limb b 3)) (c := x26) hx31 hx32 e_Add64 (evS hq2 rfl rfl) (args_of3 (evS hq5 rfl rfl) (evS hq8 rfl rfl) (evS hq9 rfl rfl)) (limb_nonneg _ _) (limb_nonneg _ _) hcx26) ⟨rfl, hSd⟩
      refine needG rfl ?_
      rintro ⟨hq0, hq0, hq1, hq2, hq3, hq4, hq5, hq6, hq7, hq8, hq9, hq10, hq11, hq12, _⟩ hno
      exact dx (wanted_none rfl) rfl (ex_index (j := 3) (o' := 3) rfl (evS hq0 rfl rfl) ar40 (by decide) (by decide) rfl) ⟨rfl, hSd⟩
     ·exact fun S wd hSd => ⟨True.intro, True.intro, True.intro, True.intro, True.intro, True.intro, True.intro, True.intro, True.intro, True.intro, True.intro, True.intro, True.intro, True.intro, True.intro, True.intro, True.intro⟩
     intro _ W35 hS36
     refine sqv (ex_assign (v := .int .u64 x32) rfl) ?_
     refine blk_normal ?_
     show C _ _ _ _ _ _
     refine C_region ?_
     refine sqv (ex_add (x := 3) (y := 1) (r := 4) rfl rfl (by rfl)) ?_
     refine sqv (ex_move (v := .int .i64 4) rfl) ?_
     show C _ _ _ _ _ _
     refine C_sr ?_
     refine sqv (ex_cmp (x := 4) (y := 4) (r := false) rfl rfl rfl) ?_
     show C _ _ _ _ _ _
     refine C_seq ?_
     refine C_false rfl ?_
     refine C_exit ?_
     refine thn_exit ?_
     refine thn_exit ?_
     refine blk_exit ?_
     show C _ _ _ _ _ _
     refine C_sr ?_
     refine sqv (ex_loads (vs := [.int .u64 x13, .int .u64 x19, .int .u64 x25, .int .u64 x31]) rfl (hS36.at 0 rfl) ag40 rfl rfl) ?_
     refine sqv (ex_move (v := .int .u64 x32) rfl) ?_
     refine sqUE (st_stores (v := .agg #[.int .u64 x13, .int .u64 x19, .int .u64 x25, .int .u64 x31]) (cs' := #[.int .u64 x13, .int .u64 x19, .int .u64 x25, .int .u64 x31]) 0 hS36 rfl rfl rfl ag40 rfl (Nat.le_of_ble_eq_true rfl) (ones_of rfl) rfl) fun W37 hS38 => ?_
     refine sqv (ex_assign (v := .int .u64 x32) rfl) ?_
     show C _ _ _ _ _ _
     refine C_ret ?_
     refine done_2 (v1 := .agg #[.int .u64 x13, .int .u64 x19, .int .u64 x25, .int .u64 x31]) (v2 := .int .u64 x32) rfl (res_row rfl (hS38.at 0 rfl) ag40 rfl) rfl ?_
     have hq := add_chain a b g0 g1 _ _ _ _ _ _ _ _ hx13 hx14 hx19 hx20 hx25 hx26 hx31 hx32
     exact ⟨by rw [hq.1, hq.2, addC_bI g0 g1], hS38.none⟩
    exact fun h => absurd h (by decide)
   exact fun h => absurd h (by decide)
  exact fun h => absurd h (by decide)
 exact fun h => absurd h (by decide)
theorem e_Sub64 : e64 Tryz.prog 173 "Sub64" := ⟨_, Tryz.func173, by kernel_rfl, by kernel_rfl, by kernel_rfl, _, by kernel_rfl, fun _ => rfl⟩
theorem c_applySub64 (a : Nat) (b : Nat) (w0 : World) (g0 : a < B256) (g1 : b < B256) : Calls Tryz.prog 169 #[.agg #[.func (.func 173) #[] #[]], elV a, elV b] w0 (Ret fun uu w' => uu = .tuple #[elV (subN a b), .int .u64 (bI (decide (a < b)))] ∧ St [] w0 w' [] []) := by
 refine calls_of Tryz.func169 rfl Tryz.ntmps169 (Nat.le_of_ble_eq_true rfl) ?_
 have hS0 := St.nil w0
 refine C_sr ?_
 refine sqE (st_box (v := .agg #[.func (.func 173) #[] #[]]) (cs := #[.func (.func 173) #[] #[]]) hS0 rfl rfl) fun b1 W2 hS3 => ?_
 refine sqE (st_box (v := elV a) (cs := (elA a)) hS3 rfl rfl) fun b4 W5 hS6 => ?_
 refine sqE (st_box (v := elV b) (cs := (elA b)) hS6 rfl rfl) fun b7 W8 hS9 => ?_
 refine sqE (st_alloc hS9 ze40) fun b10 W11 hS12 => ?_
 refine sqv (ex_assign (v := .int .u64 0) rfl) ?_
 show C _ _ _ _ _ _
 refine C_seq ?_
 refine C_sr ?_
 refine sqv (ex_move (v := .int .i64 0) rfl) ?_
 show C _ _ _ _ _ _
 refine C_block ?_
 refine C_unroll 5 ?_
 show C _ _ _ _ _ _
 refine C_sr ?_
 refine sqv (ex_cmp (x := 0) (y := 4) (r := true) rfl rfl rfl) ?_
 show C _ _ _ _ _ _
 refine C_seq ?_
 refine C_true rfl ?_
 refine C_skip ?_
 show C _ _ _ _ _ _
 refine C_seq ?_
 refine C_block ?_
 refine C_sr ?_
 refine sqv (ex_move (v := .int .i64 0) rfl) ?_
 refine sqv (ex_assign (v := .int .i64 0) rfl) ?_
 show C _ _ _ _ _ _
 refine nm (subLo (limb a 0) (limb b 0) 0) fun x13 hx13 => ?_
 refine nm (subHi (limb a 0) (limb b 0) 0) fun x14 hx14 => ?_
 have hcx14 : 0 ≤ x14 ∧ x14 ≤ 1 := hx14 ▸ subHi_bd (limb_nonneg _ _) (limb_lt _ _) (limb_nonneg _ _) (limb_lt _ _) (by decide)
 refine C_draw (p := 16) (l := [(some 13, .int .i64 0), (some 14, pt b1), (some 15, .func (.func 173) #[] #[]), (some 16, .int .i64 0), (some 17, pt b4), (some 18, .int .u64 (limb a 0)), (some 19, .int .i64 0), (some 20, pt b7), (some 21, .int .u64 (limb b 0)), (some 22, .int .u64 0), (some 23, .tuple #[.int .u64 x13, .int .u64 x14]), (some 12, .tuple #[.int .u64 x13, .int .u64 x14]), (some 24, .int .u64 x13), (some 25, .int .u64 x14), (some 26, pt b10), (none, undef)]) (G := [15]) (J := fun w => St [] w0 w [some (b10, .cells #[.int .u64 0, .int .u64 0, .int .u64 0, .int .u64 0] 40), some (b7, .cells (elA b) 40), some (b4, .cells (elA a) 40), some (b1, .cells #[.func (.func 173) #[] #[]] 214)] []) mixed ?_ (hS12.draw _)
 refine node1 16 [15] [] [] (by kernel_rfl) rfl rfl (nd rfl) rfl (by kernel_rfl) ?_ ?_ ?_
 ·intro S wd hSd
  refine ⟨n0 rfl rfl rfl (ex_move (v := .int .i64 0) rfl) rfl hSd, n0 rfl rfl rfl (ex_field (o' := 0) rfl fi214_0 rfl) rfl hSd, n1 rfl rfl rfl rfl (fun hq1 => (ex_load (v := .func (.func 173) #[] #[]) (evS hq1 rfl rfl) (hSd.at 3 rfl) on198 rfl)) rfl hSd, n0 rfl rfl rfl (ex_move (v := .int .i64 0) rfl) rfl hSd, n1 rfl rfl rfl rfl (fun hq3 => (ex_index (j := 0) (o' := 0) rfl (evS hq3 rfl rfl) ar40 (by decide) (by decide) rfl)) rfl hSd, n1 rfl rfl rfl rfl (fun hq4 => (ex_load (v := .int .u64 (limb a 0)) (evS hq4 rfl rfl) (hSd.at 2 rfl) on39 rfl)) rfl hSd, n0 rfl rfl rfl (ex_move (v := .int .i64 0) rfl) rfl hSd, n1 rfl rfl rfl rfl (fun hq6 => (ex_index (j := 0) (o' := 0) rfl (evS hq6 rfl rfl) ar40 (by decide) (by decide) rfl)) rfl hSd, n1 rfl rfl rfl rfl (fun hq7 => (ex_load (v := .int .u64 (limb b 0)) (evS hq7 rfl rfl) (hSd.at 1 rfl) on39 rfl)) rfl hSd, n0 rfl rfl rfl (ex_move (v := .int .u64 0) rfl) rfl hSd, ?_, n1 rfl rfl rfl rfl (fun hq10 => (ex_move (v := .tuple #[.int .u64 x13, .int .u64 x14]) (evS hq10 rfl rfl))) rfl hSd, n1 rfl rfl rfl rfl (fun hq11 => (ex_extract (v := .int .u64 x13) (evS hq11 rfl rfl) rfl)) rfl hSd, n1 rfl rfl rfl rfl (fun hq11 => (ex_extract (v := .int .u64 x14) (evS hq11 rfl rfl) rfl)) rfl hSd, ?_, sG rfl, tt⟩
  ·refine needG rfl ?_
   rintro ⟨hq2, hq5, hq8, hq9, _⟩ hno
   exact dx (wanted_none rfl) rfl (exq_sub64 (x := (limb a 0)) (y := (limb b 0)) (c := 0) hx13 hx14 e_Sub64 (evS hq2 rfl rfl) (args_of3 (evS hq5 rfl rfl) (evS hq8 rfl rfl) (evS hq9 rfl rfl)) (limb_nonneg _ _) ⟨limb_nonneg _ _, limb_lt _ _⟩ (by decide)) ⟨rfl, hSd⟩
  refine needG rfl ?_
  rintro ⟨hq0, hq0, hq1, hq2, hq3, hq4, hq5, hq6, hq7, hq8, hq9, hq10, hq11, hq12, _⟩ hno
  exact dx (wanted_none rfl) rfl (ex_index (j := 0) (o' := 0) rfl (evS hq0 rfl rfl) ar40 (by decide) (by decide) rfl) ⟨rfl, hSd⟩
 ·intro S wd hSd
  refine ⟨tt, tt, tt, tt, tt, tt, tt, tt, tt, tt, tt, tt, tt, tt, tt, ?_, tt⟩
  refine needH rfl ?_
  rintro ⟨hq14, hq12, hq10, hq0, hq1, hq2, hq3, hq4, hq5, hq6, hq7, hq8, hq9, hq10, hq11, hq12, _⟩ hno
  refine dxU (wanted_none rfl) rfl (st_store (v := .int .u64 x13) (cs' := #[.int .u64 x13, .int .u64 0, .int .u64 0, .int .u64 0]) 0 hSd (evS hq14 rfl rfl) (evS hq12 rfl rfl) rfl on39 rfl (Nat.le_of_ble_eq_true rfl) rfl rfl) fun W15 hS16 => ?_
  refine ⟨fun w => St [] w0 w [some (b10, .cells #[.int .u64 x13, .int .u64 0, .int .u64 0, .int .u64 0] 40), some (b7, .cells (elA b) 40), some (b4, .cells (elA a) 40), some (b1, .cells #[.func (.func 173) #[] #[]] 214)] [], [(some 13, .int .i64 0), (some 14, pt b1), (some 15, .func (.func 173) #[] #[]), (some 16, .int .i64 0), (some 17, pt b4), (some 18, .int .u64 (limb a 0)), (some 19, .int .i64 0), (some 20, pt b7), (some 21, .int .u64 (limb b 0)), (some 22, .int .u64 0), (some 23, .tuple #[.int .u64 x13, .int .u64 x14]), (some 12, .tuple #[.int .u64 x13, .int .u64 x14]), (some 24, .int .u64 x13), (some 25, .int .u64 x14), (some 26, pt b10), (none, undef)], [], hS16, by kernel_rfl, ⟨rfl, rfl, rfl, rfl, rfl, rfl, rfl, rfl, rfl, rfl, rfl, rfl, rfl, rfl, rfl, rfl, rfl, rfl, rfl, rfl, rfl, rfl, rfl, rfl, rfl, rfl, rfl, rfl, rfl, rfl, rfl, True.intro, True.intro⟩, rfl, ?_⟩
  show Sc.Node _ _ _ _ _ _ _ 16 [(some 13, .int .i64 0), (some 14, pt b1), (some 15, .func (.func 173) #[] #[]), (some 16, .int .i64 0), (some 17, pt b4), (some 18, .int .u64 (limb a 0)), (some 19, .int .i64 0), (some 20, pt b7), (some 21, .int .u64 (limb b 0)), (some 22, .int .u64 0), (some 23, .tuple #[.int .u64 x13, .int .u64 x14]), (some 12, .tuple #[.int .u64 x13, .int .u64 x14]), (some 24, .int .u64 x13), (some 25, .int .u64 x14), (some 26, pt b10), (none, undef)] [] [15] _
  refine node1 16 [] [15] [] (by kernel_rfl) rfl rfl (nd rfl) rfl (by kernel_rfl) ?_ ?_ ?_
  ·intro S wd hSd
   refine ⟨n0 rfl rfl rfl (ex_move (v := .int .i64 0) rfl) rfl hSd, n0 rfl rfl rfl (ex_field (o' := 0) rfl fi214_0 rfl) rfl hSd, n1 rfl rfl rfl rfl (fun hq1 => (ex_load (v := .func (.func 173) #[] #[]) (evS hq1 rfl rfl) (hSd.at 3 rfl) on198 rfl)) rfl hSd, n0 rfl rfl rfl (ex_move (v := .int .i64 0) rfl) rfl hSd, n1 rfl rfl rfl rfl (fun hq3 => (ex_index (j := 0) (o' := 0) rfl (evS hq3 rfl rfl) ar40 (by decide) (by decide) rfl)) rfl hSd, n1 rfl rfl rfl rfl (fun hq4 => (ex_load (v := .int .u64 (limb a 0)) (evS hq4 rfl rfl) (hSd.at 2 rfl) on39 rfl)) rfl hSd, n0 rfl rfl rfl (ex_move (v := .int .i64 0) rfl) rfl hSd, n1 rfl rfl rfl rfl (fun hq6 => (ex_index (j := 0) (o' := 0) rfl (evS hq6 rfl rfl) ar40 (by decide) (by decide) rfl)) rfl hSd, n1 rfl rfl rfl rfl (fun hq7 => (ex_load (v := .int .u64 (limb b 0)) (evS hq7 rfl rfl) (hSd.at 1 rfl) on39 rfl)) rfl hSd, n0 rfl rfl rfl (ex_move (v := .int .u64 0) rfl) rfl hSd, ?_, n1 rfl rfl rfl rfl (fun hq10 => (ex_move (v := .tuple #[.int .u64 x13, .int .u64 x14]) (evS hq10 rfl rfl))) rfl hSd, n1 rfl rfl rfl rfl (fun hq11 => (ex_extract (v := .int .u64 x13) (evS hq11 rfl rfl) rfl)) rfl hSd, n1 rfl rfl rfl rfl (fun hq11 => (ex_extract (v := .int .u64 x14) (evS hq11 rfl rfl) rfl)) rfl hSd, ?_, sG rfl, tt⟩
   ·refine needG rfl ?_
    rintro ⟨hq2, hq5, hq8, hq9, _⟩ hno
    exact dx (wanted_none rfl) rfl (exq_sub64 (x := (limb a 0)) (y := (limb b 0)) (c := 0) hx13 hx14 e_Sub64 (evS hq2 rfl rfl) (args_of3 (evS hq5 rfl rfl) (evS hq8 rfl rfl) (evS hq9 rfl rfl)) (limb_nonneg _ _) ⟨limb_nonneg _ _, limb_lt _ _⟩ (by decide)) ⟨rfl, hSd⟩
   refine needG rfl ?_
   rintro ⟨hq0, hq0, hq1, hq2, hq3, hq4, hq5, hq6, hq7, hq8, hq9, hq10, hq11, hq12, _⟩ hno
   exact dx (wanted_none rfl) rfl (ex_index (j := 0) (o' := 0) rfl (evS hq0 rfl rfl) ar40 (by decide) (by decide) rfl) ⟨rfl, hSd⟩
  ·exact fun S wd hSd => ⟨True.intro, True.intro, True.intro, True.intro, True.intro, True.intro, True.intro, True.intro, True.intro, True.intro, True.intro, True.intro, True.intro, True.intro, True.intro, True.intro, True.intro⟩
  intro _ W17 hS18
  refine sqv (ex_assign (v := .int .u64 x14) rfl) ?_
  refine blk_normal ?_
  show C _ _ _ _ _ _
  refine C_region ?_
  refine sqv (ex_add (x := 0) (y := 1) (r := 1) rfl rfl (by rfl)) ?_
  refine sqv (ex_move (v := .int .i64 1) rfl) ?_
  show C _ _ _ _ _ _
  refine C_sr ?_
  refine sqv (ex_cmp (x := 1) (y := 4) (r := true) rfl rfl rfl) ?_
  show C _ _ _ _ _ _
  refine C_seq ?_
  refine C_true rfl ?_
  refine C_skip ?_
  show C _ _ _ _ _ _
  refine C_seq ?_
  refine C_block ?_
  refine C_sr ?_
  refine sqv (ex_move (v := .int .i64 1) rfl) ?_
  refine sqv (ex_assign (v := .int .i64 1) rfl) ?_
  show C _ _ _ _ _ _
  refine nm (subLo (limb a 1) (limb b 1) x14) fun x19 hx19 => ?_
  refine nm (subHi (limb a 1) (limb b 1) x14) fun x20 hx20 => ?_
  have hcx20 : 0 ≤ x20 ∧ x20 ≤ 1 := hx20 ▸ subHi_bd (limb_nonneg _ _) (limb_lt _ _) (limb_nonneg _ _) (limb_lt _ _) hcx14
  refine C_draw (p := 16) (l := [(some 13, .int .i64 1), (some 14, pt b1), (some 15, .func (.func 173) #[] #[]), (some 16, .int .i64 1), (some 17, .pointer (some ⟨b4, 1, none⟩)), (some 18, .int .u64 (limb a 1)), (some 19, .int .i64 1), (some 20, .pointer (some ⟨b7, 1, none⟩)), (some 21, .int .u64 (limb b 1)), (some 22, .int .u64 x14), (some 23, .tuple #[.int .u64 x19, .int .u64 x20]), (some 12, .tuple #[.int .u64 x19, .int .u64 x20]), (some 24, .int .u64 x19), (some 25, .int .u64 x20), (some 26, .pointer (some ⟨b10, 1, none⟩)), (none, undef)]) (G := [15]) (J := fun w => St [] w0 w [some (b10, .cells #[.int .u64 x13, .int .u64 0, .int .u64 0, .int .u64 0] 40), some (b7, .cells (elA b) 40), some (b4, .cells (elA a) 40), some (b1, .cells #[.func (.func 173) #[] #[]] 214)] []) mixed ?_ (hS18.draw _)
  refine node1 16 [15] [] [] (by kernel_rfl) rfl rfl (nd rfl) rfl (by kernel_rfl) ?_ ?_ ?_
  ·intro S wd hSd
   refine ⟨n0 rfl rfl rfl (ex_move (v := .int .i64 1) rfl) rfl hSd, n0 rfl rfl rfl (ex_field (o' := 0) rfl fi214_0 rfl) rfl hSd, n1 rfl rfl rfl rfl (fun hq1 => (ex_load (v := .func (.func 173) #[] #[]) (evS hq1 rfl rfl) (hSd.at 3 rfl) on198 rfl)) rfl hSd, n0 rfl rfl rfl (ex_move (v := .int .i64 1) rfl) rfl hSd, n1 rfl rfl rfl rfl (fun hq3 => (ex_index (j := 1) (o' := 1) rfl (evS hq3 rfl rfl) ar40 (by decide) (by decide) rfl)) rfl hSd, n1 rfl rfl rfl rfl (fun hq4 => (ex_load (v := .int .u64 (limb a 1)) (evS hq4 rfl rfl) (hSd.at 2 rfl) on39 rfl)) rfl hSd, n0 rfl rfl rfl (ex_move (v := .int .i64 1) rfl) rfl hSd, n1 rfl rfl rfl rfl (fun hq6 => (ex_index (j := 1) (o' := 1) rfl (evS hq6 rfl rfl) ar40 (by decide) (by decide) rfl)) rfl hSd, n1 rfl rfl rfl rfl (fun hq7 => (ex_load (v := .int .u64 (limb b 1)) (evS hq7 rfl rfl) (hSd.at 1 rfl) on39 rfl)) rfl hSd, n0 rfl rfl rfl (ex_move (v := .int .u64 x14) rfl) rfl hSd, ?_, n1 rfl rfl rfl rfl (fun hq10 => (ex_move (v := .tuple #[.int .u64 x19, .int .u64 x20]) (evS hq10 rfl rfl))) rfl hSd, n1 rfl rfl rfl rfl (fun hq11 => (ex_extract (v := .int .u64 x19) (evS hq11 rfl rfl) rfl)) rfl hSd, n1 rfl rfl rfl rfl (fun hq11 => (ex_extract (v := .int .u64 x20) (evS hq11 rfl rfl) rfl)) rfl hSd, ?_, sG rfl, tt⟩
   ·refine needG rfl ?_
    rintro ⟨hq2, hq5, hq8, hq9, _⟩ hno
    exact dx (wanted_none rfl) rfl (exq_sub64 (x := (limb a 1)) (y := (limb b 1)) (c := x14) hx19 hx20 e_Sub64 (evS hq2 rfl rfl) (args_of3 (evS hq5 rfl rfl) (evS hq8 rfl rfl) (evS hq9 rfl rfl)) (limb_nonneg _ _) ⟨limb_nonneg _ _, limb_lt _ _⟩ hcx14) ⟨rfl, hSd⟩
   refine needG rfl ?_
   rintro ⟨hq0, hq0, hq1, hq2, hq3, hq4, hq5, hq6, hq7, hq8, hq9, hq10, hq11, hq12, _⟩ hno
   exact dx (wanted_none rfl) rfl (ex_index (j := 1) (o' := 1) rfl (evS hq0 rfl rfl) ar40 (by decide) (by decide) rfl) ⟨rfl, hSd⟩
  ·intro S wd hSd
   refine ⟨tt, tt, tt, tt, tt, tt, tt, tt, tt, tt, tt, tt, tt, tt, tt, ?_, tt⟩
   refine needH rfl ?_
   rintro ⟨hq14, hq12, hq10, hq0, hq1, hq2, hq3, hq4, hq5, hq6, hq7, hq8, hq9, hq10, hq11, hq12, _⟩ hno
   refine dxU (wanted_none rfl) rfl (st_store (v := .int .u64 x19) (cs' := #[.int .u64 x13, .int .u64 x19, .int .u64 0, .int .u64 0]) 0 hSd (evS hq14 rfl rfl) (evS hq12 rfl rfl) rfl on39 rfl (Nat.le_of_ble_eq_true rfl) rfl rfl) fun W21 hS22 => ?_
   refine ⟨fun w => St [] w0 w [some (b10, .cells #[.int .u64 x13, .int .u64 x19, .int .u64 0, .int .u64 0] 40), some (b7, .cells (elA b) 40), some (b4, .cells (elA a) 40), some (b1, .cells #[.func (.func 173) #[] #[]] 214)] [], [(some 13, .int .i64 1), (some 14, pt b1), (some 15, .func (.func 173) #[] #[]), (some 16, .int .i64 1), (some 17, .pointer (some ⟨b4, 1, none⟩)), (some 18, .int .u64 (limb a 1)), (some 19, .int .i64 1), (some 20, .pointer (some ⟨b7, 1, none⟩)), (some 21, .int .u64 (limb b 1)), (some 22, .int .u64 x14), (some 23, .tuple #[.int .u64 x19, .int .u64 x20]), (some 12, .tuple #[.int .u64 x19, .int .u64 x20]), (some 24, .int .u64 x19), (some 25, .int .u64 x20), (some 26, .pointer (some ⟨b10, 1, none⟩)), (none, undef)], [], hS22, by kernel_rfl, ⟨rfl, rfl, rfl, rfl, rfl, rfl, rfl, rfl, rfl, rfl, rfl, rfl, rfl, rfl, rfl, rfl, rfl, rfl, rfl, rfl, rfl, rfl, rfl, rfl, rfl, rfl, rfl, rfl, rfl, rfl, rfl, True.intro, True.intro⟩, rfl, ?_⟩
   show Sc.Node _ _ _ _ _ _ _ 16 [(some 13, .int .i64 1), (some 14, pt b1), (some 15, .func (.func 173) #[] #[]), (some 16, .int .i64 1), (some 17, .pointer (some ⟨b4, 1, none⟩)), (some 18, .int .u64 (limb a 1)), (some 19, .int .i64 1), (some 20, .pointer (some ⟨b7, 1, none⟩)), (some 21, .int .u64 (limb b 1)), (some 22, .int .u64 x14), (some 23, .tuple #[.int .u64 x19, .int .u64 x20]), (some 12, .tuple #[.int .u64 x19, .int .u64 x20]), (some 24, .int .u64 x19), (some 25, .int .u64 x20), (some 26, .pointer (some ⟨b10, 1, none⟩)), (none, undef)] [] [15] _
   refine node1 16 [] [15] [] (by kernel_rfl) rfl rfl (nd rfl) rfl (by kernel_rfl) ?_ ?_ ?_
   ·intro S wd hSd
    refine ⟨n0 rfl rfl rfl (ex_move (v := .int .i64 1) rfl) rfl hSd, n0 rfl rfl rfl (ex_field (o' := 0) rfl fi214_0 rfl) rfl hSd, n1 rfl rfl rfl rfl (fun hq1 => (ex_load (v := .func (.func 173) #[] #[]) (evS hq1 rfl rfl) (hSd.at 3 rfl) on198 rfl)) rfl hSd, n0 rfl rfl rfl (ex_move (v := .int .i64 1) rfl) rfl hSd, n1 rfl rfl rfl rfl (fun hq3 => (ex_index (j := 1) (o' := 1) rfl (evS hq3 rfl rfl) ar40 (by decide) (by decide) rfl)) rfl hSd, n1 rfl rfl rfl rfl (fun hq4 => (ex_load (v := .int .u64 (limb a 1)) (evS hq4 rfl rfl) (hSd.at 2 rfl) on39 rfl)) rfl hSd, n0 rfl rfl rfl (ex_move (v := .int .i64 1) rfl) rfl hSd, n1 rfl rfl rfl rfl (fun hq6 => (ex_index (j := 1) (o' := 1) rfl (evS hq6 rfl rfl) ar40 (by decide) (by decide) rfl)) rfl hSd, n1 rfl rfl rfl rfl (fun hq7 => (ex_load (v := .int .u64 (limb b 1)) (evS hq7 rfl rfl) (hSd.at 1 rfl) on39 rfl)) rfl hSd, n0 rfl rfl rfl (ex_move (v := .int .u64 x14) rfl) rfl hSd, ?_, n1 rfl rfl rfl rfl (fun hq10 => (ex_move (v := .tuple #[.int .u64 x19, .int .u64 x20]) (evS hq10 rfl rfl))) rfl hSd, n1 rfl rfl rfl rfl (fun hq11 => (ex_extract (v := .int .u64 x19) (evS hq11 rfl rfl) rfl)) rfl hSd, n1 rfl rfl rfl rfl (fun hq11 => (ex_extract (v := .int .u64 x20) (evS hq11 rfl rfl) rfl)) rfl hSd, ?_, sG rfl, tt⟩
    ·refine needG rfl ?_
     rintro ⟨hq2, hq5, hq8, hq9, _⟩ hno
     exact dx (wanted_none rfl) rfl (exq_sub64 (x := (limb a 1)) (y := (limb b 1)) (c := x14) hx19 hx20 e_Sub64 (evS hq2 rfl rfl) (args_of3 (evS hq5 rfl rfl) (evS hq8 rfl rfl) (evS hq9 rfl rfl)) (limb_nonneg _ _) ⟨limb_nonneg _ _, limb_lt _ _⟩ hcx14) ⟨rfl, hSd⟩
    refine needG rfl ?_
    rintro ⟨hq0, hq0, hq1, hq2, hq3, hq4, hq5, hq6, hq7, hq8, hq9, hq10, hq11, hq12, _⟩ hno
    exact dx (wanted_none rfl) rfl (ex_index (j := 1) (o' := 1) rfl (evS hq0 rfl rfl) ar40 (by decide) (by decide) rfl) ⟨rfl, hSd⟩
   ·exact fun S wd hSd => ⟨True.intro, True.intro, True.intro, True.intro, True.intro, True.intro, True.intro, True.intro, True.intro, True.intro, True.intro, True.intro, True.intro, True.intro, True.intro, True.intro, True.intro⟩
   intro _ W23 hS24
   refine sqv (ex_assign (v := .int .u64 x20) rfl) ?_
   refine blk_normal ?_
   show C _ _ _ _ _ _
   refine C_region ?_
   refine sqv (ex_add (x := 1) (y := 1) (r := 2) rfl rfl (by rfl)) ?_
   refine sqv (ex_move (v := .int .i64 2) rfl) ?_
   show C _ _ _ _ _ _
   refine C_sr ?_
   refine sqv (ex_cmp (x := 2) (y := 4) (r := true) rfl rfl rfl) ?_
   show C _ _ _ _ _ _
   refine C_seq ?_
   refine C_true rfl ?_
   refine C_skip ?_
   show C _ _ _ _ _ _
   refine C_seq ?_
   refine C_block ?_
   refine C_sr ?_
   refine sqv (ex_move (v := .int .i64 2) rfl) ?_
   refine sqv (ex_assign (v := .int .i64 2) rfl) ?_
   show C _ _ _ _ _ _
   refine nm (subLo (limb a 2) (limb b 2) x20) fun x25 hx25 => ?_
   refine nm (subHi (limb a 2) (limb b 2) x20) fun x26 hx26 => ?_
   have hcx26 : 0 ≤ x26 ∧ x26 ≤ 1 := hx26 ▸ subHi_bd (limb_nonneg _ _) (limb_lt _ _) (limb_nonneg _ _) (limb_lt _ _) hcx20
   refine C_draw (p := 16) (l := [(some 13, .int .i64 2), (some 14, pt b1), (some 15, .func (.func 173) #[] #[]), (some 16, .int .i64 2), (some 17, .pointer (some ⟨b4, 2, none⟩)), (some 18, .int .u64 (limb a 2)), (some 19, .int .i64 2), (some 20, .pointer (some ⟨b7, 2, none⟩)), (some 21, .int .u64 (limb b 2)), (some 22, .int .u64 x20), (some 23, .tuple #[.int .u64 x25, .int .u64 x26]), (some 12, .tuple #[.int .u64 x25, .int .u64 x26]), (some 24, .int .u64 x25), (some 25, .int .u64 x26), (some 26, .pointer (some ⟨b10, 2, none⟩)), (none, undef)]) (G := [15]) (J := fun w => St [] w0 w [some (b10, .cells #[.int .u64 x13, .int .u64 x19, .int .u64 0, .int .u64 0] 40), some (b7, .cells (elA b) 40), some (b4, .cells (elA a) 40), some (b1, .cells #[.func (.func 173) #[] #[]] 214)] []) mixed ?_ (hS24.draw _)
   refine node1 16 [15] [] [] (by kernel_rfl) rfl rfl (nd rfl) rfl (by kernel_rfl) ?_ ?_ ?_
   ·intro S wd hSd
    refine ⟨n0 rfl rfl rfl (ex_move (v := .int .i64 2) rfl) rfl hSd, n0 rfl rfl rfl (ex_field (o' := 0) rfl fi214_0 rfl) rfl hSd, n1 rfl rfl rfl rfl (fun hq1 => (ex_load (v := .func (.func 173) #[] #[]) (evS hq1 rfl rfl) (hSd.at 3 rfl) on198 rfl)) rfl hSd, n0 rfl rfl rfl (ex_move (v := .int .i64 2) rfl) rfl hSd, n1 rfl rfl rfl rfl (fun hq3 => (ex_index (j := 2) (o' := 2) rfl (evS hq3 rfl rfl) ar40 (by decide) (by decide) rfl)) rfl hSd, n1 rfl rfl rfl rfl (fun hq4 => (ex_load (v := .int .u64 (limb a 2)) (evS hq4 rfl rfl) (hSd.at 2 rfl) on39 rfl)) rfl hSd, n0 rfl rfl rfl (ex_move (v := .int .i64 2) rfl) rfl hSd, n1 rfl rfl rfl rfl (fun hq6 => (ex_index (j := 2) (o' := 2) rfl (evS hq6 rfl rfl) ar40 (by decide) (by decide) rfl)) rfl hSd, n1 rfl rfl rfl rfl (fun hq7 => (ex_load (v := .int .u64 (limb b 2)) (evS hq7 rfl rfl) (hSd.at 1 rfl) on39 rfl)) rfl hSd, n0 rfl rfl rfl (ex_move (v := .int .u64 x20) rfl) rfl hSd, ?_, n1 rfl rfl rfl rfl (fun hq10 => (ex_move (v := .tuple #[.int .u64 x25, .int .u64 x26]) (evS hq10 rfl rfl))) rfl hSd, n1 rfl rfl rfl rfl (fun hq11 => (ex_extract (v := .int .u64 x25) (evS hq11 rfl rfl) rfl)) rfl hSd, n1 rfl rfl rfl rfl (fun hq11 => (ex_extract (v := .int .u64 x26) (evS hq11 rfl rfl) rfl)) rfl hSd, ?_, sG rfl, tt⟩
    ·refine needG rfl ?_
     rintro ⟨hq2, hq5, hq8, hq9, _⟩ hno
     exact dx (wanted_none rfl) rfl (exq_sub64 (x := (limb a 2)) (y := (limb b 2)) (c := x20) hx25 hx26 e_Sub64 (evS hq2 rfl rfl) (args_of3 (evS hq5 rfl rfl) (evS hq8 rfl rfl) (evS hq9 rfl rfl)) (limb_nonneg _ _) ⟨limb_nonneg _ _, limb_lt _ _⟩ hcx20) ⟨rfl, hSd⟩
    refine needG rfl ?_
    rintro ⟨hq0, hq0, hq1, hq2, hq3, hq4, hq5, hq6, hq7, hq8, hq9, hq10, hq11, hq12, _⟩ hno
    exact dx (wanted_none rfl) rfl (ex_index (j := 2) (o' := 2) rfl (evS hq0 rfl rfl) ar40 (by decide) (by decide) rfl) ⟨rfl, hSd⟩
   ·intro S wd hSd
    refine ⟨tt, tt, tt, tt, tt, tt, tt, tt, tt, tt, tt, tt, tt, tt, tt, ?_, tt⟩
    refine needH rfl ?_
    rintro ⟨hq14, hq12, hq10, hq0, hq1, hq2, hq3, hq4, hq5, hq6, hq7, hq8, hq9, hq10, hq11, hq12, _⟩ hno
    refine dxU (wanted_none rfl) rfl (st_store (v := .int .u64 x25) (cs' := #[.int .u64 x13, .int .u64 x19, .int .u64 x25, .int .u64 0]) 0 hSd (evS hq14 rfl rfl) (evS hq12 rfl rfl) rfl on39 rfl (Nat.le_of_ble_eq_true rfl) rfl rfl) fun W27 hS28 => ?_
    refine ⟨fun w => St [] w0 w [some (b10, .cells #[.int .u64 x13, .int .u64 x19, .int .u64 x25, .int .u64 0] 40), some (b7, .cells (elA b) 40), some (b4, .cells (elA a) 40), some (b1, .cells #[.func (.func 173) #[] #[]] 214)] [], [(some 13, .int .i64 2), (some 14, pt b1), (some 15, .func (.func 173) #[] #[]), (some 16, .int .i64 2), (some 17, .pointer (some ⟨b4, 2, none⟩)), (some 18, .int .u64 (limb a 2)), (some 19, .int .i64 2), (some 20, .pointer (some ⟨b7, 2, none⟩)), (some 21, .int .u64 (limb b 2)), (some 22, .int .u64 x20), (some 23, .tuple #[.int .u64 x25, .int .u64 x26]), (some 12, .tuple #[.int .u64 x25, .int .u64 x26]), (some 24, .int .u64 x25), (some 25, .int .u64 x26), (some 26, .pointer (some ⟨b10, 2, none⟩)), (none, undef)], [], hS28, by kernel_rfl, ⟨rfl, rfl, rfl, rfl, rfl, rfl, rfl, rfl, rfl, rfl, rfl, rfl, rfl, rfl, rfl, rfl, rfl, rfl, rfl, rfl, rfl, rfl, rfl, rfl, rfl, rfl, rfl, rfl, rfl, rfl, rfl, True.intro, True.intro⟩, rfl, ?_⟩
    show Sc.Node _ _ _ _ _ _ _ 16 [(some 13, .int .i64 2), (some 14, pt b1), (some 15, .func (.func 173) #[] #[]), (some 16, .int .i64 2), (some 17, .pointer (some ⟨b4, 2, none⟩)), (some 18, .int .u64 (limb a 2)), (some 19, .int .i64 2), (some 20, .pointer (some ⟨b7, 2, none⟩)), (some 21, .int .u64 (limb b 2)), (some 22, .int .u64 x20), (some 23, .tuple #[.int .u64 x25, .int .u64 x26]), (some 12, .tuple #[.int .u64 x25, .int .u64 x26]), (some 24, .int .u64 x25), (some 25, .int .u64 x26), (some 26, .pointer (some ⟨b10, 2, none⟩)), (none, undef)] [] [15] _
    refine node1 16 [] [15] [] (by kernel_rfl) rfl rfl (nd rfl) rfl (by kernel_rfl) ?_ ?_ ?_
    ·intro S wd hSd
     refine ⟨n0 rfl rfl rfl (ex_move (v := .int .i64 2) rfl) rfl hSd, n0 rfl rfl rfl (ex_field (o' := 0) rfl fi214_0 rfl) rfl hSd, n1 rfl rfl rfl rfl (fun hq1 => (ex_load (v := .func (.func 173) #[] #[]) (evS hq1 rfl rfl) (hSd.at 3 rfl) on198 rfl)) rfl hSd, n0 rfl rfl rfl (ex_move (v := .int .i64 2) rfl) rfl hSd, n1 rfl rfl rfl rfl (fun hq3 => (ex_index (j := 2) (o' := 2) rfl (evS hq3 rfl rfl) ar40 (by decide) (by decide) rfl)) rfl hSd, n1 rfl rfl rfl rfl (fun hq4 => (ex_load (v := .int .u64 (limb a 2)) (evS hq4 rfl rfl) (hSd.at 2 rfl) on39 rfl)) rfl hSd, n0 rfl rfl rfl (ex_move (v := .int .i64 2) rfl) rfl hSd, n1 rfl rfl rfl rfl (fun hq6 => (ex_index (j := 2) (o' := 2) rfl (evS hq6 rfl rfl) ar40 (by decide) (by decide) rfl)) rfl hSd, n1 rfl rfl rfl rfl (fun hq7 => (ex_load (v := .int .u64 (limb b 2)) (evS hq7 rfl rfl) (hSd.at 1 rfl) on39 rfl)) rfl hSd, n0 rfl rfl rfl (ex_move (v := .int .u64 x20) rfl) rfl hSd, ?_, n1 rfl rfl rfl rfl (fun hq10 => (ex_move (v := .tuple #[.int .u64 x25, .int .u64 x26]) (evS hq10 rfl rfl))) rfl hSd, n1 rfl rfl rfl rfl (fun hq11 => (ex_extract (v := .int .u64 x25) (evS hq11 rfl rfl) rfl)) rfl hSd, n1 rfl rfl rfl rfl (fun hq11 => (ex_extract (v := .int .u64 x26) (evS hq11 rfl rfl) rfl)) rfl hSd, ?_, sG rfl, tt⟩
     ·refine needG rfl ?_
      rintro ⟨hq2, hq5, hq8, hq9, _⟩ hno
      exact dx (wanted_none rfl) rfl (exq_sub64 (x := (limb a 2)) (y := (limb b 2)) (c := x20) hx25 hx26 e_Sub64 (evS hq2 rfl rfl) (args_of3 (evS hq5 rfl rfl) (evS hq8 rfl rfl) (evS hq9 rfl rfl)) (limb_nonneg _ _) ⟨limb_nonneg _ _, limb_lt _ _⟩ hcx20) ⟨rfl, hSd⟩
     refine needG rfl ?_
     rintro ⟨hq0, hq0, hq1, hq2, hq3, hq4, hq5, hq6, hq7, hq8, hq9, hq10, hq11, hq12, _⟩ hno
     exact dx (wanted_none rfl) rfl (ex_index (j := 2) (o' := 2) rfl (evS hq0 rfl rfl) ar40 (by decide) (by decide) rfl) ⟨rfl, hSd⟩
    ·exact fun S wd hSd => ⟨True.intro, True.intro, True.intro, True.intro, True.intro, True.intro, True.intro, True.intro, True.intro, True.intro, True.intro, True.intro, True.intro, True.intro, True.intro, True.intro, True.intro⟩
    intro _ W29 hS30
    refine sqv (ex_assign (v := .int .u64 x26) rfl) ?_
    refine blk_normal ?_
    show C _ _ _ _ _ _
    refine C_region ?_
    refine sqv (ex_add (x := 2) (y := 1) (r := 3) rfl rfl (by rfl)) ?_
    refine sqv (ex_move (v := .int .i64 3) rfl) ?_
    show C _ _ _ _ _ _
    refine C_sr ?_
    refine sqv (ex_cmp (x := 3) (y := 4) (r := true) rfl rfl rfl) ?_
    show C _ _ _ _ _ _
    refine C_seq ?_
    refine C_true rfl ?_
    refine C_skip ?_
    show C _ _ _ _ _ _
    refine C_seq ?_
    refine C_block ?_
    refine C_sr ?_
    refine sqv (ex_move (v := .int .i64 3) rfl) ?_
    refine sqv (ex_assign (v := .int .i64 3) rfl) ?_
    show C _ _ _ _ _ _
    refine nm (subLo (limb a 3) (limb b 3) x26) fun x31 hx31 => ?_
    refine nm (subHi (limb a 3) (limb b 3) x26) fun x32 hx32 => ?_
    have hcx32 : 0 ≤ x32 ∧ x32 ≤ 1 := hx32 ▸ subHi_bd (limb_nonneg _ _) (limb_lt _ _) (limb_nonneg _ _) (limb_lt _ _) hcx26
    refine C_draw (p := 16) (l := [(some 13, .int .i64 3), (some 14, pt b1), (some 15, .func (.func 173) #[] #[]), (some 16, .int .i64 3), (some 17, .pointer (some ⟨b4, 3, none⟩)), (some 18, .int .u64 (limb a 3)), (some 19, .int .i64 3), (some 20, .pointer (some ⟨b7, 3, none⟩)), (some 21, .int .u64 (limb b 3)), (some 22, .int .u64 x26), (some 23, .tuple #[.int .u64 x31, .int .u64 x32]), (some 12, .tuple #[.int .u64 x31, .int .u64 x32]), (some 24, .int .u64 x31), (some 25, .int .u64 x32), (some 26, .pointer (some ⟨b10, 3, none⟩)), (none, undef)]) (G := [15]) (J := fun w => St [] w0 w [some (b10, .cells #[.int .u64 x13, .int .u64 x19, .int .u64 x25, .int .u64 0] 40), some (b7, .cells (elA b) 40), some (b4, .cells (elA a) 40), some (b1, .cells #[.func (.func 173) #[] #[]] 214)] []) mixed ?_ (hS30.draw _)
    refine node1 16 [15] [] [] (by kernel_rfl) rfl rfl (nd rfl) rfl (by kernel_rfl) ?_ ?_ ?_
    ·intro S wd hSd
     refine ⟨n0 rfl rfl rfl (ex_move (v := .int .i64 3) rfl) rfl hSd, n0 rfl rfl rfl (ex_field (o' := 0) rfl fi214_0 rfl) rfl hSd, n1 rfl rfl rfl rfl (fun hq1 => (ex_load (v := .func (.func 173) #[] #[]) (evS hq1 rfl rfl) (hSd.at 3 rfl) on198 rfl)) rfl hSd, n0 rfl rfl rfl (ex_move (v := .int .i64 3) rfl) rfl hSd, n1 rfl rfl rfl rfl (fun hq3 => (ex_index (j := 3) (o' := 3) rfl (evS hq3 rfl rfl) ar40 (by decide) (by decide) rfl)) rfl hSd, n1 rfl rfl rfl rfl (fun hq4 => (ex_load (v := .int .u64 (limb a 3)) (evS hq4 rfl rfl) (hSd.at 2 rfl) on39 rfl)) rfl hSd, n0 rfl rfl rfl (ex_move (v := .int .i64 3) rfl) rfl hSd, n1 rfl rfl rfl rfl (fun hq6 => (ex_index (j := 3) (o' := 3) rfl (evS hq6 rfl rfl) ar40 (by decide) (by decide) rfl)) rfl hSd, n1 rfl rfl rfl rfl (fun hq7 => (ex_load (v := .int .u64 (limb b 3)) (evS hq7 rfl rfl) (hSd.at 1 rfl) on39 rfl)) rfl hSd, n0 rfl rfl rfl (ex_move (v := .int .u64 x26) rfl) rfl hSd, ?_, n1 rfl rfl rfl rfl (fun hq10 => (ex_move (v := .tuple #[.int .u64 x31, .int .u64 x32]) (evS hq10 rfl rfl))) rfl hSd, n1 rfl rfl rfl rfl (fun hq11 => (ex_extract (v := .int .u64 x31) (evS hq11 rfl rfl) rfl)) rfl hSd, n1 rfl rfl rfl rfl (fun hq11 => (ex_extract (v := .int .u64 x32) (evS hq11 rfl rfl) rfl)) rfl hSd, ?_, sG rfl, tt⟩
     ·refine needG rfl ?_
      rintro ⟨hq2, hq5, hq8, hq9, _⟩ hno
      exact dx (wanted_none rfl) rfl (exq_sub64 (x := (limb a 3)) (y := (limb b 3)) (c := x26) hx31 hx32 e_Sub64 (evS hq2 rfl rfl) (args_of3 (evS hq5 rfl rfl) (evS hq8 rfl rfl) (evS hq9 rfl rfl)) (limb_nonneg _ _) ⟨limb_nonneg _ _, limb_lt _ _⟩ hcx26) ⟨rfl, hSd⟩
     refine needG rfl ?_
     rintro ⟨hq0, hq0, hq1, hq2, hq3, hq4, hq5, hq6, hq7, hq8, hq9, hq10, hq11, hq12, _⟩ hno
     exact dx (wanted_none rfl) rfl (ex_index (j := 3) (o' := 3) rfl (evS hq0 rfl rfl) ar40 (by decide) (by decide) rfl) ⟨rfl, hSd⟩
    ·intro S wd hSd
     refine ⟨tt, tt, tt, tt, tt, tt, tt, tt, tt, tt, tt, tt, tt, tt, tt, ?_, tt⟩
     refine needH rfl ?_
     rintro ⟨hq14, hq12, hq10, hq0, hq1, hq2, hq3, hq4, hq5, hq6, hq7, hq8, hq9, hq10, hq11, hq12, _⟩ hno
     refine dxU (wanted_none rfl) rfl (st_store (v := .int .u64 x31) (cs' := #[.int .u64 x13, .int .u64 x19, .int .u64 x25, .int .u64 x31]) 0 hSd (evS hq14 rfl rfl) (evS hq12 rfl rfl) rfl on39 rfl (Nat.le_of_ble_eq_true rfl) rfl rfl) fun W33 hS34 => ?_
     refine ⟨fun w => St [] w0 w [some (b10, .cells #[.int .u64 x13, .int .u64 x19, .int .u64 x25, .int .u64 x31] 40), some (b7, .cells (elA b) 40), some (b4, .cells (elA a) 40), some (b1, .cells #[.func (.func 173) #[] #[]] 214)] [], [(some 13, .int .i64 3), (some 14, pt b1), (some 15, .func (.func 173) #[] #[]), (some 16, .int .i64 3), (some 17, .pointer (some ⟨b4, 3, none⟩)), (some 18, .int .u64 (limb a 3)), (some 19, .int .i64 3), (some 20, .pointer (some ⟨b7, 3, none⟩)), (some 21, .int .u64 (limb b 3)), (some 22, .int .u64 x26), (some 23, .tuple #[.int .u64 x31, .int .u64 x32]), (some 12, .tuple #[.int .u64 x31, .int .u64 x32]), (some 24, .int .u64 x31), (some 25, .int .u64 x32), (some 26, .pointer (some ⟨b10, 3, none⟩)), (none, undef)], [], hS34, by kernel_rfl, ⟨rfl, rfl, rfl, rfl, rfl, rfl, rfl, rfl, rfl, rfl, rfl, rfl, rfl, rfl, rfl, rfl, rfl, rfl, rfl, rfl, rfl, rfl, rfl, rfl, rfl, rfl, rfl, rfl, rfl, rfl, rfl, True.intro, True.intro⟩, rfl, ?_⟩
     show Sc.Node _ _ _ _ _ _ _ 16 [(some 13, .int .i64 3), (some 14, pt b1), (some 15, .func (.func 173) #[] #[]), (some 16, .int .i64 3), (some 17, .pointer (some ⟨b4, 3, none⟩)), (some 18, .int .u64 (limb a 3)), (some 19, .int .i64 3), (some 20, .pointer (some ⟨b7, 3, none⟩)), (some 21, .int .u64 (limb b 3)), (some 22, .int .u64 x26), (some 23, .tuple #[.int .u64 x31, .int .u64 x32]), (some 12, .tuple #[.int .u64 x31, .int .u64 x32]), (some 24, .int .u64 x31), (some 25, .int .u64 x32), (some 26, .pointer (some ⟨b10, 3, none⟩)), (none, undef)] [] [15] _
     refine node1 16 [] [15] [] (by kernel_rfl) rfl rfl (nd rfl) rfl (by kernel_rfl) ?_ ?_ ?_
     ·intro S wd hSd
      refine ⟨n0 rfl rfl rfl (ex_move (v := .int .i64 3) rfl) rfl hSd, n0 rfl rfl rfl (ex_field (o' := 0) rfl fi214_0 rfl) rfl hSd, n1 rfl rfl rfl rfl (fun hq1 => (ex_load (v := .func (.func 173) #[] #[]) (evS hq1 rfl rfl) (hSd.at 3 rfl) on198 rfl)) rfl hSd, n0 rfl rfl rfl (ex_move (v := .int .i64 3) rfl) rfl hSd, n1 rfl rfl rfl rfl (fun hq3 => (ex_index (j := 3) (o' := 3) rfl (evS hq3 rfl rfl) ar40 (by decide) (by decide) rfl)) rfl hSd, n1 rfl rfl rfl rfl (fun hq4 => (ex_load (v := .int .u64 (limb a 3)) (evS hq4 rfl rfl) (hSd.at 2 rfl) on39 rfl)) rfl hSd, n0 rfl rfl rfl (ex_move (v := .int .i64 3) rfl) rfl hSd, n1 rfl rfl rfl rfl (fun hq6 => (ex_index (j := 3) (o' := 3) rfl (evS hq6 rfl rfl) ar40 (by decide) (by decide) rfl)) rfl hSd, n1 rfl rfl rfl rfl (fun hq7 => (ex_load (v := .int .u64 (limb b 3)) (evS hq7 rfl rfl) (hSd.at 1 rfl) on39 rfl)) rfl hSd, n0 rfl rfl rfl (ex_move (v := .int .u64 x26) rfl) rfl hSd, ?_, n1 rfl rfl rfl rfl (fun hq10 => (ex_move (v := .tuple #[.int .u64 x31, .int .u64 x32]) (evS hq10 rfl rfl))) rfl hSd, n1 rfl rfl rfl rfl (fun hq11 => (ex_extract (v := .int .u64 x31) (evS hq11 rfl rfl) rfl)) rfl hSd, n1 rfl rfl rfl rfl (fun hq11 => (ex_extract (v := .int .u64 x32) (evS hq11 rfl rfl) rfl)) rfl hSd, ?_, sG rfl, tt⟩
      ·refine needG rfl ?_
       rintro ⟨hq2, hq5, hq8, hq9, _⟩ hno
       exact dx (wanted_none rfl) rfl (exq_sub64 (x := (limb a 3)) (y := (limb b 3)) (c := x26) hx31 hx32 e_Sub64 (evS hq2 rfl rfl) (args_of3 (evS hq5 rfl rfl) (evS hq8 rfl rfl) (evS hq9 rfl rfl)) (limb_nonneg _ _) ⟨limb_nonneg _ _, limb_lt _ _⟩ hcx26) ⟨rfl, hSd⟩
      refine needG rfl ?_
      rintro ⟨hq0, hq0, hq1, hq2, hq3, hq4, hq5, hq6, hq7, hq8, hq9, hq10, hq11, hq12, _⟩ hno
      exact dx (wanted_none rfl) rfl (ex_index (j := 3) (o' := 3) rfl (evS hq0 rfl rfl) ar40 (by decide) (by decide) rfl) ⟨rfl, hSd⟩
     ·exact fun S wd hSd => ⟨True.intro, True.intro, True.intro, True.intro, True.intro, True.intro, True.intro, True.intro, True.intro, True.intro, True.intro, True.intro, True.intro, True.intro, True.intro, True.intro, True.intro⟩
     intro _ W35 hS36
     refine sqv (ex_assign (v := .int .u64 x32) rfl) ?_
     refine blk_normal ?_
     show C _ _ _ _ _ _
     refine C_region ?_
     refine sqv (ex_add (x := 3) (y := 1) (r := 4) rfl rfl (by rfl)) ?_
     refine sqv (ex_move (v := .int .i64 4) rfl) ?_
     show C _ _ _ _ _ _
     refine C_sr ?_
     refine sqv (ex_cmp (x := 4) (y := 4) (r := false) rfl rfl rfl) ?_
     show C _ _ _ _ _ _
     refine C_seq ?_
     refine C_false rfl ?_
     refine C_exit ?_
     refine thn_exit ?_
     refine thn_exit ?_
     refine blk_exit ?_
     show C _ _ _ _ _ _
     refine C_sr ?_
     refine sqv (ex_loads (vs := [.int .u64 x13, .int .u64 x19, .int .u64 x25, .int .u64 x31]) rfl (hS36.at 0 rfl) ag40 rfl rfl) ?_
     refine sqv (ex_move (v := .int .u64 x32) rfl) ?_
     refine sqUE (st_stores (v := .agg #[.int .u64 x13, .int .u64 x19, .int .u64 x25, .int .u64 x31]) (cs' := #[.int .u64 x13, .int .u64 x19, .int .u64 x25, .int .u64 x31]) 0 hS36 rfl rfl rfl ag40 rfl (Nat.le_of_ble_eq_true rfl) (ones_of rfl) rfl) fun W37 hS38 => ?_
     refine sqv (ex_assign (v := .int .u64 x32) rfl) ?_
     show C _ _ _ _ _ _
     refine C_ret ?_
     refine done_2 (v1 := .agg #[.int .u64 x13, .int .u64 x19, .int .u64 x25, .int .u64 x31]) (v2 := .int .u64 x32) rfl (res_row rfl (hS38.at 0 rfl) ag40 rfl) rfl ?_
     have hq := sub_chain a b g0 g1 _ _ _ _ _ _ _ _ hx13 hx14 hx19 hx20 hx25 hx26 hx31 hx32
     exact ⟨by rw [hq.1, hq.2, subC_bI], hS38.none⟩
    exact fun h => absurd h (by decide)
   exact fun h => absurd h (by decide)
  exact fun h => absurd h (by decide)
 exact fun h => absurd h (by decide)
theorem c_lAdd (a : Nat) (b : Nat) (w0 : World) (g0 : a < B256) (g1 : b < B256) : Calls Tryz.prog 150 #[elV a, elV b] w0 (Ret fun uu w' => uu = .tuple #[elV (addN a b), .int .u64 (bI (decide (B256 ≤ a + b)))] ∧ St [] w0 w' [] []) := by
 refine calls_of Tryz.func150 rfl Tryz.ntmps150 (Nat.le_of_ble_eq_true rfl) ?_
 have hS0 := St.nil w0
 refine C_sr ?_
 refine sqE (st_box (v := elV a) (cs := (elA a)) hS0 rfl rfl) fun b1 W2 hS3 => ?_
 refine sqE (st_box (v := elV b) (cs := (elA b)) hS3 rfl rfl) fun b4 W5 hS6 => ?_
 refine sqE (st_alloc hS6 ze40) fun b7 W8 hS9 => ?_
 refine sqv (ex_assign (v := .int .u64 0) rfl) ?_
 show C _ _ _ _ _ _
 refine C_sr ?_
 refine sqv (ex_build (vs := [(0, .func (.func 148) #[] #[])]) (cells := #[.func (.func 148) #[] #[]]) rfl (by kernel_rfl)) ?_
 refine sqv (ex_loads (vs := (el a)) rfl (hS9.at 2 rfl) ag40 rfl rfl) ?_
 refine sqv (ex_loads (vs := (el b)) rfl (hS9.at 1 rfl) ag40 rfl rfl) ?_
 refine sqc (exe_call (args := #[.agg #[.func (.func 148) #[] #[]], elV a, elV b]) en169 (args_of3 rfl rfl rfl)) (c_applyAdd64 a b W8 g0 g1) ?_
 rintro _ W10 ⟨rfl, hT12⟩
 have hS11 := hS9.call hT12
 refine sqv (ex_extract (v := elV (addN a b)) rfl rfl) ?_
 refine sqv (ex_extract (v := .int .u64 (bI (decide (B256 ≤ a + b)))) rfl rfl) ?_
 refine sqUE (st_stores (v := elV (addN a b)) (cs' := (elA (addN a b))) 0 hS11 rfl rfl rfl ag40 rfl (Nat.le_of_ble_eq_true rfl) (ones_of rfl) rfl) fun W14 hS15 => ?_
 refine sqv (ex_assign (v := .int .u64 (bI (decide (B256 ≤ a + b)))) rfl) ?_
 show C _ _ _ _ _ _
 refine C_ret ?_
 refine done_2 (v1 := elV (addN a b)) (v2 := .int .u64 (bI (decide (B256 ≤ a + b)))) rfl (res_row rfl (hS15.at 0 rfl) ag40 rfl) rfl ?_
 exact ⟨by subst_vars; rfl, hS15.none⟩
theorem c_lSub (a : Nat) (b : Nat) (w0 : World) (g0 : a < B256) (g1 : b < B256) : Calls Tryz.prog 158 #[elV a, elV b] w0 (Ret fun uu w' => uu = .tuple #[elV (subN a b), .int .u64 (bI (decide (a < b)))] ∧ St [] w0 w' [] []) := by
 refine calls_of Tryz.func158 rfl Tryz.ntmps158 (Nat.le_of_ble_eq_true rfl) ?_
 have hS0 := St.nil w0
 refine C_sr ?_
 refine sqE (st_box (v := elV a) (cs := (elA a)) hS0 rfl rfl) fun b1 W2 hS3 => ?_
 refine sqE (st_box (v := elV b) (cs := (elA b)) hS3 rfl rfl) fun b4 W5 hS6 => ?_
 refine sqE (st_alloc hS6 ze40) fun b7 W8 hS9 => ?_
 refine sqv (ex_assign (v := .int .u64 0) rfl) ?_
 show C _ _ _ _ _ _
 refine C_sr ?_
 refine sqv (ex_build (vs := [(0, .func (.func 173) #[] #[])]) (cells := #[.func (.func 173) #[] #[]]) rfl (by kernel_rfl)) ?_
 refine sqv (ex_loads (vs := (el a)) rfl (hS9.at 2 rfl) ag40 rfl rfl) ?_
 refine sqv (ex_loads (vs := (el b)) rfl (hS9.at 1 rfl) ag40 rfl rfl) ?_
 refine sqc (exe_call (args := #[.agg #[.func (.func 173) #[] #[]], elV a, elV b]) en169 (args_of3 rfl rfl rfl)) (c_applySub64 a b W8 g0 g1) ?_
 rintro _ W10 ⟨rfl, hT12⟩
 have hS11 := hS9.call hT12
 refine sqv (ex_extract (v := elV (subN a b)) rfl rfl) ?_
 refine sqv (ex_extract (v := .int .u64 (bI (decide (a < b)))) rfl rfl) ?_
 refine sqUE (st_stores (v := elV (subN a b)) (cs' := (elA (subN a b))) 0 hS11 rfl rfl rfl ag40 rfl (Nat.le_of_ble_eq_true rfl) (ones_of rfl) rfl) fun W14 hS15 => ?_
 refine sqv (ex_assign (v := .int .u64 (bI (decide (a < b)))) rfl) ?_
 show C _ _ _ _ _ _
 refine C_ret ?_
 refine done_2 (v1 := elV (subN a b)) (v2 := .int .u64 (bI (decide (a < b)))) rfl (res_row rfl (hS15.at 0 rfl) ag40 rfl) rfl ?_
 exact ⟨by subst_vars; rfl, hS15.none⟩
theorem c_lChoose (t : Bool) (a : Nat) (b : Nat) (w0 : World)  : Calls Tryz.prog 159 #[.int .u64 (mk t), elV a, elV b] w0 (Ret fun uu w' => uu = elV (chN t a b) ∧ St [] w0 w' [] []) := by
 refine calls_of Tryz.func159 rfl Tryz.ntmps159 (Nat.le_of_ble_eq_true rfl) ?_
 have hS0 := St.nil w0
 refine C_sr ?_
 refine sqE (st_box (v := elV a) (cs := (elA a)) hS0 rfl rfl) fun b1 W2 hS3 => ?_
 refine sqE (st_box (v := elV b) (cs := (elA b)) hS3 rfl rfl) fun b4 W5 hS6 => ?_
 refine sqE (st_alloc hS6 ze40) fun b7 W8 hS9 => ?_
 show C _ _ _ _ _ _
 refine C_sr ?_
 refine sqv (ex_move (v := .int .u64 (mk t)) rfl) ?_
 refine sqc (exe_call (args := #[.int .u64 (mk t)]) en160 (args_of1 rfl)) (c_FromBit_m t W8) ?_
 rintro _ W10 ⟨rfl, hT12⟩
 have hS11 := hS9.call hT12
 refine sqv (ex_assign (v := .int .u64 (mk t)) rfl) ?_
 show C _ _ _ _ _ _
 refine C_seq ?_
 refine C_sr ?_
 refine sqv (ex_move (v := .int .i64 0) rfl) ?_
 show C _ _ _ _ _ _
 refine C_block ?_
 refine C_unroll 5 ?_
 show C _ _ _ _ _ _
 refine C_sr ?_
 refine sqv (ex_cmp (x := 0) (y := 4) (r := true) rfl rfl rfl) ?_
 show C _ _ _ _ _ _
 refine C_seq ?_
 refine C_true rfl ?_
 refine C_skip ?_
 show C _ _ _ _ _ _
 refine C_seq ?_
 refine C_block ?_
 refine C_sr ?_
 refine sqv (ex_move (v := .int .i64 0) rfl) ?_
 refine sqv (ex_assign (v := .int .i64 0) rfl) ?_
 show C _ _ _ _ _ _
 refine nm (mChoose (mk t) (limb a 0) (limb b 0)) fun x18 hx18 => ?_
 refine C_draw (p := 9) (l := [(some 13, .int .i64 0), (some 14, .int .u64 (mk t)), (some 15, .int .i64 0), (some 16, pt b1), (some 17, .int .u64 (limb a 0)), (some 18, .int .i64 0), (some 19, pt b4), (some 20, .int .u64 (limb b 0)), (some 21, .int .u64 x18)]) (G := []) (J := fun w => St [] w0 w [some (b7, .cells #[.int .u64 0, .int .u64 0, .int .u64 0, .int .u64 0] 40), some (b4, .cells (elA b) 40), some (b1, .cells (elA a) 40)] []) mixed ?_ (hS11.draw _)
 refine node1 9 [] [] [] (by kernel_rfl) rfl rfl (nd rfl) rfl (by kernel_rfl) ?_ ?_ ?_
 ·intro S wd hSd
  refine ⟨n0 rfl rfl rfl (ex_move (v := .int .i64 0) rfl) rfl hSd, n0 rfl rfl rfl (ex_move (v := .int .u64 (mk t)) rfl) rfl hSd, n0 rfl rfl rfl (ex_move (v := .int .i64 0) rfl) rfl hSd, n1 rfl rfl rfl rfl (fun hq2 => (ex_index (j := 0) (o' := 0) rfl (evS hq2 rfl rfl) ar40 (by decide) (by decide) rfl)) rfl hSd, n1 rfl rfl rfl rfl (fun hq3 => (ex_load (v := .int .u64 (limb a 0)) (evS hq3 rfl rfl) (hSd.at 2 rfl) on39 rfl)) rfl hSd, n0 rfl rfl rfl (ex_move (v := .int .i64 0) rfl) rfl hSd, n1 rfl rfl rfl rfl (fun hq5 => (ex_index (j := 0) (o' := 0) rfl (evS hq5 rfl rfl) ar40 (by decide) (by decide) rfl)) rfl hSd, n1 rfl rfl rfl rfl (fun hq6 => (ex_load (v := .int .u64 (limb b 0)) (evS hq6 rfl rfl) (hSd.at 1 rfl) on39 rfl)) rfl hSd, ?_, tt⟩
  refine needG rfl ?_
  rintro ⟨hq1, hq4, hq7, _⟩ hno
  refine dxC (wanted_none rfl) rfl (exe_call (args := #[.int .u64 (mk t), .int .u64 (limb a 0), .int .u64 (limb b 0)]) en174 (args_of3 (evS hq1 rfl rfl) (evS hq4 rfl rfl) (evS hq7 rfl rfl))) (c_mChoose (mk t) (limb a 0) (limb b 0) wd) ?_
  rintro _ W14 ⟨hv17, hT16⟩
  rw [← hx18] at hv17
  subst hv17
  have hS15 := hSd.call hT16
  exact ⟨rfl, hS15⟩
 ·exact fun S wd hSd => ⟨True.intro, True.intro, True.intro, True.intro, True.intro, True.intro, True.intro, True.intro, True.intro, True.intro⟩
 intro _ W19 hS20
 refine sqv (ex_index (j := 0) (o' := 0) rfl rfl ar40 (by decide) (by decide) rfl) ?_
 refine sqUE (st_store (v := .int .u64 x18) (cs' := #[.int .u64 x18, .int .u64 (limb a 1), .int .u64 (limb a 2), .int .u64 (limb a 3)]) 2 hS20 rfl rfl rfl on39 rfl (Nat.le_of_ble_eq_true rfl) rfl rfl) fun W21 hS22 => ?_
 refine blk_normal ?_
 show C _ _ _ _ _ _
 refine C_region ?_
 refine sqv (ex_add (x := 0) (y := 1) (r := 1) rfl rfl (by rfl)) ?_
 refine sqv (ex_move (v := .int .i64 1) rfl) ?_
 show C _ _ _ _ _ _
 refine C_sr ?_
 refine sqv (ex_cmp (x := 1) (y := 4) (r := true) rfl rfl rfl) ?_
 show C _ _ _ _ _ _
 refine C_seq ?_
 refine C_true rfl ?_
 refine C_skip ?_
 show C _ _ _ _ _ _
 refine C_seq ?_
 refine C_block ?_
 refine C_sr ?_
 refine sqv (ex_move (v := .int .i64 1) rfl) ?_
 refine sqv (ex_assign (v := .int .i64 1) rfl) ?_
 show C _ _ _ _ _ _
 refine nm (mChoose (mk t) (limb a 1) (limb b 1)) fun x27 hx27 => ?_
 refine C_draw (p := 9) (l := [(some 13, .int .i64 1), (some 14, .int .u64 (mk t)), (some 15, .int .i64 1), (some 16, .pointer (some ⟨b1, 1, none⟩)), (some 17, .int .u64 (limb a 1)), (some 18, .int .i64 1), (some 19, .pointer (some ⟨b4, 1, none⟩)), (some 20, .int .u64 (limb b 1)), (some 21, .int .u64 x27)]) (G := []) (J := fun w => St [] w0 w [some (b7, .cells #[.int .u64 0, .int .u64 0, .int .u64 0, .int .u64 0] 40), some (b4, .cells (elA b) 40), some (b1, .cells #[.int .u64 x18, .int .u64 (limb a 1), .int .u64 (limb a 2), .int .u64 (limb a 3)] 40)] []) mixed ?_ (hS22.draw _)
 refine node1 9 [] [] [] (by kernel_rfl) rfl rfl (nd rfl) rfl (by kernel_rfl) ?_ ?_ ?_
 ·intro S wd hSd
  refine ⟨n0 rfl rfl rfl (ex_move (v := .int .i64 1) rfl) rfl hSd, n0 rfl rfl rfl (ex_move (v := .int .u64 (mk t)) rfl) rfl hSd, n0 rfl rfl rfl (ex_move (v := .int .i64 1) rfl) rfl hSd, n1 rfl rfl rfl rfl (fun hq2 => (ex_index (j := 1) (o' := 1) rfl (evS hq2 rfl rfl) ar40 (by decide) (by decide) rfl)) rfl hSd, n1 rfl rfl rfl rfl (fun hq3 => (ex_load (v := .int .u64 (limb a 1)) (evS hq3 rfl rfl) (hSd.at 2 rfl) on39 rfl)) rfl hSd, n0 rfl rfl rfl (ex_move (v := .int .i64 1) rfl) rfl hSd, n1 rfl rfl rfl rfl (fun hq5 => (ex_index (j := 1) (o' := 1) rfl (evS hq5 rfl rfl) ar40 (by decide) (by decide) rfl)) rfl hSd, n1 rfl rfl rfl rfl (fun hq6 => (ex_load (v := .int .u64 (limb b 1)) (evS hq6 rfl rfl) (hSd.at 1 rfl) on39 rfl)) rfl hSd, ?_, tt⟩
  refine needG rfl ?_
  rintro ⟨hq1, hq4, hq7, _⟩ hno
  refine dxC (wanted_none rfl) rfl (exe_call (args := #[.int .u64 (mk t), .int .u64 (limb a 1), .int .u64 (limb b 1)]) en174 (args_of3 (evS hq1 rfl rfl) (evS hq4 rfl rfl) (evS hq7 rfl rfl))) (c_mChoose (mk t) (limb a 1) (limb b 1) wd) ?_
  rintro _ W23 ⟨hv26, hT25⟩
  rw [← hx27] at hv26
  subst hv26
  have hS24 := hSd.call hT25
  exact ⟨rfl, hS24⟩
 ·exact fun S wd hSd => ⟨True.intro, True.intro, True.intro, True.intro, True.intro, True.intro, True.intro, True.intro, True.intro, True.intro⟩
 intro _ W28 hS29
 refine sqv (ex_index (j := 1) (o' := 1) rfl rfl ar40 (by decide) (by decide) rfl) ?_
 refine sqUE (st_store (v := .int .u64 x27) (cs' := #[.int .u64 x18, .int .u64 x27, .int .u64 (limb a 2), .int .u64 (limb a 3)]) 2 hS29 rfl rfl rfl on39 rfl (Nat.le_of_ble_eq_true rfl) rfl rfl) fun W30 hS31 => ?_
 refine blk_normal ?_
 show C _ _ _ _ _ _
 refine C_region ?_
 refine sqv (ex_add (x := 1) (y := 1) (r := 2) rfl rfl (by rfl)) ?_
 refine sqv (ex_move (v := .int .i64 2) rfl) ?_
 show C _ _ _ _ _ _
 refine C_sr ?_
 refine sqv (ex_cmp (x := 2) (y := 4) (r := true) rfl rfl rfl) ?_
 show C _ _ _ _ _ _
 refine C_seq ?_
 refine C_true rfl ?_
 refine C_skip ?_
 show C _ _ _ _ _ _
 refine C_seq ?_
 refine C_block ?_
 refine C_sr ?_
 refine sqv (ex_move (v := .int .i64 2) rfl) ?_
 refine sqv (ex_assign (v := .int .i64 2) rfl) ?_
 show C _ _ _ _ _ _
 refine nm (mChoose (mk t) (limb a 2) (limb b 2)) fun x36 hx36 => ?_
 refine C_draw (p := 9) (l := [(some 13, .int .i64 2), (some 14, .int .u64 (mk t)), (some 15, .int .i64 2), (some 16, .pointer (some ⟨b1, 2, none⟩)), (some 17, .int .u64 (limb a 2)), (some 18, .int .i64 2), (some 19, .pointer (some ⟨b4, 2, none⟩)), (some 20, .int .u64 (limb b 2)), (some 21, .int .u64 x36)]) (G := []) (J := fun w => St [] w0 w [some (b7, .cells #[.int .u64 0, .int .u64 0, .int .u64 0, .int .u64 0] 40), some (b4, .cells (elA b) 40), some (b1, .cells #[.int .u64 x18, .int .u64 x27, .int .u64 (limb a 2), .int .u64 (limb a 3)] 40)] []) mixed ?_ (hS31.draw _)
 refine node1 9 [] [] [] (by kernel_rfl) rfl rfl (nd rfl) rfl (by kernel_rfl) ?_ ?_ ?_
 ·intro S wd hSd
  refine ⟨n0 rfl rfl rfl (ex_move (v := .int .i64 2) rfl) rfl hSd, n0 rfl rfl rfl (ex_move (v := .int .u64 (mk t)) rfl) rfl hSd, n0 rfl rfl rfl (ex_move (v := .int .i64 2) rfl) rfl hSd, n1 rfl rfl rfl rfl (fun hq2 => (ex_index (j := 2) (o' := 2) rfl (evS hq2 rfl rfl) ar40 (by decide) (by decide) rfl)) rfl hSd, n1 rfl rfl rfl rfl (fun hq3 => (ex_load (v := .int .u64 (limb a 2)) (evS hq3 rfl rfl) (hSd.at 2 rfl) on39 rfl)) rfl hSd, n0 rfl rfl rfl (ex_move (v := .int .i64 2) rfl) rfl hSd, n1 rfl rfl rfl rfl (fun hq5 => (ex_index (j := 2) (o' := 2) rfl (evS hq5 rfl rfl) ar40 (by decide) (by decide) rfl)) rfl hSd, n1 rfl rfl rfl rfl (fun hq6 => (ex_load (v := .int .u64 (limb b 2)) (evS hq6 rfl rfl) (hSd.at 1 rfl) on39 rfl)) rfl hSd, ?_, tt⟩
  refine needG rfl ?_
  rintro ⟨hq1, hq4, hq7, _⟩ hno
  refine dxC (wanted_none rfl) rfl (exe_call (args := #[.int .u64 (mk t), .int .u64 (limb a 2), .int .u64 (limb b 2)]) en174 (args_of3 (evS hq1 rfl rfl) (evS hq4 rfl rfl) (evS hq7 rfl rfl))) (c_mChoose (mk t) (limb a 2) (limb b 2) wd) ?_
  rintro _ W32 ⟨hv35, hT34⟩
  rw [← hx36] at hv35
  subst hv35
  have hS33 := hSd.call hT34
  exact ⟨rfl, hS33⟩
 ·exact fun S wd hSd => ⟨True.intro, True.intro, True.intro, True.intro, True.intro, True.intro, True.intro, True.intro, True.intro, True.intro⟩
 intro _ W37 hS38
 refine sqv (ex_index (j := 2) (o' := 2) rfl rfl ar40 (by decide) (by decide) rfl) ?_
 refine sqUE (st_store (v := .int .u64 x36) (cs' := #[.int .u64 x18, .int .u64 x27, .int .u64 x36, .int .u64 (limb a 3)]) 2 hS38 rfl rfl rfl on39 rfl (Nat.le_of_ble_eq_true rfl) rfl rfl) fun W39 hS40 => ?_
 refine blk_normal ?_
 show C _ _ _ _ _ _
 refine C_region ?_
 refine sqv (ex_add (x := 2) (y := 1) (r := 3) rfl rfl (by rfl)) ?_
 refine sqv (ex_move (v := .int .i64 3) rfl) ?_
 show C _ _ _ _ _ _
 refine C_sr ?_
 refine sqv (ex_cmp (x := 3) (y := 4) (r := true) rfl rfl rfl) ?_
 show C _ _ _ _ _ _
 refine C_seq ?_
 refine C_true rfl ?_
 refine C_skip ?_
 show C _ _ _ _ _ _
 refine C_seq ?_
 refine C_block ?_
 refine C_sr ?_
 refine sqv (ex_move (v := .int .i64 3) rfl) ?_
 refine sqv (ex_assign (v := .int .i64 3) rfl) ?_
 show C _ _ _ _ _ _
 refine nm (mChoose (mk t) (limb a 3) (limb b 3)) fun x45 hx45 => ?_
 refine C_draw (p := 9) (l := [(some 13, .int .i64 3), (some 14, .int .u64 (mk t)), (some 15, .int .i64 3), (some 16, .pointer (some ⟨b1, 3, none⟩)), (some 17, .int .u64 (limb a 3)), (some 18, .int .i64 3), (some 19, .pointer (some ⟨b4, 3, none⟩)), (some 20, .int .u64 (limb b 3)), (some 21, .int .u64 x45)]) (G := []) (J := fun w => St [] w0 w [some (b7, .cells #[.int .u64 0, .int .u64 0, .int .u64 0, .int .u64 0] 40), some (b4, .cells (elA b) 40), some (b1, .cells #[.int .u64 x18, .int .u64 x27, .int .u64 x36, .int .u64 (limb a 3)] 40)] []) mixed ?_ (hS40.draw _)
 refine node1 9 [] [] [] (by kernel_rfl) rfl rfl (nd rfl) rfl (by kernel_rfl) ?_ ?_ ?_
 ·intro S wd hSd
  refine ⟨n0 rfl rfl rfl (ex_move (v := .int .i64 3) rfl) rfl hSd, n0 rfl rfl rfl (ex_move (v := .int .u64 (mk t)) rfl) rfl hSd, n0 rfl rfl rfl (ex_move (v := .int .i64 3) rfl) rfl hSd, n1 rfl rfl rfl rfl (fun hq2 => (ex_index (j := 3) (o' := 3) rfl (evS hq2 rfl rfl) ar40 (by decide) (by decide) rfl)) rfl hSd, n1 rfl rfl rfl rfl (fun hq3 => (ex_load (v := .int .u64 (limb a 3)) (evS hq3 rfl rfl) (hSd.at 2 rfl) on39 rfl)) rfl hSd, n0 rfl rfl rfl (ex_move (v := .int .i64 3) rfl) rfl hSd, n1 rfl rfl rfl rfl (fun hq5 => (ex_index (j := 3) (o' := 3) rfl (evS hq5 rfl rfl) ar40 (by decide) (by decide) rfl)) rfl hSd, n1 rfl rfl rfl rfl (fun hq6 => (ex_load (v := .int .u64 (limb b 3)) (evS hq6 rfl rfl) (hSd.at 1 rfl) on39 rfl)) rfl hSd, ?_, tt⟩
  refine needG rfl ?_
  rintro ⟨hq1, hq4, hq7, _⟩ hno
  refine dxC (wanted_none rfl) rfl (exe_call (args := #[.int .u64 (mk t), .int .u64 (limb a 3), .int .u64 (limb b 3)]) en174 (args_of3 (evS hq1 rfl rfl) (evS hq4 rfl rfl) (evS hq7 rfl rfl))) (c_mChoose (mk t) (limb a 3) (limb b 3) wd) ?_
  rintro _ W41 ⟨hv44, hT43⟩
  rw [← hx45] at hv44
  subst hv44
  have hS42 := hSd.call hT43
  exact ⟨rfl, hS42⟩
 ·exact fun S wd hSd => ⟨True.intro, True.intro, True.intro, True.intro, True.intro, True.intro, True.intro, True.intro, True.intro, True.intro⟩
 intro _ W46 hS47
 refine sqv (ex_index (j := 3) (o' := 3) rfl rfl ar40 (by decide) (by decide) rfl) ?_
 refine sqUE (st_store (v := .int .u64 x45) (cs' := #[.int .u64 x18, .int .u64 x27, .int .u64 x36, .int .u64 x45]) 2 hS47 rfl rfl rfl on39 rfl (Nat.le_of_ble_eq_true rfl) rfl rfl) fun W48 hS49 => ?_
 refine blk_normal ?_
 show C _ _ _ _ _ _
 refine C_region ?_
 refine sqv (ex_add (x := 3) (y := 1) (r := 4) rfl rfl (by rfl)) ?_
 refine sqv (ex_move (v := .int .i64 4) rfl) ?_
 show C _ _ _ _ _ _
 refine C_sr ?_
 refine sqv (ex_cmp (x := 4) (y := 4) (r := false) rfl rfl rfl) ?_
 show C _ _ _ _ _ _
 refine C_seq ?_
 refine C_false rfl ?_
 refine C_exit ?_
 refine thn_exit ?_
 refine thn_exit ?_
 refine blk_exit ?_
 show C _ _ _ _ _ _
 refine C_sr ?_
 refine sqv (ex_loads (vs := [.int .u64 x18, .int .u64 x27, .int .u64 x36, .int .u64 x45]) rfl (hS49.at 2 rfl) ag40 rfl rfl) ?_
 refine sqUE (st_stores (v := .agg #[.int .u64 x18, .int .u64 x27, .int .u64 x36, .int .u64 x45]) (cs' := #[.int .u64 x18, .int .u64 x27, .int .u64 x36, .int .u64 x45]) 0 hS49 rfl rfl rfl ag40 rfl (Nat.le_of_ble_eq_true rfl) (ones_of rfl) rfl) fun W50 hS51 => ?_
 show C _ _ _ _ _ _
 refine C_ret ?_
 refine done_1 (v := .agg #[.int .u64 x18, .int .u64 x27, .int .u64 x36, .int .u64 x45]) rfl (res_row rfl (hS51.at 0 rfl) ag40 rfl) ?_
 exact ⟨by subst_vars; exact choose_mk t a b, hS51.none⟩
theorem c_lLess (a : Nat) (b : Nat) (w0 : World) (g0 : a < B256) (g1 : b < B256) : Calls Tryz.prog 157 #[elV a, elV b] w0 (Ret fun uu w' => uu = .int .u64 (mk (decide (a < b))) ∧ St [] w0 w' [] []) := by
 refine calls_of Tryz.func157 rfl Tryz.ntmps157 (Nat.le_of_ble_eq_true rfl) ?_
 have hS0 := St.nil w0
 refine C_sr ?_
 refine sqE (st_box (v := elV a) (cs := (elA a)) hS0 rfl rfl) fun b1 W2 hS3 => ?_
 refine sqE (st_box (v := elV b) (cs := (elA b)) hS3 rfl rfl) fun b4 W5 hS6 => ?_
 refine sqv (ex_assign (v := .int .u64 0) rfl) ?_
 show C _ _ _ _ _ _
 refine C_sr ?_
 refine sqv (ex_loads (vs := (el a)) rfl (hS6.at 1 rfl) ag40 rfl rfl) ?_
 refine sqv (ex_loads (vs := (el b)) rfl (hS6.at 0 rfl) ag40 rfl rfl) ?_
 refine sqc (exe_call (args := #[elV a, elV b]) en158 (args_of2 rfl rfl)) (c_lSub a b W5 g0 g1) ?_
 rintro _ W7 ⟨rfl, hT9⟩
 have hS8 := hS6.call hT9
 refine sqv (ex_move (v := .tuple #[elV (subN a b), .int .u64 (bI (decide (a < b)))]) rfl) ?_
 refine sqv (ex_extract (v := elV (subN a b)) rfl rfl) ?_
 refine sqv (ex_extract (v := .int .u64 (bI (decide (a < b)))) rfl rfl) ?_
 refine sqE (st_alloc hS8 ze40) fun b11 W12 hS13 => ?_
 refine sqUE (st_stores (v := elV (subN a b)) (cs' := (elA (subN a b))) 0 hS13 rfl rfl rfl ag40 rfl (Nat.le_of_ble_eq_true rfl) (ones_of rfl) rfl) fun W14 hS15 => ?_
 refine sqv (ex_assign (v := .int .u64 (bI (decide (a < b)))) rfl) ?_
 show C _ _ _ _ _ _
 refine C_sr ?_
 refine sqv (ex_move (v := .int .u64 (bI (decide (a < b)))) rfl) ?_
 refine sqc (exe_call (args := #[.int .u64 (bI (decide (a < b)))]) en160 (args_of1 rfl)) (c_FromBit_b (decide (a < b)) W14) ?_
 rintro _ W16 ⟨rfl, hT18⟩
 have hS17 := hS15.call hT18
 refine sqv (ex_assign (v := .int .u64 (mk (decide (a < b)))) rfl) ?_
 show C _ _ _ _ _ _
 refine C_ret ?_
 refine done_1 (v := .int .u64 (mk (decide (a < b)))) rfl rfl ?_
 exact ⟨by subst_vars; rfl, hS17.none⟩
theorem c_Contains (F : PrF) (a : Nat) (w0 : World) (g0 : FOk F) (g1 : a < B256) : Calls Tryz.prog 133 #[fdV F, elV a] w0 (Ret fun uu w' => uu = .int .u64 (mk (decide (a < F.p))) ∧ St [] w0 w' [] []) := by
 have hF := g0
 refine calls_of Tryz.func133 rfl Tryz.ntmps133 (Nat.le_of_ble_eq_true rfl) ?_
 have hS0 := St.nil w0
 refine C_sr ?_
 refine sqE (st_box (v := fdV F) (cs := (fdA F)) hS0 rfl rfl) fun b1 W2 hS3 => ?_
 refine sqE (st_box (v := elV a) (cs := (elA a)) hS3 rfl rfl) fun b4 W5 hS6 => ?_
 refine sqv (ex_assign (v := .int .u64 0) rfl) ?_
 show C _ _ _ _ _ _
 refine C_sr ?_
 refine sqv (ex_loads (vs := (el a)) rfl (hS6.at 0 rfl) ag40 rfl rfl) ?_
 refine sqv (ex_field (o' := 1) rfl fi117_1 rfl) ?_
 refine sqv (ex_loads (vs := (el (F.p))) rfl (hS6.at 1 rfl) ag40 rfl rfl) ?_
 refine sqc (exe_call (args := #[elV a, elV F.p]) en157 (args_of2 rfl rfl)) (c_lLess a F.p W5 g1 (f_lt hF)) ?_
 rintro _ W7 ⟨rfl, hT9⟩
 have hS8 := hS6.call hT9
 refine sqv (ex_assign (v := .int .u64 (mk (decide (a < F.p)))) rfl) ?_
 show C _ _ _ _ _ _
 refine C_ret ?_
 refine done_1 (v := .int .u64 (mk (decide (a < F.p)))) rfl rfl ?_
 exact ⟨by subst_vars; rfl, hS8.none⟩
theorem c_Subtract (F : PrF) (a : Nat) (t : Bool) (w0 : World) (g0 : FOk F) (g1 : a < B256) : Calls Tryz.prog 149 #[fdV F, elV a, .int .u64 (bI t)] w0 (Ret fun uu w' => uu = elV (fRed F a t) ∧ St [] w0 w' [] []) := by
 have hF := g0
 refine calls_of Tryz.func149 rfl Tryz.ntmps149 (Nat.le_of_ble_eq_true rfl) ?_
 have hS0 := St.nil w0
 refine C_sr ?_
 refine sqE (st_box (v := fdV F) (cs := (fdA F)) hS0 rfl rfl) fun b1 W2 hS3 => ?_
 refine sqE (st_box (v := elV a) (cs := (elA a)) hS3 rfl rfl) fun b4 W5 hS6 => ?_
 refine sqE (st_alloc hS6 ze40) fun b7 W8 hS9 => ?_
 show C _ _ _ _ _ _
 refine C_sr ?_
 refine sqv (ex_loads (vs := (el a)) rfl (hS9.at 1 rfl) ag40 rfl rfl) ?_
 refine sqv (ex_field (o' := 1) rfl fi117_1 rfl) ?_
 refine sqv (ex_loads (vs := (el (F.p))) rfl (hS9.at 2 rfl) ag40 rfl rfl) ?_
 refine sqc (exe_call (args := #[elV a, elV F.p]) en158 (args_of2 rfl rfl)) (c_lSub a F.p W8 g1 (f_lt hF)) ?_
 rintro _ W10 ⟨rfl, hT12⟩
 have hS11 := hS9.call hT12
 refine sqv (ex_move (v := .tuple #[elV (subN a F.p), .int .u64 (bI (decide (a < F.p)))]) rfl) ?_
 refine sqv (ex_extract (v := elV (subN a F.p)) rfl rfl) ?_
 refine sqv (ex_extract (v := .int .u64 (bI (decide (a < F.p)))) rfl rfl) ?_
 refine sqE (st_alloc hS11 ze40) fun b14 W15 hS16 => ?_
 refine sqUE (st_stores (v := elV (subN a F.p)) (cs' := (elA (subN a F.p))) 0 hS16 rfl rfl rfl ag40 rfl (Nat.le_of_ble_eq_true rfl) (ones_of rfl) rfl) fun W17 hS18 => ?_
 refine sqv (ex_assign (v := .int .u64 (bI (decide (a < F.p)))) rfl) ?_
 show C _ _ _ _ _ _
 refine C_seq ?_
 refine C_draw (p := 8) (l := [(some 16, .int .u64 (bI (decide (a < F.p)))), (some 17, .int .u64 (mk (decide (a < F.p)))), (some 18, .int .u64 (bI t)), (some 19, .int .u64 (mk t)), (some 20, .int .u64 (mk ((decide (a < F.p)) && !t))), (some 21, elV a), (some 22, elV (subN a F.p)), (some 23, elV (chN ((decide (a < F.p)) && !t) a (subN a F.p)))]) (G := []) (J := fun w => St [] w0 w [some (b14, .cells (elA (subN a F.p)) 40), some (b7, .cells #[.int .u64 0, .int .u64 0, .int .u64 0, .int .u64 0] 40), some (b4, .cells (elA a) 40), some (b1, .cells (fdA F) 117)] []) mixed ?_ (hS18.draw _)
 refine node1 8 [] [] [] (by kernel_rfl) rfl rfl (nd rfl) rfl (by kernel_rfl) ?_ ?_ ?_
 ·intro S wd hSd
  refine ⟨n0 rfl rfl rfl (ex_move (v := .int .u64 (bI (decide (a < F.p)))) rfl) rfl hSd, ?_, n0 rfl rfl rfl (ex_move (v := .int .u64 (bI t)) rfl) rfl hSd, ?_, n2 rfl rfl rfl rfl (fun hq1 hq3 => (ex_bit (x := (mk (decide (a < F.p)))) (y := (mk t)) (r := mk ((decide (a < F.p)) && !t)) (evS hq1 rfl rfl) (evS hq3 rfl rfl) (mk_andNot (decide (a < F.p)) t).symm)) rfl hSd, n0 rfl rfl rfl (ex_loads (vs := (el a)) rfl (hSd.at 2 rfl) ag40 rfl rfl) rfl hSd, n0 rfl rfl rfl (ex_loads (vs := (el (subN a F.p))) rfl (hSd.at 0 rfl) ag40 rfl rfl) rfl hSd, ?_, tt⟩
  ·refine needG rfl ?_
   rintro ⟨hq0, _⟩ hno
   refine dxC (wanted_none rfl) rfl (exe_call (args := #[.int .u64 (bI (decide (a < F.p)))]) en160 (args_of1 (evS hq0 rfl rfl))) (c_FromBit_b (decide (a < F.p)) wd) ?_
   rintro _ W19 ⟨rfl, hT21⟩
   have hS20 := hSd.call hT21
   exact ⟨rfl, hS20⟩
  ·refine needG rfl ?_
   rintro ⟨hq2, hq1, _⟩ hno
   refine dxC (wanted_none rfl) rfl (exe_call (args := #[.int .u64 (bI t)]) en160 (args_of1 (evS hq2 rfl rfl))) (c_FromBit_b t wd) ?_
   rintro _ W23 ⟨rfl, hT25⟩
   have hS24 := hSd.call hT25
   exact ⟨rfl, hS24⟩
  refine needG rfl ?_
  rintro ⟨hq4, hq5, hq6, hq3, _⟩ hno
  refine dxC (wanted_none rfl) rfl (exe_call (args := #[.int .u64 (mk ((decide (a < F.p)) && !t)), elV a, elV (subN a F.p)]) en159 (args_of3 (evS hq4 rfl rfl) (evS hq5 rfl rfl) (evS hq6 rfl rfl))) (c_lChoose ((decide (a < F.p)) && !t) a (subN a F.p) wd) ?_
  rintro _ W27 ⟨rfl, hT29⟩
  have hS28 := hSd.call hT29
  exact ⟨rfl, hS28⟩
 ·exact fun S wd hSd => ⟨True.intro, True.intro, True.intro, True.intro, True.intro, True.intro, True.intro, True.intro, True.intro⟩
 intro _ W31 hS32
 refine sqUE (st_stores (v := elV (chN ((decide (a < F.p)) && !t) a (subN a F.p))) (cs' := (elA (chN ((decide (a < F.p)) && !t) a (subN a F.p)))) 1 hS32 rfl rfl rfl ag40 rfl (Nat.le_of_ble_eq_true rfl) (ones_of rfl) rfl) fun W33 hS34 => ?_
 show C _ _ _ _ _ _
 refine C_ret ?_
 refine done_1 (v := elV (chN ((decide (a < F.p)) && !t) a (subN a F.p))) rfl (res_row rfl (hS34.at 1 rfl) ag40 rfl) ?_
 exact ⟨by subst_vars; rfl, hS34.none⟩
theorem addN_lt (a b : Nat) : addN a b < B256 := Nat.mod_lt _ (by decide)
theorem subN_lt (a b : Nat) : subN a b < B256 := Nat.mod_lt _ (by decide)
theorem lt_of_p {F : PrF} (h : FOk F) {a : Nat} (ha : a < F.p) : a < B256 := Nat.lt_trans ha (f_lt h)
theorem c_mAdd (F : PrF) (a : Nat) (b : Nat) (w0 : World) (g0 : FOk F) (g1 : a < F.p) (g2 : b < F.p) : Calls Tryz.prog 117 #[fdV F, elV a, elV b] w0 (Ret fun uu w' => uu = elV (fAdd F a b) ∧ St [] w0 w' [] []) := by
 have hF := g0
 refine calls_of Tryz.func117 rfl Tryz.ntmps117 (Nat.le_of_ble_eq_true rfl) ?_
 have hS0 := St.nil w0
 refine C_sr ?_
 refine sqE (st_box (v := fdV F) (cs := (fdA F)) hS0 rfl rfl) fun b1 W2 hS3 => ?_
 refine sqE (st_box (v := elV a) (cs := (elA a)) hS3 rfl rfl) fun b4 W5 hS6 => ?_
 refine sqE (st_box (v := elV b) (cs := (elA b)) hS6 rfl rfl) fun b7 W8 hS9 => ?_
 refine sqE (st_alloc hS9 ze49) fun b10 W11 hS12 => ?_
 show C _ _ _ _ _ _
 refine C_sr ?_
 refine sqv (ex_loads (vs := (fdC F)) rfl (hS12.at 3 rfl) ag117 rfl rfl) ?_
 refine sqv (ex_func (a := #[fdV F]) (b := #[]) (args_of1 rfl) args_of0) ?_
 refine sqv (ex_assign (v := .func (.func 149) #[fdV F] #[]) rfl) ?_
 show C _ _ _ _ _ _
 refine C_sr ?_
 refine sqv (ex_loads (vs := (el a)) rfl (hS12.at 2 rfl) ag49 rfl rfl) ?_
 refine sqv (ex_loads (vs := (el b)) rfl (hS12.at 1 rfl) ag49 rfl rfl) ?_
 refine sqc (exe_call (args := #[elV a, elV b]) en150 (args_of2 rfl rfl)) (c_lAdd a b W11 (lt_of_p hF g1) (lt_of_p hF g2)) ?_
 rintro _ W13 ⟨rfl, hT15⟩
 have hS14 := hS12.call hT15
 refine sqv (ex_move (v := .tuple #[elV (addN a b), .int .u64 (bI (decide (B256 ≤ a + b)))]) rfl) ?_
 refine sqv (ex_extract (v := elV (addN a b)) rfl rfl) ?_
 refine sqv (ex_extract (v := .int .u64 (bI (decide (B256 ≤ a + b)))) rfl rfl) ?_
 refine sqE (st_alloc hS14 ze40) fun b17 W18 hS19 => ?_
 refine sqUE (st_stores (v := elV (addN a b)) (cs' := (elA (addN a b))) 0 hS19 rfl rfl rfl ag40 rfl (Nat.le_of_ble_eq_true rfl) (ones_of rfl) rfl) fun W20 hS21 => ?_
 refine sqv (ex_assign (v := .int .u64 (bI (decide (B256 ≤ a + b)))) rfl) ?_
 show C _ _ _ _ _ _
 refine C_sr ?_
 refine sqv (ex_move (v := .func (.func 149) #[fdV F] #[]) rfl) ?_
 refine sqv (ex_loads (vs := (el (addN a b))) rfl (hS21.at 0 rfl) ag40 rfl rfl) ?_
 refine sqv (ex_move (v := .int .u64 (bI (decide (B256 ≤ a + b)))) rfl) ?_
 refine sqc (exe_closure (args := #[fdV F, elV (addN a b), .int .u64 (bI (decide (B256 ≤ a + b)))]) rfl en149 (clo (args_of2 rfl rfl))) (c_Subtract F (addN a b) (decide (B256 ≤ a + b)) W20 hF (addN_lt _ _)) ?_
 rintro _ W22 ⟨rfl, hT24⟩
 have hS23 := hS21.call hT24
 refine sqUE (st_stores (v := elV (fRed F (addN a b) (decide (B256 ≤ a + b)))) (cs' := (elA (fRed F (addN a b) (decide (B256 ≤ a + b))))) 1 hS23 rfl rfl rfl ag49 rfl (Nat.le_of_ble_eq_true rfl) (ones_of rfl) rfl) fun W26 hS27 => ?_
 show C _ _ _ _ _ _
 refine C_ret ?_
 refine done_1 (v := elV (fRed F (addN a b) (decide (B256 ≤ a + b)))) rfl (res_row rfl (hS27.at 1 rfl) ag49 rfl) ?_
 exact ⟨by rw [fAdd_eq hF g1 g2], hS27.none⟩
theorem c_mSub (F : PrF) (a : Nat) (b : Nat) (w0 : World) (g0 : FOk F) (g1 : a < F.p) (g2 : b < F.p) : Calls Tryz.prog 141 #[fdV F, elV a, elV b] w0 (Ret fun uu w' => uu = elV (fSub F a b) ∧ St [] w0 w' [] []) := by
 have hF := g0
 refine calls_of Tryz.func141 rfl Tryz.ntmps141 (Nat.le_of_ble_eq_true rfl) ?_
 have hS0 := St.nil w0
 refine C_sr ?_
 refine sqE (st_box (v := fdV F) (cs := (fdA F)) hS0 rfl rfl) fun b1 W2 hS3 => ?_
 refine sqE (st_box (v := elV a) (cs := (elA a)) hS3 rfl rfl) fun b4 W5 hS6 => ?_
 refine sqE (st_box (v := elV b) (cs := (elA b)) hS6 rfl rfl) fun b7 W8 hS9 => ?_
 refine sqE (st_alloc hS9 ze49) fun b10 W11 hS12 => ?_
 show C _ _ _ _ _ _
 refine C_sr ?_
 refine sqv (ex_loads (vs := (el a)) rfl (hS12.at 2 rfl) ag49 rfl rfl) ?_
 refine sqv (ex_loads (vs := (el b)) rfl (hS12.at 1 rfl) ag49 rfl rfl) ?_
 refine sqc (exe_call (args := #[elV a, elV b]) en158 (args_of2 rfl rfl)) (c_lSub a b W11 (lt_of_p hF g1) (lt_of_p hF g2)) ?_
 rintro _ W13 ⟨rfl, hT15⟩
 have hS14 := hS12.call hT15
 refine sqv (ex_move (v := .tuple #[elV (subN a b), .int .u64 (bI (decide (a < b)))]) rfl) ?_
 refine sqv (ex_extract (v := elV (subN a b)) rfl rfl) ?_
 refine sqv (ex_extract (v := .int .u64 (bI (decide (a < b)))) rfl rfl) ?_
 refine sqE (st_alloc hS14 ze40) fun b17 W18 hS19 => ?_
 refine sqUE (st_stores (v := elV (subN a b)) (cs' := (elA (subN a b))) 0 hS19 rfl rfl rfl ag40 rfl (Nat.le_of_ble_eq_true rfl) (ones_of rfl) rfl) fun W20 hS21 => ?_
 refine sqv (ex_assign (v := .int .u64 (bI (decide (a < b)))) rfl) ?_
 show C _ _ _ _ _ _
 refine C_sr ?_
 refine sqv (ex_loads (vs := (el (subN a b))) rfl (hS21.at 0 rfl) ag40 rfl rfl) ?_
 refine sqv (ex_field (o' := 1) rfl fi117_1 rfl) ?_
 refine sqv (ex_loads (vs := (el (F.p))) rfl (hS21.at 4 rfl) ag40 rfl rfl) ?_
 refine sqc (exe_call (args := #[elV (subN a b), elV F.p]) en150 (args_of2 rfl rfl)) (c_lAdd (subN a b) F.p W20 (subN_lt _ _) (f_lt hF)) ?_
 rintro _ W22 ⟨rfl, hT24⟩
 have hS23 := hS21.call hT24
 refine sqv (ex_move (v := .tuple #[elV (addN (subN a b) F.p), .int .u64 (bI (decide (B256 ≤ (subN a b) + F.p)))]) rfl) ?_
 refine sqv (ex_extract (v := elV (addN (subN a b) F.p)) rfl rfl) ?_
 refine sqv (ex_extract (v := .int .u64 (bI (decide (B256 ≤ (subN a b) + F.p)))) rfl rfl) ?_
 refine sqE (st_alloc hS23 ze40) fun b26 W27 hS28 => ?_
 refine sqUE (st_stores (v := elV (addN (subN a b) F.p)) (cs' := (elA (addN (subN a b) F.p))) 0 hS28 rfl rfl rfl ag40 rfl (Nat.le_of_ble_eq_true rfl) (ones_of rfl) rfl) fun W29 hS30 => ?_
 refine sqv (ex_assign (v := .int .u64 (bI (decide (B256 ≤ (subN a b) + F.p)))) rfl) ?_
 show C _ _ _ _ _ _
 refine C_seq ?_
 refine C_draw (p := 5) (l := [(some 24, .int .u64 (bI (decide (a < b)))), (some 25, .int .u64 (mk (decide (a < b)))), (some 26, elV (addN (subN a b) F.p)), (some 27, elV (subN a b)), (some 28, elV (chN (decide (a < b)) (addN (subN a b) F.p) (subN a b)))]) (G := []) (J := fun w => St [] w0 w [some (b26, .cells (elA (addN (subN a b) F.p)) 40), some (b17, .cells (elA (subN a b)) 40), some (b10, .cells #[.int .u64 0, .int .u64 0, .int .u64 0, .int .u64 0] 49), some (b7, .cells (elA b) 49), some (b4, .cells (elA a) 49), some (b1, .cells (fdA F) 117)] []) mixed ?_ (hS30.draw _)
 refine node1 5 [] [] [] (by kernel_rfl) rfl rfl (nd rfl) rfl (by kernel_rfl) ?_ ?_ ?_
 ·intro S wd hSd
  refine ⟨n0 rfl rfl rfl (ex_move (v := .int .u64 (bI (decide (a < b)))) rfl) rfl hSd, ?_, n0 rfl rfl rfl (ex_loads (vs := (el (addN (subN a b) F.p))) rfl (hSd.at 0 rfl) ag40 rfl rfl) rfl hSd, n0 rfl rfl rfl (ex_loads (vs := (el (subN a b))) rfl (hSd.at 1 rfl) ag40 rfl rfl) rfl hSd, ?_, tt⟩
  ·refine needG rfl ?_
   rintro ⟨hq0, _⟩ hno
   refine dxC (wanted_none rfl) rfl (exe_call (args := #[.int .u64 (bI (decide (a < b)))]) en160 (args_of1 (evS hq0 rfl rfl))) (c_FromBit_b (decide (a < b)) wd) ?_
   rintro _ W31 ⟨rfl, hT33⟩
   have hS32 := hSd.call hT33
   exact ⟨rfl, hS32⟩
  refine needG rfl ?_
  rintro ⟨hq1, hq2, hq3, hq1, _⟩ hno
  refine dxC (wanted_none rfl) rfl (exe_call (args := #[.int .u64 (mk (decide (a < b))), elV (addN (subN a b) F.p), elV (subN a b)]) en159 (args_of3 (evS hq1 rfl rfl) (evS hq2 rfl rfl) (evS hq3 rfl rfl))) (c_lChoose (decide (a < b)) (addN (subN a b) F.p) (subN a b) wd) ?_
  rintro _ W35 ⟨rfl, hT37⟩
  have hS36 := hSd.call hT37
  exact ⟨rfl, hS36⟩
 ·exact fun S wd hSd => ⟨True.intro, True.intro, True.intro, True.intro, True.intro, True.intro⟩
 intro _ W39 hS40
 refine sqUE (st_stores (v := elV (chN (decide (a < b)) (addN (subN a b) F.p) (subN a b))) (cs' := (elA (chN (decide (a < b)) (addN (subN a b) F.p) (subN a b)))) 2 hS40 rfl rfl rfl ag49 rfl (Nat.le_of_ble_eq_true rfl) (ones_of rfl) rfl) fun W41 hS42 => ?_
 show C _ _ _ _ _ _
 refine C_ret ?_
 refine done_1 (v := elV (chN (decide (a < b)) (addN (subN a b) F.p) (subN a b))) rfl (res_row rfl (hS42.at 2 rfl) ag49 rfl) ?_
 exact ⟨by rw [fSub_eq hF g1 g2], hS42.none⟩
end Go.Proofs
end
