/- AuditEvents holds: the events that the audit records are those of the reference, for all arguments that the statement admits, with no further condition. Part 7 of 12. -/
import Derived.Test.YtfhpmpmmckkgbaaGreatDoorE6
set_option linter.unusedVariables false
set_option linter.unusedSimpArgs false
set_option linter.unusedSectionVars false
section
set_option linter.unusedVariables false
set_option linter.unusedSimpArgs false
set_option maxRecDepth 20000
set_option maxHeartbeats 2000000
namespace Go.Proofs
open Sc
theorem ag46 : aggOf Tryz.prog 46 = some 5 := by kernel_rfl
theorem en132 : enters Tryz.prog 132 = true := by kernel_rfl
theorem fi46_2 : fieldOf Tryz.prog 46 2 = some 2 := by kernel_rfl
theorem fi46_4 : fieldOf Tryz.prog 46 4 = some 4 := by kernel_rfl
theorem sl22 : sliceOf Tryz.prog 22 = some (46, 5, 56) := by kernel_rfl
theorem ze3 : zeroOf Tryz.prog 3 = some #[.int .i64 0] := by kernel_rfl
theorem ze46 : zeroOf Tryz.prog 46 = some #[.int .i64 0, .int .i64 0, .int .i64 0, .int .i64 0, .slice none 0 0] := by kernel_rfl
theorem c_Indices  (s : Value) (l : List Sh) (Z0 : List Fact) (w0 : World) (g0 : l.length < 1000000) (hZ0 : Holds w0 Z0) (hs_s : Shs Z0 46 49 s l) : Calls Tryz.prog 74 #[s] w0 (Ret fun uu w' => ∃ (v : Value), ∃ (en : Ent), uu = v ∧ (Own 3 1 cI v (idxL l) en) ∧ St [] w0 w' [en] []) := by
 refine calls_of Tryz.func74 rfl Tryz.ntmps74 (Nat.le_of_ble_eq_true rfl) ?_
 have hS0 := St.nil w0
 refine C_sr ?_
 refine sqv (ex_assign (v := .slice none 0 0) rfl) ?_
 show C _ _ _ _ _ _
 refine C_sr ?_
 refine sqv (ex_assign (v := .slice none 0 0) rfl) ?_
 show C _ _ _ _ _ _
 refine C_seq ?_
 refine C_sr ?_
 refine sqv (ex_move (v := s) rfl) ?_
 refine sqv (ex_lenO (f := cS) (k := 5) (r := (l.length : Int)) (fun _ => rfl) (by decide) ((hs_s).1) rfl sl22 rfl) ?_
 refine sqv (ex_move (v := .int .i64 0) rfl) ?_
 show C _ _ _ _ _ _
 refine C_block ?_
 have hS1 := St.non hS0
 refine C_loop (fun nn aa ww => ∃ (m0 : Nat → Value) (k : Nat) (v : Value) (en : Ent) (o : List Int), nn = l.length - k ∧ aa = act 19 (upds m0 [(2, .slice none 0 0), (3, v), (6, s), (7, .int .i64 (l.length : Int)), (8, .int .i64 (k : Int))]) [] ∧ St [] w0 ww [en] [] ∧ (k ≤ l.length) ∧ (Own 3 1 cI v o en) ∧ (o = (l.take k).map (·.i)) ∧ (o.length = k)) l.length ?_ ?_
 ·exact ⟨_, 0, (.slice none 0 0), none, [], rfl, act_upds ⟨rfl, rfl, rfl, (congrArg (Value.int .i64) (by first | rfl | omega)), (congrArg (Value.int .i64) (by first | rfl | omega)), trivial⟩, (St.pick (L := [none]) hS1 [0] (by decide)), (Nat.zero_le _), (Own.nil _ _ _), rfl, rfl⟩
 rintro n5 a6 W3 ⟨m2, k, v, en, o, rfl, rfl, hS4, hk, hO, ho, hol⟩
 refine C_sr ?_
 refine sqv (ex_cmp (x := (k : Int)) (y := (l.length : Int)) (r := decide ((k : Int) < (l.length : Int))) rfl rfl rfl) ?_
 show C _ _ _ _ _ _
 refine C_seq ?_
 refine C_dec ((k : Int) < (l.length : Int)) rfl (fun hc7 => ?_) (fun hc7 => ?_)
 ·refine C_skip ?_
  show C _ _ _ _ _ _
  refine C_seq ?_
  refine C_block ?_
  refine C_sr ?_
  obtain ⟨y8, hy9⟩ := get_lt l k (by first | omega | (simp only [List.length_set, List.length_replicate, List.length_append, List.length_take, List.length_drop, List.length_cons, List.length_nil, List.length_map]; omega))
  obtain ⟨b10, o11, hI12, hC13⟩ := sl_at (f := cS) (k := 5) (fun _ => rfl) (by decide) ((hs_s).1) hy9
  refine sqv (ex_sindexO hI12 rfl rfl sl22 rfl) ?_
  refine sqv (ex_loadsC (r := 0) (vs := [.int .i64 y8.f, .int .i64 y8.t, .int .i64 y8.i, .int .i64 y8.n, y8.v]) hC13 (hS4.holds0 hZ0) rfl ag46 rfl rfl rfl) ?_
  refine sqE (st_alloc hS4 ze46) fun b14 W15 hS16 => ?_
  refine sqUE (st_stores (v := .agg #[.int .i64 y8.f, .int .i64 y8.t, .int .i64 y8.i, .int .i64 y8.n, y8.v]) (cs' := #[.int .i64 y8.f, .int .i64 y8.t, .int .i64 y8.i, .int .i64 y8.n, y8.v]) 0 hS16 rfl rfl rfl ag46 rfl (Nat.le_of_ble_eq_true rfl) (ones_cons rfl (ones_cons rfl (ones_cons rfl (ones_cons rfl (ones_cons (sl_1 ((hs_s).2 y8 (List.mem_of_getElem? hy9))).2 ones_nil))))) rfl) fun W17 hS18 => ?_
  show C _ _ _ _ _ _
  refine C_region ?_
  refine sqv (ex_move (v := v) rfl) ?_
  refine sqv (ex_field (o' := 2) rfl fi46_2 rfl) ?_
  refine sqv (ex_load (v := .int .i64 y8.i) rfl (hS18.at 0 rfl) on3 rfl) ?_
  refine sqE (st_bslice (vs := [.int .i64 y8.i]) hS18 sl25 ze3 rfl (by simp [Value.cells]) rfl (by decide)) fun b19 W20 hS21 => ?_
  refine sqA (st_appendM (f := cI) (k := 1) (xs := o) (ys := [y8.i]) (fun _ => rfl) (fun _ => ones_of rfl) (by decide) 2 hS21 (hO) ((sl_row (f := cI) (k := 1) (t := 3) (b := b19) (n := 1) (cs := #[.int .i64 y8.i]) (ys := [y8.i]) (fun _ => rfl) rfl (Nat.le_of_ble_eq_true rfl) rfl)) (hS21.entH 0 rfl) rfl rfl rfl sl25 ze3 rfl (by simp only [List.length_append, List.length_cons, List.length_nil, maxLen]; omega) (by simp only [List.length_append, List.length_cons, List.length_nil, maxLen]; omega)) fun u22 en23 W24 ⟨hS25, ho26⟩ => ?_
  refine sqv (ex_assign (v := u22) rfl) ?_
  refine blk_normal ?_
  show C _ _ _ _ _ _
  refine C_region ?_
  refine nm ((k : Int) + 1) fun x27 hx27 => ?_
  refine sqv (ex_add (x := (k : Int)) (y := 1) rfl rfl (w64 hx27 (by omega))) ?_
  refine sqv (ex_move (v := .int .i64 x27) rfl) ?_
  exact ⟨_, (by omega), ⟨_, (k + 1), u22, en23, (o ++ ([y8.i])), rfl, act_upds ⟨rfl, rfl, rfl, (congrArg (Value.int .i64) (by first | rfl | omega)), (congrArg (Value.int .i64) (by first | rfl | omega)), trivial⟩, (St.pick (L := [some (b19, .cells #[.int .i64 y8.i] 3), some (b14, .cells #[.int .i64 y8.f, .int .i64 y8.t, .int .i64 y8.i, .int .i64 y8.n, y8.v] 46), en23]) hS25 [2] (by decide)), (by omega), ho26, (by rw [take_snoc hy9, List.map_append, ho]; rfl), (by simp [hol])⟩⟩
 refine C_exit ?_
 refine thn_exit ?_
 refine thn_exit ?_
 refine blk_exit ?_
 show C _ _ _ _ _ _
 refine C_sr ?_
 refine sqv (ex_move (v := v) rfl) ?_
 refine sqv (ex_assign (v := v) rfl) ?_
 show C _ _ _ _ _ _
 refine C_ret ?_
 refine done_1 (v := v) rfl rfl ?_
 obtain rfl : k = l.length := by omega
 have ho' : o = idxL l := by rw [ho, List.take_length]; rfl
 exact ⟨_, _, rfl, by rw [← ho']; exact hO, (St.pick (L := [en]) hS4 [0] (by decide))⟩
theorem c_Column (c : Int) (s : Value) (l : List Sh) (Z0 : List Fact) (w0 : World) (g0 : l.length < 1000000) (g1 : 0 ≤ c) (g2 : ∀ s ∈ l, c < s.p.length) (hZ0 : Holds w0 Z0) (hs_s : Shs Z0 46 49 s l) : Calls Tryz.prog 106 #[s, .int .i64 c] w0 (Ret fun uu w' => ∃ (v : Value), ∃ (en : Ent), uu = v ∧ (Own 49 4 el v (colL l (c).toNat) en) ∧ St [] w0 w' [en] []) := by
 have hpl : ∀ s ∈ l, (s.p.length : Int) ≤ 9223372036854775807 := fun s h => sl_lt (f := el) (k := 4) (fun _ => rfl) (by decide) (hs_s.2 s h)
 refine calls_of Tryz.func106 rfl Tryz.ntmps106 (Nat.le_of_ble_eq_true rfl) ?_
 have hS0 := St.nil w0
 refine C_sr ?_
 refine sqv (ex_assign (v := .slice none 0 0) rfl) ?_
 show C _ _ _ _ _ _
 refine C_sr ?_
 refine sqv (ex_move (v := s) rfl) ?_
 refine sqv (ex_lenO (f := cS) (k := 5) (r := (l.length : Int)) (fun _ => rfl) (by decide) ((hs_s).1) rfl sl22 rfl) ?_
 refine sqE (st_makeM (f := el) (k := 4) 0 l.length hS0 sl44 ze49 (by rfl) rfl (by decide) rfl rfl rfl (by omega) (by omega)) fun b1 W2 hS3 => ?_
 refine sqv (ex_assign (v := .slice (so b1) l.length l.length) rfl) ?_
 show C _ _ _ _ _ _
 refine C_seq ?_
 refine C_sr ?_
 refine sqv (ex_move (v := s) rfl) ?_
 refine sqv (ex_lenO (f := cS) (k := 5) (r := (l.length : Int)) (fun _ => rfl) (by decide) ((hs_s).1) rfl sl22 rfl) ?_
 refine sqv (ex_move (v := .int .i64 0) rfl) ?_
 show C _ _ _ _ _ _
 refine C_block ?_
 refine C_loop (fun nn aa ww => ∃ (m0 : Nat → Value) (k : Nat) (o : List Nat), nn = l.length - k ∧ aa = act 34 (upds m0 [(1, .int .i64 c), (4, .slice none 0 0), (5, .slice (so b1) l.length l.length), (11, s), (12, .int .i64 (l.length : Int)), (13, .int .i64 (k : Int))]) [] ∧ St [] w0 ww [some (b1, .cells (o.flatMap el).toArray 49)] [] ∧ (k ≤ l.length) ∧ (o.length = l.length) ∧ (∀ j, j < k → o[j]? = (l.map fun s : Sh => s.p.getD c.toNat 0)[j]?)) l.length ?_ ?_
 ·exact ⟨_, 0, (List.replicate l.length 0), rfl, act_upds ⟨(congrArg (Value.int .i64) (by first | rfl | omega)), rfl, rfl, rfl, (congrArg (Value.int .i64) (by first | rfl | omega)), (congrArg (Value.int .i64) (by first | rfl | omega)), trivial⟩, (St.pick (L := [some (b1, .cells ((List.replicate l.length 0).flatMap el).toArray 49)]) hS3 [0] (by decide)), (Nat.zero_le _), (by simp), (fun j h => absurd h (by omega))⟩
 rintro n7 a8 W5 ⟨m4, k, o, rfl, rfl, hS6, hk, hol, ho⟩
 refine C_sr ?_
 refine sqv (ex_cmp (x := (k : Int)) (y := (l.length : Int)) (r := decide ((k : Int) < (l.length : Int))) rfl rfl rfl) ?_
 show C _ _ _ _ _ _
 refine C_seq ?_
 refine C_dec ((k : Int) < (l.length : Int)) rfl (fun hc9 => ?_) (fun hc9 => ?_)
 ·refine C_skip ?_
  show C _ _ _ _ _ _
  refine C_seq ?_
  refine C_block ?_
  refine C_sr ?_
  refine sqv (ex_move (v := .int .i64 (k : Int)) rfl) ?_
  obtain ⟨y10, hy11⟩ := get_lt l k (by first | omega | (simp only [List.length_set, List.length_replicate, List.length_append, List.length_take, List.length_drop, List.length_cons, List.length_nil, List.length_map]; omega))
  have hky10 := g2 y10 (List.mem_of_getElem? hy11)
  have hqy10 := hpl y10 (List.mem_of_getElem? hy11)
  obtain ⟨b12, o13, hI14, hC15⟩ := sl_at (f := cS) (k := 5) (fun _ => rfl) (by decide) ((hs_s).1) hy11
  refine sqv (ex_sindexO hI14 rfl rfl sl22 rfl) ?_
  refine sqv (ex_loadsC (r := 0) (vs := [.int .i64 y10.f, .int .i64 y10.t, .int .i64 y10.i, .int .i64 y10.n, y10.v]) hC15 (hS6.holds0 hZ0) rfl ag46 rfl rfl rfl) ?_
  refine sqE (st_alloc hS6 ze46) fun b16 W17 hS18 => ?_
  refine sqv (ex_assign (v := .int .i64 (k : Int)) rfl) ?_
  refine sqUE (st_stores (v := .agg #[.int .i64 y10.f, .int .i64 y10.t, .int .i64 y10.i, .int .i64 y10.n, y10.v]) (cs' := #[.int .i64 y10.f, .int .i64 y10.t, .int .i64 y10.i, .int .i64 y10.n, y10.v]) 0 hS18 rfl rfl rfl ag46 rfl (Nat.le_of_ble_eq_true rfl) (ones_cons rfl (ones_cons rfl (ones_cons rfl (ones_cons rfl (ones_cons (sl_1 ((hs_s).2 y10 (List.mem_of_getElem? hy11))).2 ones_nil))))) rfl) fun W19 hS20 => ?_
  show C _ _ _ _ _ _
  refine C_sr ?_
  refine sqv (ex_move (v := .int .i64 c) rfl) ?_
  refine sqv (ex_field (o' := 4) rfl fi46_4 rfl) ?_
  refine sqv (ex_load (v := y10.v) rfl (hS20.at 0 rfl) on44 rfl) ?_
  refine sqv (ex_lenO (f := el) (k := 4) (r := (y10.p.length : Int)) (fun _ => rfl) (by decide) ((hs_s).2 y10 (List.mem_of_getElem? hy11)) rfl sl44 rfl) ?_
  refine nm ((y10.p.length : Int) - 1) fun x21 hx21 => ?_
  refine sqv (ex_sub (x := (y10.p.length : Int)) (y := 1) rfl rfl (w64 hx21 (by omega))) ?_
  refine sqc (exe_call (args := #[.int .i64 c, .int .i64 0, .int .i64 x21]) en132 (args_of3 rfl rfl rfl)) (c_between c 0 x21 W19) ?_
  rintro _ W22 ⟨rfl, hT24⟩
  have hS23 := hS20.call hT24
  rw [show (decide (0 ≤ c) && decide (c ≤ x21)) = true from by simp; omega]
  show C _ _ _ _ _ _
  refine C_true rfl ?_
  refine C_region ?_
  refine sqv (ex_move (v := .slice (so b1) l.length l.length) rfl) ?_
  refine sqv (ex_move (v := .int .i64 (k : Int)) rfl) ?_
  refine sqv (ex_field (o' := 4) rfl fi46_4 rfl) ?_
  refine sqv (ex_load (v := y10.v) rfl (hS23.at 0 rfl) on44 rfl) ?_
  refine sqv (ex_move (v := .int .i64 c) rfl) ?_
  obtain ⟨j26, hj27⟩ := ex_nat c (by omega)
  obtain ⟨y28, hy29⟩ := get_lt y10.p j26 (by first | omega | (simp only [List.length_set, List.length_replicate, List.length_append, List.length_take, List.length_drop, List.length_cons, List.length_nil, List.length_map]; omega))
  obtain ⟨b30, o31, hI32, hC33⟩ := sl_at (f := el) (k := 4) (fun _ => rfl) (by decide) ((hs_s).2 y10 (List.mem_of_getElem? hy11)) hy29
  refine sqv (ex_sindexO hI32 rfl rfl sl44 (by omega)) ?_
  refine sqv (ex_loadsC (r := 0) (vs := (el y28)) hC33 (hS23.holds0 hZ0) rfl ag49 rfl rfl rfl) ?_
  refine sqv (ex_sindex (j := (k : Int)) (o' := k * 4) rfl rfl sl44 (by omega) (by omega) (by omega)) ?_
  refine sqUE (st_storesM (f := el) (k := 4) (z := y28) (i' := k) (fun _ => rfl) 1 hS23 rfl rfl rfl ag49 rfl (by first | omega | (simp only [List.length_set, List.length_replicate, List.length_append, List.length_take, List.length_drop]; omega)) rfl (ones_of rfl)) fun W34 hS35 => ?_
  refine blk_normal ?_
  show C _ _ _ _ _ _
  refine C_region ?_
  refine nm ((k : Int) + 1) fun x36 hx36 => ?_
  refine sqv (ex_add (x := (k : Int)) (y := 1) rfl rfl (w64 hx36 (by omega))) ?_
  refine sqv (ex_move (v := .int .i64 x36) rfl) ?_
  have hst := set_map (f := fun s : Sh => s.p.getD c.toNat 0) hy11 hol ho
  rw [show y10.p.getD c.toNat 0 = y28 from by rw [show c.toNat = j26 from by omega]; exact getD_some hy29] at hst
  exact ⟨_, (by omega), ⟨_, (k + 1), (o.set k y28), rfl, act_upds ⟨(congrArg (Value.int .i64) (by first | rfl | omega)), rfl, rfl, rfl, (congrArg (Value.int .i64) (by first | rfl | omega)), (congrArg (Value.int .i64) (by first | rfl | omega)), trivial⟩, (St.pick (L := [some (b16, .cells #[.int .i64 y10.f, .int .i64 y10.t, .int .i64 y10.i, .int .i64 y10.n, y10.v] 46), some (b1, .cells ((o.set k y28).flatMap el).toArray 49)]) hS35 [1] (by decide)), (by omega), (by rw [List.length_set]; exact hol), hst⟩⟩
 refine C_exit ?_
 refine thn_exit ?_
 refine thn_exit ?_
 refine blk_exit ?_
 show C _ _ _ _ _ _
 refine C_sr ?_
 refine sqv (ex_move (v := .slice (so b1) l.length l.length) rfl) ?_
 refine sqv (ex_assign (v := .slice (so b1) l.length l.length) rfl) ?_
 show C _ _ _ _ _ _
 refine C_ret ?_
 refine done_1 (v := .slice (so b1) l.length l.length) rfl rfl ?_
 obtain rfl : k = l.length := by omega
 exact ⟨_, _, rfl, by rw [show colL l c.toNat = o from (ext_map hol (fun j hj => ho j (by omega))).symm]; exact Own.of (fun _ => rfl) (by rw [hol]) rfl (by simp only [maxLen]; omega), (St.pick (L := [some (b1, .cells (o.flatMap el).toArray 49)]) hS6 [0] (by decide))⟩
end Go.Proofs
end
section
set_option linter.unusedVariables false
set_option linter.unusedSimpArgs false
set_option maxRecDepth 20000
set_option maxHeartbeats 2000000
namespace Go.Proofs
open Sc
end Go.Proofs
end
section
set_option linter.unusedVariables false
set_option linter.unusedSimpArgs false
set_option maxRecDepth 20000
set_option maxHeartbeats 2000000
namespace Go.Proofs
open Sc
theorem ao49 : arrOne Tryz.prog 49 = some 4 := by kernel_rfl
theorem c_Below (K : Int) (c : Value) (cs : List Nat) (Z0 : List Fact) (t : Value) (ev : List Ev) (Lt : List Ent) (w0 : World) (g0 : 0 ≤ K) (g1 : ∀ y ∈ cs, y < B256) (g2 : ev.length + cs.length < 1099511627776) (hZ0 : Holds w0 Z0) (hO0 : Off (bks Lt) Z0) (hs_c : Sl Z0 49 4 c (cs.flatMap el)) (hT : Tp t ev Lt) (hL0 : St (bks Lt) w0 w0 Lt []) : Calls Tryz.prog 138 #[t, c, .int .i64 K] w0 (Ret fun uu w' => ∃ (Lt' : List Ent), uu = .int .u64 (mk (((cs).drop (K).toNat).all fun y => decide (y = 0))) ∧ Tp t (ev ++ (bel K (cs).length)) Lt' ∧ St (bks Lt) w0 w' ([] ++ Lt') []) := by
 have hlen := sl_lt (f := el) (k := 4) (fun _ => rfl) (by decide) hs_c
 refine calls_of Tryz.func138 rfl Tryz.ntmps138 (Nat.le_of_ble_eq_true rfl) ?_
 have hS0 := hL0
 refine C_sr ?_
 refine sqv (ex_assign (v := .int .u64 0) rfl) ?_
 show C _ _ _ _ _ _
 refine C_sr ?_
 refine sqv (ex_assign (v := .int .u64 0) rfl) ?_
 show C _ _ _ _ _ _
 refine C_seq ?_
 refine C_sr ?_
 refine sqv (ex_move (v := c) rfl) ?_
 refine sqv (ex_lenO (f := el) (k := 4) (r := (cs.length : Int)) (fun _ => rfl) (by decide) (hs_c) rfl sl44 rfl) ?_
 refine sqv (ex_move (v := .int .i64 0) rfl) ?_
 show C _ _ _ _ _ _
 refine C_block ?_
 refine C_loop (fun nn aa ww => ∃ (m0 : Nat → Value) (k : Nat) (u : Int) (Lu : List Ent), nn = cs.length - k ∧ aa = act 37 (upds m0 [(0, t), (1, c), (2, .int .i64 K), (6, .int .u64 0), (7, .int .u64 u), (12, .int .i64 (cs.length : Int)), (13, .int .i64 (k : Int))]) [] ∧ St (bks Lt) w0 ww ([] ++ Lu) [] ∧ (k ≤ cs.length) ∧ (0 ≤ u ∧ u < 18446744073709551616) ∧ (u = 0 ↔ allZ K cs k) ∧ (Tp t (ev ++ bel K k) Lu)) cs.length ?_ ?_
 ·exact ⟨_, 0, 0, Lt, rfl, act_upds ⟨rfl, rfl, (congrArg (Value.int .i64) (by first | rfl | omega)), (congrArg (Value.int .u64) (by first | rfl | omega)), (congrArg (Value.int .u64) (by first | rfl | omega)), (congrArg (Value.int .i64) (by first | rfl | omega)), (congrArg (Value.int .i64) (by first | rfl | omega)), trivial⟩, (St.pickB (Lf := []) hS0 [] (by decide) rfl), (Nat.zero_le _), (by decide), (by simp [allZ]), (by rw [show bel K 0 = [] from rfl, List.append_nil]; exact hT)⟩
 rintro n4 a5 W2 ⟨m1, k, u, Lu, rfl, rfl, hS3, hk, hu, hz, hUu⟩
 refine C_sr ?_
 refine sqv (ex_cmp (x := (k : Int)) (y := (cs.length : Int)) (r := decide ((k : Int) < (cs.length : Int))) rfl rfl rfl) ?_
 show C _ _ _ _ _ _
 refine C_seq ?_
 refine C_dec ((k : Int) < (cs.length : Int)) rfl (fun hc6 => ?_) (fun hc6 => ?_)
 ·refine C_skip ?_
  show C _ _ _ _ _ _
  refine C_seq ?_
  refine C_block ?_
  refine C_sr ?_
  refine sqv (ex_move (v := .int .i64 (k : Int)) rfl) ?_
  refine sqv (ex_assign (v := .int .i64 (k : Int)) rfl) ?_
  show C _ _ _ _ _ _
  refine C_seq ?_
  refine C_sr ?_
  refine sqv (ex_move (v := .int .i64 (k : Int)) rfl) ?_
  refine sqv (ex_move (v := .int .i64 K) rfl) ?_
  refine sqv (ex_cmp (x := (k : Int)) (y := K) (r := decide ((k : Int) < K)) rfl rfl rfl) ?_
  show C _ _ _ _ _ _
  refine C_dec ((k : Int) < K) rfl (fun hc7 => ?_) (fun hc7 => ?_)
  ·refine C_exit ?_
   refine thn_exit ?_
   refine blk_exit ?_
   show C _ _ _ _ _ _
   refine C_region ?_
   refine nm ((k : Int) + 1) fun x8 hx8 => ?_
   refine sqv (ex_add (x := (k : Int)) (y := 1) rfl rfl (w64 hx8 (by omega))) ?_
   refine sqv (ex_move (v := .int .i64 x8) rfl) ?_
   exact ⟨_, (by omega), ⟨_, (k + 1), u, Lu, rfl, act_upds ⟨rfl, rfl, (congrArg (Value.int .i64) (by first | rfl | omega)), (congrArg (Value.int .u64) (by first | rfl | omega)), (congrArg (Value.int .u64) (by first | rfl | omega)), (congrArg (Value.int .i64) (by first | rfl | omega)), (congrArg (Value.int .i64) (by first | rfl | omega)), trivial⟩, (St.pickB (Lf := []) hS3 [] (by decide) rfl), (by omega), hu, (hz.trans (allZ_skip (by omega))), (by rw [bel]; first | (rw [if_pos (by omega), ← List.append_assoc]; exact hUu) | (rw [if_neg (by omega), List.append_nil]; exact hUu))⟩⟩
  refine C_skip ?_
  show C _ _ _ _ _ _
  refine C_sr ?_
  refine sqv (ex_move (v := t) rfl) ?_
  refine sqv (ex_move (v := .int .i64 (k : Int)) rfl) ?_
  refine sqc (exe_call (args := #[t, .int .i64 2, .int .i64 (k : Int), .int .i64 0]) en52 (args_of4 rfl rfl rfl rfl)) (c_Note 2 (k : Int) 0 t (ev ++ bel K k) Lu W2 (by have hb := bel_len K k; rw [List.length_append]; omega) hUu (St.lend (Lf := []) hS3)) ?_
  rintro _ W9 ⟨Lt13, rfl, hU14, hT11⟩
  have hS10 := St.callS (Lf := []) (Ln := []) hS3 hT11
  show C _ _ _ _ _ _
  refine C_sr ?_
  refine sqv (ex_move (v := c) rfl) ?_
  refine sqv (ex_move (v := .int .i64 (k : Int)) rfl) ?_
  obtain ⟨y15, hy16⟩ := get_lt cs k (by first | omega | (simp only [List.length_set, List.length_replicate, List.length_append, List.length_take, List.length_drop, List.length_cons, List.length_nil, List.length_map]; omega))
  have hky15 := g1 y15 (List.mem_of_getElem? hy16)
  obtain ⟨b17, o18, hI19, hC20⟩ := sl_at (f := el) (k := 4) (fun _ => rfl) (by decide) (hs_c) hy16
  refine sqv (ex_sindexO hI19 rfl rfl sl44 rfl) ?_
  refine sqv (ex_loadsC (r := 0) (vs := (el y15)) hC20 (hS10.holdsA hZ0 hO0) rfl ag49 rfl rfl rfl) ?_
  refine sqv (ex_move (v := .int .i64 0) rfl) ?_
  show C _ _ _ _ _ _
  refine C_block ?_
  refine C_unroll 5 ?_
  show C _ _ _ _ _ _
  refine C_sr ?_
  refine sqv (ex_cmp (x := 0) (y := 4) (r := true) rfl rfl rfl) ?_
  show C _ _ _ _ _ _
  refine C_seq ?_
  refine C_true rfl ?_
  refine C_skip ?_
  show C _ _ _ _ _ _
  refine C_seq ?_
  refine C_block ?_
  refine C_sr ?_
  refine sqv (ex_index1 (j := 0) (v := .int .u64 (limb y15 0)) ao49 rfl rfl rfl rfl) ?_
  refine sqv (ex_assign (v := .int .u64 (limb y15 0)) rfl) ?_
  show C _ _ _ _ _ _
  refine C_region ?_
  refine sqv (ex_move (v := .int .u64 u) rfl) ?_
  refine sqv (ex_move (v := .int .u64 (limb y15 0)) rfl) ?_
  refine nm (bitv .or .u64 u (limb y15 0)) fun x21 hx21 => ?_
  refine sqv (ex_bit (x := u) (y := (limb y15 0)) rfl rfl hx21) ?_
  refine sqv (ex_assign (v := .int .u64 x21) rfl) ?_
  refine blk_normal ?_
  show C _ _ _ _ _ _
  refine C_region ?_
  refine sqv (ex_add (x := 0) (y := 1) (r := 1) rfl rfl (by rfl)) ?_
  refine sqv (ex_move (v := .int .i64 1) rfl) ?_
  show C _ _ _ _ _ _
  refine C_sr ?_
  refine sqv (ex_cmp (x := 1) (y := 4) (r := true) rfl rfl rfl) ?_
  show C _ _ _ _ _ _
  refine C_seq ?_
  refine C_true rfl ?_
  refine C_skip ?_
  show C _ _ _ _ _ _
  refine C_seq ?_
  refine C_block ?_
  refine C_sr ?_
  refine sqv (ex_index1 (j := 1) (v := .int .u64 (limb y15 1)) ao49 rfl rfl rfl rfl) ?_
  refine sqv (ex_assign (v := .int .u64 (limb y15 1)) rfl) ?_
  show C _ _ _ _ _ _
  refine C_region ?_
  refine sqv (ex_move (v := .int .u64 x21) rfl) ?_
  refine sqv (ex_move (v := .int .u64 (limb y15 1)) rfl) ?_
  refine nm (bitv .or .u64 x21 (limb y15 1)) fun x22 hx22 => ?_
  refine sqv (ex_bit (x := x21) (y := (limb y15 1)) rfl rfl hx22) ?_
  refine sqv (ex_assign (v := .int .u64 x22) rfl) ?_
  refine blk_normal ?_
  show C _ _ _ _ _ _
  refine C_region ?_
  refine sqv (ex_add (x := 1) (y := 1) (r := 2) rfl rfl (by rfl)) ?_
  refine sqv (ex_move (v := .int .i64 2) rfl) ?_
  show C _ _ _ _ _ _
  refine C_sr ?_
  refine sqv (ex_cmp (x := 2) (y := 4) (r := true) rfl rfl rfl) ?_
  show C _ _ _ _ _ _
  refine C_seq ?_
  refine C_true rfl ?_
  refine C_skip ?_
  show C _ _ _ _ _ _
  refine C_seq ?_
  refine C_block ?_
  refine C_sr ?_
  refine sqv (ex_index1 (j := 2) (v := .int .u64 (limb y15 2)) ao49 rfl rfl rfl rfl) ?_
  refine sqv (ex_assign (v := .int .u64 (limb y15 2)) rfl) ?_
  show C _ _ _ _ _ _
  refine C_region ?_
  refine sqv (ex_move (v := .int .u64 x22) rfl) ?_
  refine sqv (ex_move (v := .int .u64 (limb y15 2)) rfl) ?_
  refine nm (bitv .or .u64 x22 (limb y15 2)) fun x23 hx23 => ?_
  refine sqv (ex_bit (x := x22) (y := (limb y15 2)) rfl rfl hx23) ?_
  refine sqv (ex_assign (v := .int .u64 x23) rfl) ?_
  refine blk_normal ?_
  show C _ _ _ _ _ _
  refine C_region ?_
  refine sqv (ex_add (x := 2) (y := 1) (r := 3) rfl rfl (by rfl)) ?_
  refine sqv (ex_move (v := .int .i64 3) rfl) ?_
  show C _ _ _ _ _ _
  refine C_sr ?_
  refine sqv (ex_cmp (x := 3) (y := 4) (r := true) rfl rfl rfl) ?_
  show C _ _ _ _ _ _
  refine C_seq ?_
  refine C_true rfl ?_
  refine C_skip ?_
  show C _ _ _ _ _ _
  refine C_seq ?_
  refine C_block ?_
  refine C_sr ?_
  refine sqv (ex_index1 (j := 3) (v := .int .u64 (limb y15 3)) ao49 rfl rfl rfl rfl) ?_
  refine sqv (ex_assign (v := .int .u64 (limb y15 3)) rfl) ?_
  show C _ _ _ _ _ _
  refine C_region ?_
  refine sqv (ex_move (v := .int .u64 x23) rfl) ?_
  refine sqv (ex_move (v := .int .u64 (limb y15 3)) rfl) ?_
  refine nm (bitv .or .u64 x23 (limb y15 3)) fun x24 hx24 => ?_
  refine sqv (ex_bit (x := x23) (y := (limb y15 3)) rfl rfl hx24) ?_
  refine sqv (ex_assign (v := .int .u64 x24) rfl) ?_
  refine blk_normal ?_
  show C _ _ _ _ _ _
  refine C_region ?_
  refine sqv (ex_add (x := 3) (y := 1) (r := 4) rfl rfl (by rfl)) ?_
  refine sqv (ex_move (v := .int .i64 4) rfl) ?_
  show C _ _ _ _ _ _
  refine C_sr ?_
  refine sqv (ex_cmp (x := 4) (y := 4) (r := false) rfl rfl rfl) ?_
  show C _ _ _ _ _ _
  refine C_seq ?_
  refine C_false rfl ?_
  refine C_exit ?_
  refine thn_exit ?_
  refine thn_exit ?_
  refine blk_exit ?_
  refine blk_normal ?_
  show C _ _ _ _ _ _
  refine C_region ?_
  refine nm ((k : Int) + 1) fun x25 hx25 => ?_
  refine sqv (ex_add (x := (k : Int)) (y := 1) rfl rfl (w64 hx25 (by omega))) ?_
  refine sqv (ex_move (v := .int .i64 x25) rfl) ?_
  have ho := or4_zero hky15 hu hx21 hx22 hx23 hx24
  exact ⟨_, (by omega), ⟨_, (k + 1), x24, Lt13, rfl, act_upds ⟨rfl, rfl, (congrArg (Value.int .i64) (by first | rfl | omega)), (congrArg (Value.int .u64) (by first | rfl | omega)), (congrArg (Value.int .u64) (by first | rfl | omega)), (congrArg (Value.int .i64) (by first | rfl | omega)), (congrArg (Value.int .i64) (by first | rfl | omega)), trivial⟩, (St.pickB (Lf := []) hS10 [] (by decide) rfl), (by omega), ho.1, (ho.2.trans ((and_congr_left fun _ => hz).trans (allZ_step (by omega) hy16))), (by rw [bel]; first | (rw [if_pos (by omega), ← List.append_assoc]; exact hU14) | (rw [if_neg (by omega), List.append_nil]; exact hU14))⟩⟩
 refine C_exit ?_
 refine thn_exit ?_
 refine thn_exit ?_
 refine blk_exit ?_
 show C _ _ _ _ _ _
 refine C_sr ?_
 refine sqv (ex_move (v := .int .u64 u) rfl) ?_
 refine sqE (st_bslice (vs := [.int .u64 u]) hS3 sl100 ze39 rfl (by simp [Value.cells]) rfl (by decide)) fun b26 W27 hS28 => ?_
 refine sqc (exe_call (args := #[.slice (so b26) 1 1]) en153 (args_of1 rfl)) (c_mIsZero (.slice (so b26) 1 1) ([u]) (entF (some (b26, .cells #[.int .u64 u] 39))) W27 (by intro y hy; simp at hy; subst hy; exact hu) (hS28.entH 0 rfl) ((sl_row (f := cU) (k := 1) (t := 39) (b := b26) (n := 1) (cs := #[.int .u64 u]) (ys := [u]) (fun _ => rfl) rfl (Nat.le_of_ble_eq_true rfl) rfl))) ?_
 rintro _ W29 ⟨rfl, hT31⟩
 have hS30 := hS28.call hT31
 refine sqv (ex_assign (v := .int .u64 (mk ((([u])).all fun y => decide (y = 0)))) rfl) ?_
 show C _ _ _ _ _ _
 refine C_ret ?_
 refine done_1 (v := .int .u64 (mk ((([u])).all fun y => decide (y = 0)))) rfl rfl ?_
 obtain rfl : k = cs.length := by omega
 exact ⟨_, by rw [below_close g0 hz], hUu, (St.pickB (Lf := [some (b26, .cells #[.int .u64 u] 39)]) hS30 [] (by decide) rfl).less (fun _ h => absurd h (by simp))⟩
end Go.Proofs
end
section
set_option linter.unusedVariables false
set_option linter.unusedSimpArgs false
set_option maxRecDepth 20000
set_option maxHeartbeats 2000000
namespace Go.Proofs
open Sc
theorem mp204 : mapOf Tryz.prog 204 = true := by kernel_rfl
def keysOf (xs : List Int) : List Int := xs.foldl addKey []
theorem keysOf_snoc (xs : List Int) (x : Int) : keysOf (xs ++ [x]) = addKey (keysOf xs) x := by unfold keysOf; rw [List.foldl_append]; rfl
def okIdx (xs : List Int) : Prop := ∀ x ∈ xs, 1 ≤ x ∧ x ≤ 255
theorem okIdx_snoc {xs : List Int} {k : Nat} {y : Int} (h : okIdx (xs.take k)) (hy : xs[k]? = some y) (hb : 1 ≤ y ∧ y ≤ 255) : okIdx (xs.take (k + 1)) := by
 rw [take_snoc hy]
 intro x hx
 rcases List.mem_append.1 hx with hx | hx
 ·exact h x hx
 simp at hx; rw [hx]; exact hb
def chkL (xs : List Int) : Int := if xs.all (fun x => decide (1 ≤ x) && decide (x ≤ 255)) then (if (keysOf xs).length < xs.length then 15 else 0) else 12
theorem chk_bad {xs : List Int} {k : Nat} {y : Int} (hy : xs[k]? = some y) (hb : y < 1 ∨ 255 < y) : chkL xs = 12 := by
 unfold chkL
 rw [if_neg]
 intro h
 have := List.all_eq_true.1 h y (List.mem_of_getElem? hy)
 simp at this
 omega
theorem okIdx_all {xs : List Int} (h : okIdx xs) : xs.all (fun x => decide (1 ≤ x) && decide (x ≤ 255)) = true := List.all_eq_true.2 fun x hx => by simpa using h x hx
theorem chk_dup {xs : List Int} (h : okIdx xs) (hl : (keysOf xs).length < xs.length) : chkL xs = 15 := by unfold chkL; rw [if_pos (okIdx_all h), if_pos hl]
theorem chk_ok {xs : List Int} (h : okIdx xs) (hl : ¬ (keysOf xs).length < xs.length) : chkL xs = 0 := by unfold chkL; rw [if_pos (okIdx_all h), if_neg hl]
theorem c_LCheck  (s : Value) (xs : List Int) (Z0 : List Fact) (w0 : World)  (hZ0 : Holds w0 Z0) (hs_s : Sl Z0 3 1 s (xs.flatMap cI)) : Calls Tryz.prog 123 #[s] w0 (Ret fun uu w' => uu = .int .i64 (chkL xs) ∧ St [] w0 w' [] []) := by
 have hlen := sl_lt (f := cI) (k := 1) (fun _ => rfl) (by decide) hs_s
 refine calls_of Tryz.func123 rfl Tryz.ntmps123 (Nat.le_of_ble_eq_true rfl) ?_
 have hS0 := St.nil w0
 refine C_sr ?_
 refine sqv (ex_assign (v := .int .i64 0) rfl) ?_
 show C _ _ _ _ _ _
 refine C_sr ?_
 refine sqE (st_makeMap hS0) fun b1 W2 hS3 => ?_
 refine sqv (ex_assign (v := .map (some b1)) rfl) ?_
 show C _ _ _ _ _ _
 refine C_seq ?_
 refine C_sr ?_
 refine sqv (ex_move (v := s) rfl) ?_
 refine sqv (ex_lenO (f := cI) (k := 1) (r := (xs.length : Int)) (fun _ => rfl) (by decide) (hs_s) rfl sl25 rfl) ?_
 refine sqv (ex_move (v := .int .i64 0) rfl) ?_
 show C _ _ _ _ _ _
 refine C_block ?_
 refine C_loop (fun nn aa ww => ∃ (m0 : Nat → Value) (k : Nat) (o : Obj) (ks : List Int), nn = xs.length - k ∧ aa = act 27 (upds m0 [(0, s), (3, .map (some b1)), (7, s), (8, .int .i64 (xs.length : Int)), (9, .int .i64 (k : Int))]) [] ∧ St [] w0 ww [some (b1, o)] [] ∧ (k ≤ xs.length) ∧ (IMap (fun v => v = .bool true) ks o) ∧ (ks = keysOf (xs.take k)) ∧ (okIdx (xs.take k))) xs.length ?_ ?_
 ·exact ⟨_, 0, (.map #[] 0), [], rfl, act_upds ⟨rfl, rfl, rfl, (congrArg (Value.int .i64) (by first | rfl | omega)), (congrArg (Value.int .i64) (by first | rfl | omega)), trivial⟩, (St.pick (L := [some (b1, .map #[] 0)]) hS3 [0] (by decide)), (Nat.zero_le _), (IMap.nil _), rfl, (fun x h => absurd h (by simp))⟩
 rintro n7 a8 W5 ⟨m4, k, o, ks, rfl, rfl, hS6, hk, hM, hks, hok⟩
 refine C_sr ?_
 refine sqv (ex_cmp (x := (k : Int)) (y := (xs.length : Int)) (r := decide ((k : Int) < (xs.length : Int))) rfl rfl rfl) ?_
 show C _ _ _ _ _ _
 refine C_seq ?_
 refine C_dec ((k : Int) < (xs.length : Int)) rfl (fun hc9 => ?_) (fun hc9 => ?_)
 ·refine C_skip ?_
  show C _ _ _ _ _ _
  refine C_seq ?_
  refine C_block ?_
  refine C_sr ?_
  obtain ⟨y10, hy11⟩ := get_lt xs k (by first | omega | (simp only [List.length_set, List.length_replicate, List.length_append, List.length_take, List.length_drop, List.length_cons, List.length_nil, List.length_map]; omega))
  obtain ⟨b12, o13, hI14, hC15⟩ := sl_at (f := cI) (k := 1) (fun _ => rfl) (by decide) (hs_s) hy11
  refine sqv (ex_sindexO hI14 rfl rfl sl25 rfl) ?_
  refine sqv (ex_loadC (r := 0) (u := .int .i64 y10) hC15 (hS6.holds0 hZ0) rfl on3 rfl rfl) ?_
  refine sqv (ex_assign (v := .int .i64 y10) rfl) ?_
  show C _ _ _ _ _ _
  refine C_seq ?_
  refine C_sr ?_
  refine sqv (ex_move (v := .int .i64 y10) rfl) ?_
  refine nm (decide (y10 < 1)) fun t16 ht16 => ?_
  refine sqv (ex_cmp (x := y10) (y := 1) rfl rfl ht16) ?_
  refine sqv (ex_move (v := .bool t16) rfl) ?_
  rcases bool_cases t16 with hb17 | hb17
  ·subst hb17
   have hb17 := of_decide_eq_true ht16.symm
   refine guard_no (b' := true) rfl rfl (by decide) ?_
   refine guard_no (b' := true) rfl rfl (by decide) ?_
   refine sqv (ex_pick (t := true) (v := .bool true) rfl rfl) ?_
   show C _ _ _ _ _ _
   refine C_true rfl ?_
   refine C_sr ?_
   refine sqv (ex_assign (v := .int .i64 12) rfl) ?_
   show C _ _ _ _ _ _
   refine C_ret ?_
   refine thn_ret ?_
   refine blk_ret ?_
   refine thn_ret ?_
   refine thn_ret ?_
   refine blk_ret ?_
   refine thn_ret ?_
   refine done_1 (v := .int .i64 12) rfl rfl ?_
   exact ⟨by rw [chk_bad hy11 (by omega)], (St.pick (L := [some (b1, o)]) hS6 [] (by decide))⟩
  subst hb17
  have hb17 := of_decide_eq_false ht16.symm
  refine guard_yes (b := false) rfl rfl ?_
  refine sqv (ex_move (v := .int .i64 y10) rfl) ?_
  refine guard_yes (b := false) rfl rfl ?_
  refine nm (decide (255 < y10)) fun t18 ht18 => ?_
  refine sqv (ex_cmp (x := y10) (y := 255) rfl rfl ht18) ?_
  refine sqv (ex_pick (t := false) (v := .bool t18) rfl rfl) ?_
  show C _ _ _ _ _ _
  refine C_if (t := t18) rfl (fun hc19 => ?_) (fun hc19 => ?_)
  ·have hc19' := of_decide_eq_true (ht18.symm.trans hc19)
   refine C_sr ?_
   refine sqv (ex_assign (v := .int .i64 12) rfl) ?_
   show C _ _ _ _ _ _
   refine C_ret ?_
   refine thn_ret ?_
   refine blk_ret ?_
   refine thn_ret ?_
   refine thn_ret ?_
   refine blk_ret ?_
   refine thn_ret ?_
   refine done_1 (v := .int .i64 12) rfl rfl ?_
   exact ⟨by rw [chk_bad hy11 (by omega)], (St.pick (L := [some (b1, o)]) hS6 [] (by decide))⟩
  have hc19' := of_decide_eq_false (ht18.symm.trans hc19)
  refine C_skip ?_
  show C _ _ _ _ _ _
  refine C_region ?_
  refine sqv (ex_move (v := .map (some b1)) rfl) ?_
  refine sqv (ex_move (v := .int .i64 y10) rfl) ?_
  refine sqUE (st_mapSet 0 hS6 rfl hM mp204 rfl rfl rfl rfl) fun W20 ⟨o22, hS21, hM23⟩ => ?_
  refine blk_normal ?_
  show C _ _ _ _ _ _
  refine C_region ?_
  refine nm ((k : Int) + 1) fun x24 hx24 => ?_
  refine sqv (ex_add (x := (k : Int)) (y := 1) rfl rfl (w64 hx24 (by omega))) ?_
  refine sqv (ex_move (v := .int .i64 x24) rfl) ?_
  exact ⟨_, (by omega), ⟨_, (k + 1), o22, (addKey ks y10), rfl, act_upds ⟨rfl, rfl, rfl, (congrArg (Value.int .i64) (by first | rfl | omega)), (congrArg (Value.int .i64) (by first | rfl | omega)), trivial⟩, (St.pick (L := [some (b1, o22)]) hS21 [0] (by decide)), (by omega), hM23, (by rw [take_snoc hy11, keysOf_snoc, hks]), (okIdx_snoc hok hy11 (by omega))⟩⟩
 refine C_exit ?_
 refine thn_exit ?_
 refine thn_exit ?_
 refine blk_exit ?_
 show C _ _ _ _ _ _
 refine C_seq ?_
 refine C_sr ?_
 refine sqv (ex_move (v := .map (some b1)) rfl) ?_
 refine sqv (ex_lenMap (r := (ks.length : Int)) 0 hS6 rfl hM mp204 rfl rfl) ?_
 refine sqv (ex_move (v := s) rfl) ?_
 refine sqv (ex_lenO (f := cI) (k := 1) (r := (xs.length : Int)) (fun _ => rfl) (by decide) (hs_s) rfl sl25 rfl) ?_
 refine sqv (ex_cmp (x := (ks.length : Int)) (y := (xs.length : Int)) (r := decide ((ks.length : Int) < (xs.length : Int))) rfl rfl rfl) ?_
 show C _ _ _ _ _ _
 refine C_dec ((ks.length : Int) < (xs.length : Int)) rfl (fun hc25 => ?_) (fun hc25 => ?_)
 ·refine C_sr ?_
  refine sqv (ex_assign (v := .int .i64 15) rfl) ?_
  show C _ _ _ _ _ _
  refine C_ret ?_
  refine thn_ret ?_
  refine done_1 (v := .int .i64 15) rfl rfl ?_
  obtain rfl : k = xs.length := by omega
  rw [List.take_length] at hks hok
  exact ⟨by rw [chk_dup hok (by rw [← hks]; omega)], (St.pick (L := [some (b1, o)]) hS6 [] (by decide))⟩
 refine C_skip ?_
 show C _ _ _ _ _ _
 refine C_sr ?_
 refine sqv (ex_assign (v := .int .i64 0) rfl) ?_
 show C _ _ _ _ _ _
 refine C_ret ?_
 refine done_1 (v := .int .i64 0) rfl rfl ?_
 obtain rfl : k = xs.length := by omega
 rw [List.take_length] at hks hok
 exact ⟨by rw [chk_ok hok (by rw [← hks]; omega)], (St.pick (L := [some (b1, o)]) hS6 [] (by decide))⟩
end Go.Proofs
end
section
set_option linter.unusedVariables false
set_option linter.unusedSimpArgs false
set_option maxRecDepth 20000
set_option maxHeartbeats 2000000
namespace Go.Proofs
open Sc
theorem en113 : enters Tryz.prog 113 = true := by kernel_rfl
theorem en123 : enters Tryz.prog 123 = true := by kernel_rfl
theorem en142 : enters Tryz.prog 142 = true := by kernel_rfl
theorem chk_0 {xs : List Int} (h : chkL xs = 0) : ∀ y ∈ xs, 1 ≤ y ∧ y ≤ 255 := by
 unfold chkL at h
 split at h
 ·rename_i ha
  intro y hy
  have := List.all_eq_true.1 ha y hy
  simpa using this
 cases h
theorem w_set {F : PrF} {X o : List Nat} {i v : Nat} (h : ∀ j, j < i → o[j]? = some (wRow F X (X.getD j 0) j X.length)) : ∀ j, j < i → (o.set i v)[j]? = some (wRow F X (X.getD j 0) j X.length) := by
 intro j hj; rw [List.getElem?_set, if_neg (by omega)]; exact h j hj
theorem w_now {o : List Nat} {i v n : Nat} (hl : o.length = n) (hi : i < n) : (o.set i v)[i]? = some v := by rw [List.getElem?_set, if_pos rfl, if_pos (by omega)]
theorem w_next {F : PrF} {X o : List Nat} {i : Nat} (h : ∀ j, j < i → o[j]? = some (wRow F X (X.getD j 0) j X.length)) (hn : o[i]? = some (wRow F X (X.getD i 0) i X.length)) : ∀ j, j < i + 1 → o[j]? = some (wRow F X (X.getD j 0) j X.length) := by
 intro j hj
 by_cases hji : j = i
 ·subst hji; exact hn
 exact h j (by omega)
theorem w_step {F : PrF} {X o : List Nat} {i k v a b : Nat} (hn : o[i]? = some (wRow F X (X.getD i 0) i k)) (hv : o[i]? = some v) (ha : X[i]? = some a) (hb : X[k]? = some b) (hk : k ≠ i) : fMul F v (fSub F a b) = wRow F X (X.getD i 0) i (k + 1) := by
 rw [wRow, if_neg hk, getD_some ha, getD_some hb]; rw [hn] at hv; cases hv; rw [getD_some ha]
theorem w_all {F : PrF} {X o : List Nat} (hl : o.length = X.length) (h : ∀ j, j < X.length → o[j]? = some (wRow F X (X.getD j 0) j X.length)) : wDs F X = o := by
 apply List.ext_getElem?
 intro j
 by_cases hj : j < X.length
 ·rw [h j hj, wDs, List.getElem?_map, List.getElem?_range hj]; rfl
 rw [List.getElem?_eq_none (by rw [wDs_len]; omega), List.getElem?_eq_none (by omega)]
theorem c_Weights (F : PrF) (s : Value) (xs : List Int) (Z0 : List Fact) (t : Value) (ev : List Ev) (Lt : List Ent) (w0 : World) (g0 : FOk F) (g1 : chkL xs = 0) (g2 : xs.length < 1000) (g3 : ev.length + xs.length * xs.length + 2 * xs.length + 1088 < 1099511627776) (hZ0 : Holds w0 Z0) (hO0 : Off (bks Lt) Z0) (hs_s : Sl Z0 3 1 s (xs.flatMap cI)) (hT : Tp t ev Lt) (hL0 : St (bks Lt) w0 w0 Lt []) : Calls Tryz.prog 112 #[t, fdV F, s] w0 (Ret fun uu w' => ∃ (v : Value), ∃ (en : Ent), ∃ (Lt' : List Ent), uu = .tuple #[v, .int .i64 0] ∧ (Own 49 4 el v (wL F (ptsL F xs)) en) ∧ Tp t (ev ++ (wEv (xs).length)) Lt' ∧ St (bks Lt) w0 w' ([en] ++ Lt') []) := by
 have hF := g0
 have hx := chk_0 g1
 have hlen := sl_lt (f := cI) (k := 1) (fun _ => rfl) (by decide) hs_s
 have hpl := pts_len F xs
 refine calls_of Tryz.func112 rfl Tryz.ntmps112 (Nat.le_of_ble_eq_true rfl) ?_
 have hS0 := hL0
 refine C_sr ?_
 refine sqE (st_box (v := fdV F) (cs := (fdA F)) hS0 rfl rfl) fun b1 W2 hS3 => ?_
 refine sqv (ex_assign (v := .slice none 0 0) rfl) ?_
 refine sqv (ex_assign (v := .int .i64 0) rfl) ?_
 show C _ _ _ _ _ _
 refine C_seq ?_
 refine C_sr ?_
 refine sqv (ex_move (v := s) rfl) ?_
 refine sqc (exe_call (args := #[s]) en123 (args_of1 rfl)) (c_LCheck s xs Z0 W2 (hS3.holdsA hZ0 hO0) (hs_s)) ?_
 rintro _ W4 ⟨rfl, hT6⟩
 have hS5 := hS3.call hT6
 refine sqv (ex_assign (v := .int .i64 (chkL xs)) rfl) ?_
 show C _ _ _ _ _ _
 refine C_sr ?_
 refine sqv (ex_move (v := .int .i64 (chkL xs)) rfl) ?_
 refine sqv (ex_cmp (x := (chkL xs)) (y := 0) (r := decide ((chkL xs) ≠ 0)) rfl rfl rfl) ?_
 show C _ _ _ _ _ _
 refine C_dec ((chkL xs) ≠ 0) rfl (fun hc8 => ?_) (fun hc8 => ?_)
 ·exfalso; omega
 refine C_skip ?_
 show C _ _ _ _ _ _
 refine C_sr ?_
 refine sqv (ex_loads (vs := (fdC F)) rfl (hS5.at 0 rfl) ag117 rfl rfl) ?_
 refine sqv (ex_move (v := s) rfl) ?_
 refine sqc (exe_call (args := #[fdV F, s]) en113 (args_of2 rfl rfl)) (c_points F s xs Z0 W4 hF hx (by omega) (hS5.holdsA hZ0 hO0) (hs_s)) ?_
 rintro v13 W9 ⟨_, en14, rfl, hp15, hT11⟩
 have hS10 := hS5.call hT11
 refine sqv (ex_assign (v := v13) rfl) ?_
 show C _ _ _ _ _ _
 refine C_sr ?_
 refine sqv (ex_move (v := v13) rfl) ?_
 refine sqv (ex_lenW (r := ((ptsL F xs).length : Int)) hp15 rfl sl44 rfl) ?_
 refine sqE (st_makeM (f := el) (k := 4) 0 ((ptsL F xs).length) hS10 sl44 ze49 (by rfl) rfl (by decide) rfl rfl rfl (by first | omega | (simp only [pts_len]; omega)) (by first | omega | (simp only [pts_len]; omega))) fun b16 W17 hS18 => ?_
 refine sqv (ex_assign (v := .slice (so b16) ((ptsL F xs).length) ((ptsL F xs).length)) rfl) ?_
 show C _ _ _ _ _ _
 refine C_seq ?_
 refine C_sr ?_
 refine sqv (ex_move (v := v13) rfl) ?_
 refine sqv (ex_lenW (r := ((ptsL F xs).length : Int)) hp15 rfl sl44 rfl) ?_
 refine sqv (ex_move (v := .int .i64 0) rfl) ?_
 show C _ _ _ _ _ _
 refine C_block ?_
 refine C_loop (fun nn aa ww => ∃ (m0 : Nat → Value) (i : Nat) (o : List Nat) (Lu : List Ent), nn = (ptsL F xs).length - i ∧ aa = act 71 (upds m0 [(0, t), (4, pt b1), (6, .slice none 0 0), (7, .int .i64 0), (9, v13), (10, .slice (so b16) ((ptsL F xs).length) ((ptsL F xs).length)), (25, .int .i64 ((ptsL F xs).length : Int)), (26, .int .i64 (i : Int))]) [] ∧ St (bks Lt) w0 ww ([some (b16, .cells (o.flatMap el).toArray 49), en14, some (b1, .cells (fdA F) 117)] ++ Lu) [] ∧ (i ≤ (ptsL F xs).length) ∧ (o.length = (ptsL F xs).length) ∧ (∀ j, j < i → o[j]? = some (wRow F (ptsL F xs) ((ptsL F xs).getD j 0) j (ptsL F xs).length)) ∧ (∀ z ∈ o, z < F.p) ∧ (Tp t (ev ++ wEv0 (ptsL F xs).length i) Lu)) (ptsL F xs).length ?_ ?_
 ·exact ⟨_, 0, (List.replicate ((ptsL F xs).length) 0), Lt, rfl, act_upds ⟨rfl, rfl, rfl, (congrArg (Value.int .i64) (by first | rfl | omega)), rfl, rfl, (congrArg (Value.int .i64) (by first | rfl | omega)), (congrArg (Value.int .i64) (by first | rfl | omega)), trivial⟩, (St.pickB (Lf := [some (b16, .cells ((List.replicate ((ptsL F xs).length) 0).flatMap el).toArray 49), en14, some (b1, .cells (fdA F) 117)]) hS18 [0, 1, 2] (by decide) rfl), (Nat.zero_le _), (by simp), (fun j h => absurd h (by omega)), (all_rep (p_pos hF)), (by rw [show ∀ n, wEv0 n 0 = [] from fun _ => rfl, List.append_nil]; exact hT)⟩
 rintro n22 a23 W20 ⟨m19, i, o, Lu, rfl, rfl, hS21, hi, hol, ho, hop, hUu⟩
 refine C_sr ?_
 refine sqv (ex_cmp (x := (i : Int)) (y := ((ptsL F xs).length : Int)) (r := decide ((i : Int) < ((ptsL F xs).length : Int))) rfl rfl rfl) ?_
 show C _ _ _ _ _ _
 refine C_seq ?_
 refine C_dec ((i : Int) < ((ptsL F xs).length : Int)) rfl (fun hc24 => ?_) (fun hc24 => ?_)
 ·refine C_skip ?_
  show C _ _ _ _ _ _
  refine C_seq ?_
  refine C_block ?_
  refine C_sr ?_
  refine sqv (ex_move (v := .int .i64 (i : Int)) rfl) ?_
  refine sqv (ex_assign (v := .int .i64 (i : Int)) rfl) ?_
  show C _ _ _ _ _ _
  refine C_sr ?_
  refine sqv (ex_move (v := .slice (so b16) ((ptsL F xs).length) ((ptsL F xs).length)) rfl) ?_
  refine sqv (ex_move (v := .int .i64 (i : Int)) rfl) ?_
  refine sqv (ex_field (o' := 6) rfl fi117_3 rfl) ?_
  refine sqv (ex_loads (vs := (el (F.one))) rfl (hS21.at 2 rfl) ag49 rfl rfl) ?_
  refine sqv (ex_sindex (j := (i : Int)) (o' := i * 4) rfl rfl sl44 (by omega) (by omega) (by omega)) ?_
  refine sqUE (st_storesM (f := el) (k := 4) (z := F.one) (i' := i) (fun _ => rfl) 0 hS21 rfl rfl rfl ag49 rfl (by first | omega | (simp only [List.length_set, List.length_replicate, List.length_append, List.length_take, List.length_drop]; omega)) rfl (ones_of rfl)) fun W25 hS26 => ?_
  show C _ _ _ _ _ _
  refine C_sr ?_
  refine sqv (ex_move (v := v13) rfl) ?_
  refine sqv (ex_lenW (r := ((ptsL F xs).length : Int)) hp15 rfl sl44 rfl) ?_
  refine sqv (ex_move (v := .int .i64 0) rfl) ?_
  show C _ _ _ _ _ _
  refine C_block ?_
  refine C_loop (fun nn aa ww => ∃ (m0 : Nat → Value) (k : Nat) (o2 : List Nat) (Lu : List Ent), nn = (ptsL F xs).length - k ∧ aa = act 71 (upds m0 [(0, t), (4, pt b1), (6, .slice none 0 0), (7, .int .i64 0), (9, v13), (10, .slice (so b16) ((ptsL F xs).length) ((ptsL F xs).length)), (11, .int .i64 (i : Int)), (25, .int .i64 ((ptsL F xs).length : Int)), (26, .int .i64 (i : Int)), (35, .int .i64 ((ptsL F xs).length : Int)), (36, .int .i64 (k : Int))]) [] ∧ St (bks Lt) w0 ww ([some (b16, .cells (o2.flatMap el).toArray 49), en14, some (b1, .cells (fdA F) 117)] ++ Lu) [] ∧ (k ≤ (ptsL F xs).length) ∧ (o2.length = (ptsL F xs).length) ∧ (∀ j, j < i → o2[j]? = some (wRow F (ptsL F xs) ((ptsL F xs).getD j 0) j (ptsL F xs).length)) ∧ (o2[i]? = some (wRow F (ptsL F xs) ((ptsL F xs).getD i 0) i k)) ∧ (∀ z ∈ o2, z < F.p) ∧ (Tp t (ev ++ wEv0 (ptsL F xs).length i ++ rEv i k) Lu)) (ptsL F xs).length ?_ ?_
  ·exact ⟨_, 0, (o.set i F.one), Lu, rfl, act_upds ⟨rfl, rfl, rfl, (congrArg (Value.int .i64) (by first | rfl | omega)), rfl, rfl, (congrArg (Value.int .i64) (by first | rfl | omega)), (congrArg (Value.int .i64) (by first | rfl | omega)), (congrArg (Value.int .i64) (by first | rfl | omega)), (congrArg (Value.int .i64) (by first | rfl | omega)), (congrArg (Value.int .i64) (by first | rfl | omega)), trivial⟩, (St.pickB (Lf := [some (b16, .cells ((o.set i F.one).flatMap el).toArray 49), en14, some (b1, .cells (fdA F) 117)]) hS26 [0, 1, 2] (by decide) rfl), (Nat.zero_le _), (by rw [List.length_set]; exact hol), (w_set ho), (w_now hol (by omega)), (all_set hop (f_one_lt hF)), (by rw [show rEv i 0 = [] from rfl, List.append_nil]; exact hUu)⟩
  rintro n30 a31 W28 ⟨m27, k, o2, Lu, rfl, rfl, hS29, hk, hol2, hbef2, hnow, hop2, hUu⟩
  refine C_sr ?_
  refine sqv (ex_cmp (x := (k : Int)) (y := ((ptsL F xs).length : Int)) (r := decide ((k : Int) < ((ptsL F xs).length : Int))) rfl rfl rfl) ?_
  show C _ _ _ _ _ _
  refine C_seq ?_
  refine C_dec ((k : Int) < ((ptsL F xs).length : Int)) rfl (fun hc32 => ?_) (fun hc32 => ?_)
  ·refine C_skip ?_
   show C _ _ _ _ _ _
   refine C_seq ?_
   refine C_block ?_
   refine C_sr ?_
   refine sqv (ex_move (v := .int .i64 (k : Int)) rfl) ?_
   refine sqv (ex_assign (v := .int .i64 (k : Int)) rfl) ?_
   show C _ _ _ _ _ _
   refine C_sr ?_
   refine sqv (ex_move (v := .int .i64 (k : Int)) rfl) ?_
   refine sqv (ex_move (v := .int .i64 (i : Int)) rfl) ?_
   refine sqv (ex_cmp (x := (k : Int)) (y := (i : Int)) (r := decide ((k : Int) ≠ (i : Int))) rfl rfl rfl) ?_
   show C _ _ _ _ _ _
   refine C_dec ((k : Int) ≠ (i : Int)) rfl (fun hc33 => ?_) (fun hc33 => ?_)
   ·refine C_sr ?_
    refine sqv (ex_move (v := t) rfl) ?_
    refine sqv (ex_move (v := .int .i64 (i : Int)) rfl) ?_
    refine sqv (ex_move (v := .int .i64 (k : Int)) rfl) ?_
    refine sqc (exe_call (args := #[t, .int .i64 3, .int .i64 (i : Int), .int .i64 (k : Int)]) en52 (args_of4 rfl rfl rfl rfl)) (c_Note 3 (i : Int) (k : Int) t (ev ++ wEv0 (ptsL F xs).length i ++ rEv i k) Lu W28 (by have h1 := wEv0_len (ptsL F xs).length i; have h2 := rEv_len i k; rw [pts_len] at h1; have h3 := Nat.mul_le_mul_right xs.length (show i + 1 ≤ xs.length by omega); rw [Nat.add_mul] at h3; simp only [List.length_append, pts_len]; omega) hUu (St.lend (Lf := [some (b16, .cells (o2.flatMap el).toArray 49), en14, some (b1, .cells (fdA F) 117)]) hS29)) ?_
    rintro _ W34 ⟨Lt38, rfl, hU39, hT36⟩
    have hS35 := St.callS (Lf := [some (b16, .cells (o2.flatMap el).toArray 49), en14, some (b1, .cells (fdA F) 117)]) (Ln := []) hS29 hT36
    show C _ _ _ _ _ _
    obtain ⟨y40, hy41⟩ := get_lt o2 i (by first | omega | (simp only [List.length_set, List.length_replicate, List.length_append, List.length_take, List.length_drop, List.length_cons, List.length_nil, List.length_map]; omega))
    have hky40 := hop2 y40 (List.mem_of_getElem? hy41)
    obtain ⟨y42, hy43⟩ := get_lt (ptsL F xs) i (by first | omega | (simp only [List.length_set, List.length_replicate, List.length_append, List.length_take, List.length_drop, List.length_cons, List.length_nil, List.length_map]; omega))
    have hky42 := pts_lt hF xs y42 (List.mem_of_getElem? hy43)
    obtain ⟨b44, o45, hI46, hC47⟩ := sl_at (f := el) (k := 4) (fun _ => rfl) (by decide) ((hp15).slF) hy43
    obtain ⟨y48, hy49⟩ := get_lt (ptsL F xs) k (by first | omega | (simp only [List.length_set, List.length_replicate, List.length_append, List.length_take, List.length_drop, List.length_cons, List.length_nil, List.length_map]; omega))
    have hky48 := pts_lt hF xs y48 (List.mem_of_getElem? hy49)
    obtain ⟨b50, o51, hI52, hC53⟩ := sl_at (f := el) (k := 4) (fun _ => rfl) (by decide) ((hp15).slF) hy49
    refine C_draw (p := 18) (l := [(some 46, .slice (so b16) ((ptsL F xs).length) ((ptsL F xs).length)), (some 47, .int .i64 (i : Int)), (some 48, fdV F), (some 49, .slice (so b16) ((ptsL F xs).length) ((ptsL F xs).length)), (some 50, .int .i64 (i : Int)), (some 51, .pointer (some ⟨b16, i * 4, none⟩)), (some 52, elV y40), (some 53, fdV F), (some 54, v13), (some 55, .int .i64 (i : Int)), (some 56, .pointer (some ⟨b44, o45, none⟩)), (some 57, elV y42), (some 58, v13), (some 59, .int .i64 (k : Int)), (some 60, .pointer (some ⟨b50, o51, none⟩)), (some 61, elV y48), (some 62, elV (fSub F y42 y48)), (some 63, elV (fMul F y40 (fSub F y42 y48)))]) (G := []) (J := fun w => St (bks Lt) w0 w ([some (b16, .cells (o2.flatMap el).toArray 49), en14, some (b1, .cells (fdA F) 117)] ++ Lt38) []) mixed ?_ (hS35.draw _)
    refine node1 18 [] [] [] (by kernel_rfl) rfl rfl (nd rfl) rfl (by kernel_rfl) ?_ ?_ ?_
    ·intro S wd hSd
     refine ⟨n0 rfl rfl rfl (ex_move (v := .slice (so b16) ((ptsL F xs).length) ((ptsL F xs).length)) rfl) rfl hSd, n0 rfl rfl rfl (ex_move (v := .int .i64 (i : Int)) rfl) rfl hSd, n0 rfl rfl rfl (ex_loads (vs := (fdC F)) rfl (hSd.at 2 rfl) ag117 rfl rfl) rfl hSd, n0 rfl rfl rfl (ex_move (v := .slice (so b16) ((ptsL F xs).length) ((ptsL F xs).length)) rfl) rfl hSd, n0 rfl rfl rfl (ex_move (v := .int .i64 (i : Int)) rfl) rfl hSd, n2 rfl rfl rfl rfl (fun hq3 hq4 => (ex_sindex (j := (i : Int)) (o' := i * 4) (evS hq3 rfl rfl) (evS hq4 rfl rfl) sl44 (by omega) (by omega) (by omega))) rfl hSd, n1 rfl rfl rfl rfl (fun hq5 => (ex_loadsM (f := el) (k := 4) (i := i) (fun _ => rfl) (evS hq5 rfl rfl) (hSd.at 0 rfl) ag49 rfl hy41)) rfl hSd, n0 rfl rfl rfl (ex_loads (vs := (fdC F)) rfl (hSd.at 2 rfl) ag117 rfl rfl) rfl hSd, n0 rfl rfl rfl (ex_move (v := v13) rfl) rfl hSd, n0 rfl rfl rfl (ex_move (v := .int .i64 (i : Int)) rfl) rfl hSd, n2 rfl rfl rfl rfl (fun hq8 hq9 => (ex_sindexO hI46 (evS hq8 rfl rfl) (evS hq9 rfl rfl) sl44 rfl)) rfl hSd, n1 rfl rfl rfl rfl (fun hq10 => (ex_loadsC (r := 0) (vs := (el y42)) hC47 (hSd.entH 1 rfl) (evS hq10 rfl rfl) ag49 rfl rfl rfl)) rfl hSd, n0 rfl rfl rfl (ex_move (v := v13) rfl) rfl hSd, n0 rfl rfl rfl (ex_move (v := .int .i64 (k : Int)) rfl) rfl hSd, n2 rfl rfl rfl rfl (fun hq12 hq13 => (ex_sindexO hI52 (evS hq12 rfl rfl) (evS hq13 rfl rfl) sl44 rfl)) rfl hSd, n1 rfl rfl rfl rfl (fun hq14 => (ex_loadsC (r := 0) (vs := (el y48)) hC53 (hSd.entH 1 rfl) (evS hq14 rfl rfl) ag49 rfl rfl rfl)) rfl hSd, ?_, ?_, tt⟩
     ·refine needG rfl ?_
      rintro ⟨hq7, hq11, hq15, _⟩ hno
      refine dxC (wanted_none rfl) rfl (exe_call (args := #[fdV F, elV y42, elV y48]) en141 (args_of3 (evS hq7 rfl rfl) (evS hq11 rfl rfl) (evS hq15 rfl rfl))) (c_mSub F y42 y48 wd hF (by assumption) (by assumption)) ?_
      rintro _ W54 ⟨rfl, hT56⟩
      have hS55 := hSd.call hT56
      exact ⟨rfl, hS55⟩
     refine needG rfl ?_
     rintro ⟨hq2, hq6, hq16, hq16, _⟩ hno
     refine dxC (wanted_none rfl) rfl (exe_call (args := #[fdV F, elV y40, elV (fSub F y42 y48)]) en116 (args_of3 (evS hq2 rfl rfl) (evS hq6 rfl rfl) (evS hq16 rfl rfl))) (c_mMul F y40 (fSub F y42 y48) wd hF (by assumption) (lt_of_p hF (fSub_lt hF _ _))) ?_
     rintro _ W58 ⟨rfl, hT60⟩
     have hS59 := hSd.call hT60
     exact ⟨rfl, hS59⟩
    ·exact fun S wd hSd => ⟨True.intro, True.intro, True.intro, True.intro, True.intro, True.intro, True.intro, True.intro, True.intro, True.intro, True.intro, True.intro, True.intro, True.intro, True.intro, True.intro, True.intro, True.intro, True.intro⟩
    intro _ W62 hS63
    refine sqv (ex_sindex (j := (i : Int)) (o' := i * 4) rfl rfl sl44 (by omega) (by omega) (by omega)) ?_
    refine sqUE (st_storesM (f := el) (k := 4) (z := fMul F y40 (fSub F y42 y48)) (i' := i) (fun _ => rfl) 0 hS63 rfl rfl rfl ag49 rfl (by first | omega | (simp only [List.length_set, List.length_replicate, List.length_append, List.length_take, List.length_drop]; omega)) rfl (ones_of rfl)) fun W64 hS65 => ?_
    refine blk_normal ?_
    show C _ _ _ _ _ _
    refine C_region ?_
    refine nm ((k : Int) + 1) fun x66 hx66 => ?_
    refine sqv (ex_add (x := (k : Int)) (y := 1) rfl rfl (w64 hx66 (by omega))) ?_
    refine sqv (ex_move (v := .int .i64 x66) rfl) ?_
    exact ⟨_, (by omega), ⟨_, (k + 1), (o2.set i (fMul F y40 (fSub F y42 y48))), Lt38, rfl, act_upds ⟨rfl, rfl, rfl, (congrArg (Value.int .i64) (by first | rfl | omega)), rfl, rfl, (congrArg (Value.int .i64) (by first | rfl | omega)), (congrArg (Value.int .i64) (by first | rfl | omega)), (congrArg (Value.int .i64) (by first | rfl | omega)), (congrArg (Value.int .i64) (by first | rfl | omega)), (congrArg (Value.int .i64) (by first | rfl | omega)), trivial⟩, (St.pickB (Lf := [some (b16, .cells ((o2.set i (fMul F y40 (fSub F y42 y48))).flatMap el).toArray 49), en14, some (b1, .cells (fdA F) 117)]) hS65 [0, 1, 2] (by decide) rfl), (by omega), (by rw [List.length_set]; exact hol2), (w_set hbef2), ((w_now hol2 (by omega)).trans (congrArg some (w_step hnow hy41 hy43 hy49 (by omega)))), (all_set hop2 (fMul_lt hF _ _)), (by rw [rEv]; first | (rw [if_pos (by omega), List.append_nil]; exact hU39) | (rw [if_neg (by omega), ← List.append_assoc]; exact hU39))⟩⟩
   refine C_skip ?_
   refine blk_normal ?_
   show C _ _ _ _ _ _
   refine C_region ?_
   refine nm ((k : Int) + 1) fun x67 hx67 => ?_
   refine sqv (ex_add (x := (k : Int)) (y := 1) rfl rfl (w64 hx67 (by omega))) ?_
   refine sqv (ex_move (v := .int .i64 x67) rfl) ?_
   obtain rfl : k = i := by omega
   exact ⟨_, (by omega), ⟨_, (k + 1), o2, Lu, rfl, act_upds ⟨rfl, rfl, rfl, (congrArg (Value.int .i64) (by first | rfl | omega)), rfl, rfl, (congrArg (Value.int .i64) (by first | rfl | omega)), (congrArg (Value.int .i64) (by first | rfl | omega)), (congrArg (Value.int .i64) (by first | rfl | omega)), (congrArg (Value.int .i64) (by first | rfl | omega)), (congrArg (Value.int .i64) (by first | rfl | omega)), trivial⟩, (St.pickB (Lf := [some (b16, .cells (o2.flatMap el).toArray 49), en14, some (b1, .cells (fdA F) 117)]) hS29 [0, 1, 2] (by decide) rfl), (by omega), hol2, hbef2, (by rw [wRow, if_pos rfl]; exact hnow), hop2, (by rw [rEv]; first | (rw [if_pos (by omega), List.append_nil]; exact hUu) | (rw [if_neg (by omega), ← List.append_assoc]; exact hUu))⟩⟩
  refine C_exit ?_
  refine thn_exit ?_
  refine thn_exit ?_
  refine blk_exit ?_
  refine blk_normal ?_
  show C _ _ _ _ _ _
  refine C_region ?_
  refine nm ((i : Int) + 1) fun x68 hx68 => ?_
  refine sqv (ex_add (x := (i : Int)) (y := 1) rfl rfl (w64 hx68 (by omega))) ?_
  refine sqv (ex_move (v := .int .i64 x68) rfl) ?_
  obtain rfl : k = (ptsL F xs).length := by omega
  exact ⟨_, (by omega), ⟨_, (i + 1), o2, Lu, rfl, act_upds ⟨rfl, rfl, rfl, (congrArg (Value.int .i64) (by first | rfl | omega)), rfl, rfl, (congrArg (Value.int .i64) (by first | rfl | omega)), (congrArg (Value.int .i64) (by first | rfl | omega)), trivial⟩, (St.pickB (Lf := [some (b16, .cells (o2.flatMap el).toArray 49), en14, some (b1, .cells (fdA F) 117)]) hS29 [0, 1, 2] (by decide) rfl), (by omega), hol2, (w_next hbef2 hnow), hop2, (by rw [wEv0, ← List.append_assoc]; exact hUu)⟩⟩
 refine C_exit ?_
 refine thn_exit ?_
 refine thn_exit ?_
 refine blk_exit ?_
 show C _ _ _ _ _ _
 refine C_sr ?_
 refine sqv (ex_move (v := t) rfl) ?_
 refine sqv (ex_loads (vs := (fdC F)) rfl (hS21.at 2 rfl) ag117 rfl rfl) ?_
 refine sqv (ex_move (v := .slice (so b16) ((ptsL F xs).length) ((ptsL F xs).length)) rfl) ?_
 refine sqc (exe_call (args := #[t, fdV F, .slice (so b16) ((ptsL F xs).length) ((ptsL F xs).length)]) en142 (args_of3 rfl rfl rfl)) (c_Batch F (.slice (so b16) ((ptsL F xs).length) ((ptsL F xs).length)) o (entF (some (b16, .cells (o.flatMap el).toArray 49))) t (ev ++ wEv0 (ptsL F xs).length i) Lu W20 hF hop (by have h1 := wEv0_len (ptsL F xs).length i; have h3 := Nat.mul_le_mul_right (ptsL F xs).length hi; rw [pts_len] at h1 h3; simp only [List.length_append, hol, pts_len]; omega) (hS21.entH 0 rfl) (St.offE (Lf := [some (b16, .cells (o.flatMap el).toArray 49), en14, some (b1, .cells (fdA F) 117)]) hS21 0 rfl) ((Own.of (f := el) (k := 4) (t := 49) (b := b16) (fun _ => rfl) (by first | omega | simp) rfl (by simp only [maxLen]; omega)).slF) hUu (St.lend (Lf := [some (b16, .cells (o.flatMap el).toArray 49), en14, some (b1, .cells (fdA F) 117)]) hS21)) ?_
 rintro v73 W69 ⟨_, en74, Lt76, rfl, hp75, hU77, hT71⟩
 have hS70 := St.callS (Lf := [some (b16, .cells (o.flatMap el).toArray 49), en14, some (b1, .cells (fdA F) 117)]) (Ln := [en74]) hS21 hT71
 refine sqv (ex_assign (v := v73) rfl) ?_
 refine sqv (ex_assign (v := .int .i64 0) rfl) ?_
 show C _ _ _ _ _ _
 refine C_ret ?_
 refine done_2 (v1 := v73) (v2 := .int .i64 0) rfl rfl rfl ?_
 obtain rfl : i = (ptsL F xs).length := by omega
 exact ⟨_, _, _, rfl, by rw [wL, w_all hol ho]; exact hp75, (by rw [wEv, ← List.append_assoc]; simpa only [pts_len, wDs_len, hol, List.append_assoc] using hU77), (St.pickB (Lf := [en74, some (b16, .cells (o.flatMap el).toArray 49), en14, some (b1, .cells (fdA F) 117)]) hS70 [0] (by decide) rfl).less (fun _ h => absurd h (by simp))⟩
end Go.Proofs
end
section
set_option linter.unusedVariables false
set_option linter.unusedSimpArgs false
set_option maxRecDepth 20000
set_option maxHeartbeats 2000000
namespace Go.Proofs
open Sc
theorem en112 : enters Tryz.prog 112 = true := by kernel_rfl
theorem en114 : enters Tryz.prog 114 = true := by kernel_rfl
end Go.Proofs
end
section
set_option linter.unusedVariables false
set_option linter.unusedSimpArgs false
set_option maxRecDepth 20000
set_option maxHeartbeats 2000000
namespace Go.Proofs
open Sc
theorem en124 : enters Tryz.prog 124 = true := by kernel_rfl
theorem int_step {F : PrF} {X ys o o2 : List Nat} {i a b x : Nat} (ho : o = intF F X ys i) (hw : (wL F X)[i]? = some a) (hy : ys[i]? = some b) (hx : X[i]? = some x) (h2 : o2 = addS F (fMul F a b) o (quoT F x (mastF F X [F.one]).tail)) : o2 = intF F X ys (i + 1) := by
 rw [h2, intF, getD_some hw, getD_some hy, getD_some hx, ← ho]
theorem c_Interp (F : PrF) (s : Value) (xs : List Int) (y : Value) (ys : List Nat) (Z0 : List Fact) (t : Value) (ev : List Ev) (Lt : List Ent) (w0 : World) (g0 : FOk F) (g1 : chkL xs = 0) (g2 : ∀ y ∈ ys, y < F.p) (g3 : xs.length = ys.length) (g4 : xs.length < 900) (g5 : ev.length + 2 * (xs.length * xs.length) + 4 * xs.length + 1088 < 1099511627776) (hZ0 : Holds w0 Z0) (hO0 : Off (bks Lt) Z0) (hs_s : Sl Z0 3 1 s (xs.flatMap cI)) (hs_y : Sl Z0 49 4 y (ys.flatMap el)) (hT : Tp t ev Lt) (hL0 : St (bks Lt) w0 w0 Lt []) : Calls Tryz.prog 84 #[t, fdV F, s, y] w0 (Ret fun uu w' => ∃ (v : Value), ∃ (en : Ent), ∃ (Lt' : List Ent), uu = .tuple #[v, .int .i64 0] ∧ (Own 49 4 el v (intL F (ptsL F xs) ys) en) ∧ Tp t (ev ++ (iEv (xs).length)) Lt' ∧ St (bks Lt) w0 w' ([en] ++ Lt') []) := by
 have hF := g0
 have hx := chk_0 g1
 have hlen := sl_lt (f := cI) (k := 1) (fun _ => rfl) (by decide) hs_s
 have hpl := pts_len F xs
 have hwl := wL_len F (ptsL F xs)
 have hlen2 := sl_lt (f := el) (k := 4) (fun _ => rfl) (by decide) hs_y
 refine calls_of Tryz.func84 rfl Tryz.ntmps84 (Nat.le_of_ble_eq_true rfl) ?_
 have hS0 := hL0
 refine C_sr ?_
 refine sqE (st_box (v := t) (cs := #[t]) hS0 rfl (tape_1 hT).1) fun b1 W2 hS3 => ?_
 refine sqE (st_box (v := fdV F) (cs := (fdA F)) hS3 rfl rfl) fun b4 W5 hS6 => ?_
 refine sqE (st_box (v := y) (cs := #[y]) hS6 rfl (sl_1 (hs_y)).1) fun b7 W8 hS9 => ?_
 refine sqv (ex_assign (v := .slice none 0 0) rfl) ?_
 refine sqv (ex_assign (v := .int .i64 0) rfl) ?_
 show C _ _ _ _ _ _
 refine C_seq ?_
 refine C_sr ?_
 refine sqv (ex_move (v := s) rfl) ?_
 refine sqc (exe_call (args := #[s]) en123 (args_of1 rfl)) (c_LCheck s xs Z0 W8 (hS9.holdsA hZ0 hO0) (hs_s)) ?_
 rintro _ W10 ⟨rfl, hT12⟩
 have hS11 := hS9.call hT12
 refine sqv (ex_assign (v := .int .i64 (chkL xs)) rfl) ?_
 show C _ _ _ _ _ _
 refine C_sr ?_
 refine sqv (ex_move (v := .int .i64 (chkL xs)) rfl) ?_
 refine sqv (ex_cmp (x := (chkL xs)) (y := 0) (r := decide ((chkL xs) ≠ 0)) rfl rfl rfl) ?_
 show C _ _ _ _ _ _
 refine C_dec ((chkL xs) ≠ 0) rfl (fun hc14 => ?_) (fun hc14 => ?_)
 ·exfalso; omega
 refine C_skip ?_
 show C _ _ _ _ _ _
 refine C_seq ?_
 refine C_sr ?_
 refine sqv (ex_move (v := s) rfl) ?_
 refine sqv (ex_lenO (f := cI) (k := 1) (r := (xs.length : Int)) (fun _ => rfl) (by decide) (hs_s) rfl sl25 rfl) ?_
 refine sqv (ex_load (v := y) rfl (hS11.at 0 rfl) on44 rfl) ?_
 refine sqv (ex_lenO (f := el) (k := 4) (r := (ys.length : Int)) (fun _ => rfl) (by decide) (hs_y) rfl sl44 rfl) ?_
 refine sqv (ex_cmp (x := (xs.length : Int)) (y := (ys.length : Int)) (r := decide ((xs.length : Int) ≠ (ys.length : Int))) rfl rfl rfl) ?_
 show C _ _ _ _ _ _
 refine C_dec ((xs.length : Int) ≠ (ys.length : Int)) rfl (fun hc15 => ?_) (fun hc15 => ?_)
 ·exfalso; omega
 refine C_skip ?_
 show C _ _ _ _ _ _
 refine C_sr ?_
 refine sqv (ex_load (v := t) rfl (hS11.at 2 rfl) on58 rfl) ?_
 refine sqv (ex_loads (vs := (fdC F)) rfl (hS11.at 1 rfl) ag117 rfl rfl) ?_
 refine sqv (ex_move (v := s) rfl) ?_
 refine sqc (exe_call (args := #[t, fdV F, s]) en112 (args_of3 rfl rfl rfl)) (c_Weights F s xs Z0 t ev Lt W10 hF (by omega) (by omega) (by omega) (hS11.holdsA hZ0 hO0) (St.off0 (Lf := [some (b7, .cells #[y] 44), some (b4, .cells (fdA F) 117), some (b1, .cells #[t] 58)]) hS11 hZ0 hO0) (hs_s) hT (St.lend (Lf := [some (b7, .cells #[y] 44), some (b4, .cells (fdA F) 117), some (b1, .cells #[t] 58)]) hS11)) ?_
 rintro _ W16 ⟨v20, en21, Lt23, rfl, hp22, hU24, hT18⟩
 have hS17 := St.callS (Lf := [some (b7, .cells #[y] 44), some (b4, .cells (fdA F) 117), some (b1, .cells #[t] 58)]) (Ln := [en21]) hS11 hT18
 refine sqv (ex_move (v := .tuple #[v20, .int .i64 0]) rfl) ?_
 refine sqv (ex_extract (v := v20) rfl rfl) ?_
 refine sqv (ex_extract (v := .int .i64 0) rfl rfl) ?_
 refine sqE (st_alloc hS17 ze44) fun b25 W26 hS27 => ?_
 refine sqUE (st_store (v := v20) (cs' := #[v20]) 0 hS27 rfl rfl rfl on44 (own_1 hp22).1 (Nat.le_of_ble_eq_true rfl) (own_1 hp22).2 rfl) fun W28 hS29 => ?_
 refine sqv (ex_assign (v := .int .i64 0) rfl) ?_
 show C _ _ _ _ _ _
 refine C_sr ?_
 refine sqv (ex_loads (vs := (fdC F)) rfl (hS29.at 3 rfl) ag117 rfl rfl) ?_
 refine sqv (ex_move (v := s) rfl) ?_
 refine sqc (exe_call (args := #[fdV F, s]) en113 (args_of2 rfl rfl)) (c_points F s xs Z0 W28 hF hx (by omega) (hS29.holdsA hZ0 hO0) (hs_s)) ?_
 rintro v34 W30 ⟨_, en35, rfl, hp36, hT32⟩
 have hS31 := hS29.call hT32
 refine sqv (ex_assign (v := v34) rfl) ?_
 show C _ _ _ _ _ _
 refine C_sr ?_
 refine sqv (ex_loads (vs := (fdC F)) rfl (hS31.at 4 rfl) ag117 rfl rfl) ?_
 refine sqv (ex_move (v := v34) rfl) ?_
 refine sqc (exe_call (args := #[fdV F, v34]) en114 (args_of2 rfl rfl)) (c_master F v34 (ptsL F xs) (entF en35) W30 hF (pts_lt hF xs) (by rw [hpl]; omega) (hS31.entH 0 rfl) ((hp36).slF)) ?_
 rintro v41 W37 ⟨_, en42, rfl, hp43, hT39⟩
 have hS38 := hS31.call hT39
 refine sqv (ex_assign (v := v41) rfl) ?_
 show C _ _ _ _ _ _
 refine C_sr ?_
 refine sqv (ex_move (v := v34) rfl) ?_
 refine sqv (ex_lenW (r := ((ptsL F xs).length : Int)) hp36 rfl sl44 rfl) ?_
 refine sqE (st_makeM (f := el) (k := 4) 0 ((ptsL F xs).length) hS38 sl44 ze49 (by rfl) rfl (by decide) rfl rfl rfl (by first | omega | (simp only [pts_len]; omega)) (by first | omega | (simp only [pts_len]; omega))) fun b44 W45 hS46 => ?_
 refine sqE (st_alloc hS46 ze44) fun b47 W48 hS49 => ?_
 refine sqUE (st_store (v := .slice (so b44) ((ptsL F xs).length) ((ptsL F xs).length)) (cs' := #[.slice (so b44) ((ptsL F xs).length) ((ptsL F xs).length)]) 0 hS49 rfl rfl rfl on44 rfl (Nat.le_of_ble_eq_true rfl) rfl rfl) fun W50 hS51 => ?_
 show C _ _ _ _ _ _
 refine C_sr ?_
 refine sqv (ex_func (a := #[]) (b := #[pt b4, pt b25, pt b7, pt b47, pt b1]) args_of0 (args_of5 rfl rfl rfl rfl rfl)) ?_
 refine sqv (ex_assign (v := .func (.func 124) #[] #[pt b4, pt b25, pt b7, pt b47, pt b1]) rfl) ?_
 show C _ _ _ _ _ _
 refine C_seq ?_
 refine C_sr ?_
 refine sqv (ex_move (v := v34) rfl) ?_
 refine sqv (ex_lenW (r := ((ptsL F xs).length : Int)) hp36 rfl sl44 rfl) ?_
 refine sqv (ex_move (v := .int .i64 0) rfl) ?_
 show C _ _ _ _ _ _
 refine C_block ?_
 refine C_loop (fun nn aa ww => ∃ (m0 : Nat → Value) (i : Nat) (o : List Nat) (Lu : List Ent), nn = xs.length - i ∧ aa = act 68 (upds m0 [(5, pt b4), (8, .slice none 0 0), (9, .int .i64 0), (13, v34), (14, v41), (15, pt b47), (16, .func (.func 124) #[] #[pt b4, pt b25, pt b7, pt b47, pt b1]), (48, .int .i64 ((ptsL F xs).length : Int)), (49, .int .i64 (i : Int))]) [] ∧ St (bks Lt) w0 ww ([some (b44, .cells (o.flatMap el).toArray 49), some (b47, .cells #[.slice (so b44) ((ptsL F xs).length) ((ptsL F xs).length)] 44), en42, en35, some (b25, .cells #[v20] 44), en21, some (b7, .cells #[y] 44), some (b4, .cells (fdA F) 117), some (b1, .cells #[t] 58)] ++ Lu) [] ∧ (i ≤ xs.length) ∧ (o.length = xs.length) ∧ (o = intF F (ptsL F xs) ys i) ∧ (∀ z ∈ o, z < F.p) ∧ (Tp t (ev ++ wEv xs.length ++ ppEv xs.length i) Lu)) xs.length ?_ ?_
 ·exact ⟨_, 0, (List.replicate ((ptsL F xs).length) 0), Lt23, rfl, act_upds ⟨rfl, rfl, (congrArg (Value.int .i64) (by first | rfl | omega)), rfl, rfl, rfl, rfl, (congrArg (Value.int .i64) (by first | rfl | omega)), (congrArg (Value.int .i64) (by first | rfl | omega)), trivial⟩, (St.pickB (Lf := [some (b47, .cells #[.slice (so b44) ((ptsL F xs).length) ((ptsL F xs).length)] 44), some (b44, .cells ((List.replicate ((ptsL F xs).length) 0).flatMap el).toArray 49), en42, en35, some (b25, .cells #[v20] 44), en21, some (b7, .cells #[y] 44), some (b4, .cells (fdA F) 117), some (b1, .cells #[t] 58)]) hS51 [1, 0, 2, 3, 4, 5, 6, 7, 8] (by decide) rfl), (Nat.zero_le _), (by first | omega | (simp; done) | (simp; omega)), (by rw [intF]), (all_rep (p_pos hF)), (by rw [show ∀ n, ppEv n 0 = [] from fun _ => rfl, List.append_nil]; exact hU24)⟩
 rintro n55 a56 W53 ⟨m52, i, o, Lu, rfl, rfl, hS54, hi, hol, ho, hop, hUu⟩
 refine C_sr ?_
 refine sqv (ex_cmp (x := (i : Int)) (y := ((ptsL F xs).length : Int)) (r := decide ((i : Int) < ((ptsL F xs).length : Int))) rfl rfl rfl) ?_
 show C _ _ _ _ _ _
 refine C_seq ?_
 refine C_dec ((i : Int) < ((ptsL F xs).length : Int)) rfl (fun hc57 => ?_) (fun hc57 => ?_)
 ·refine C_skip ?_
  show C _ _ _ _ _ _
  refine C_seq ?_
  refine C_block ?_
  refine C_sr ?_
  refine sqv (ex_move (v := .int .i64 (i : Int)) rfl) ?_
  refine sqv (ex_assign (v := .int .i64 (i : Int)) rfl) ?_
  show C _ _ _ _ _ _
  refine C_seq ?_
  obtain ⟨y58, hy59⟩ := get_lt (ptsL F xs) i (by first | omega | (simp only [List.length_set, List.length_replicate, List.length_append, List.length_take, List.length_drop, List.length_cons, List.length_nil, List.length_map]; omega))
  have hky58 := pts_lt hF xs y58 (List.mem_of_getElem? hy59)
  obtain ⟨b60, o61, hI62, hC63⟩ := sl_at (f := el) (k := 4) (fun _ => rfl) (by decide) ((hp36).slF) hy59
  refine C_draw (p := 12) (l := [(some 53, fdV F), (some 54, v41), (some 55, v34), (some 56, .int .i64 (i : Int)), (some 57, .pointer (some ⟨b60, o61, none⟩)), (some 58, elV y58), (some 59, undef), (some 52, undef), (some 60, undef), (some 61, undef), (some 19, undef), (some 18, undef)]) (G := [6, 10]) (J := fun w => St (bks Lt) w0 w ([some (b44, .cells (o.flatMap el).toArray 49), some (b47, .cells #[.slice (so b44) ((ptsL F xs).length) ((ptsL F xs).length)] 44), en42, en35, some (b25, .cells #[v20] 44), en21, some (b7, .cells #[y] 44), some (b4, .cells (fdA F) 117), some (b1, .cells #[t] 58)] ++ Lu) []) mixed ?_ (hS54.draw _)
  refine node1 12 [6, 10] [] [7, 8, 9, 11] (by kernel_rfl) rfl rfl (nd rfl) rfl (by kernel_rfl) ?_ ?_ ?_
  ·intro S wd hSd
   exact ⟨n0 rfl rfl rfl (ex_loads (vs := (fdC F)) rfl (hSd.at 7 rfl) ag117 rfl rfl) rfl hSd, n0 rfl rfl rfl (ex_move (v := v41) rfl) rfl hSd, n0 rfl rfl rfl (ex_move (v := v34) rfl) rfl hSd, n0 rfl rfl rfl (ex_move (v := .int .i64 (i : Int)) rfl) rfl hSd, n2 rfl rfl rfl rfl (fun hq2 hq3 => (ex_sindexO hI62 (evS hq2 rfl rfl) (evS hq3 rfl rfl) sl44 rfl)) rfl hSd, n1 rfl rfl rfl rfl (fun hq4 => (ex_loadsC (r := 0) (vs := (el y58)) hC63 (hSd.entH 3 rfl) (evS hq4 rfl rfl) ag49 rfl rfl rfl)) rfl hSd, sG rfl, sG rfl, sG rfl, sG rfl, sG rfl, sG rfl, tt⟩
  ·intro S wd hSd
   refine ⟨tt, tt, tt, tt, tt, tt, ?_, tt, tt, tt, ?_, tt, tt⟩
   ·refine needH rfl ?_
    rintro ⟨hq0, hq1, hq5, _⟩ hno
    refine dxC (wanted_none rfl) rfl (exe_call (args := #[.pointer none, fdV F, v41, elV y58]) en115 (args_of4 rfl (evS hq0 rfl rfl) (evS hq1 rfl rfl) (evS hq5 rfl rfl))) (c_Quotient F y58 v41 (mastF F (ptsL F xs) [F.one]) (entF en42) (.pointer none) ([]) ([]) wd hF (ms_lt hF _) (pts_lt hF xs _ (List.mem_of_getElem? (by assumption))) (by simp only [ms_len, pts_len, List.length_nil]; omega) (hSd.entH 2 rfl) (Off.nil _) ((hp43).slF) (Tape.nil _ _ _ _) (St.nil _)) ?_
    rintro _ W64 ⟨v68, en69, Lt71, rfl, hp70, hU72, hT66⟩
    obtain rfl := tape_nil hU72
    have hS65 := St.call (Ln := [en69]) hSd hT66
    refine ⟨fun w => St (bks Lt) w0 w ([en69, some (b44, .cells (o.flatMap el).toArray 49), some (b47, .cells #[.slice (so b44) ((ptsL F xs).length) ((ptsL F xs).length)] 44), en42, en35, some (b25, .cells #[v20] 44), en21, some (b7, .cells #[y] 44), some (b4, .cells (fdA F) 117), some (b1, .cells #[t] 58)] ++ Lu) [], [(some 53, fdV F), (some 54, v41), (some 55, v34), (some 56, .int .i64 (i : Int)), (some 57, .pointer (some ⟨b60, o61, none⟩)), (some 58, elV y58), (some 59, .tuple #[v68, elV (horn F y58 (mastF F (ptsL F xs) [F.one]))]), (some 52, .tuple #[v68, elV (horn F y58 (mastF F (ptsL F xs) [F.one]))]), (some 60, v68), (some 61, elV (horn F y58 (mastF F (ptsL F xs) [F.one]))), (some 19, undef), (some 18, undef)], [7, 8, 9, 11], hS65, by kernel_rfl, ⟨rfl, rfl, rfl, rfl, rfl, rfl, rfl, rfl, rfl, rfl, rfl, rfl, rfl, True.intro, rfl, True.intro, rfl, True.intro, rfl, True.intro, rfl, rfl, rfl, True.intro, True.intro⟩, rfl, ?_⟩
    show Sc.Node _ _ _ _ _ _ _ 12 [(some 53, fdV F), (some 54, v41), (some 55, v34), (some 56, .int .i64 (i : Int)), (some 57, .pointer (some ⟨b60, o61, none⟩)), (some 58, elV y58), (some 59, .tuple #[v68, elV (horn F y58 (mastF F (ptsL F xs) [F.one]))]), (some 52, .tuple #[v68, elV (horn F y58 (mastF F (ptsL F xs) [F.one]))]), (some 60, v68), (some 61, elV (horn F y58 (mastF F (ptsL F xs) [F.one]))), (some 19, undef), (some 18, undef)] [10] [6] _
    refine node1 12 [10] [6] [11] (by kernel_rfl) rfl rfl (nd rfl) rfl (by kernel_rfl) ?_ ?_ ?_
    ·intro S wd hSd
     exact ⟨n0 rfl rfl rfl (ex_loads (vs := (fdC F)) rfl (hSd.at 8 rfl) ag117 rfl rfl) rfl hSd, n0 rfl rfl rfl (ex_move (v := v41) rfl) rfl hSd, n0 rfl rfl rfl (ex_move (v := v34) rfl) rfl hSd, n0 rfl rfl rfl (ex_move (v := .int .i64 (i : Int)) rfl) rfl hSd, n2 rfl rfl rfl rfl (fun hq2 hq3 => (ex_sindexO hI62 (evS hq2 rfl rfl) (evS hq3 rfl rfl) sl44 rfl)) rfl hSd, n1 rfl rfl rfl rfl (fun hq4 => (ex_loadsC (r := 0) (vs := (el y58)) hC63 (hSd.entH 4 rfl) (evS hq4 rfl rfl) ag49 rfl rfl rfl)) rfl hSd, sG rfl, n1 rfl rfl rfl rfl (fun hq6 => (ex_move (v := .tuple #[v68, elV (horn F y58 (mastF F (ptsL F xs) [F.one]))]) (evS hq6 rfl rfl))) rfl hSd, n1 rfl rfl rfl rfl (fun hq7 => (ex_extract (v := v68) (evS hq7 rfl rfl) rfl)) rfl hSd, n1 rfl rfl rfl rfl (fun hq7 => (ex_extract (v := elV (horn F y58 (mastF F (ptsL F xs) [F.one]))) (evS hq7 rfl rfl) rfl)) rfl hSd, sG rfl, sG rfl, tt⟩
    ·intro S wd hSd
     refine ⟨tt, tt, tt, tt, tt, tt, tt, tt, tt, tt, ?_, tt, tt⟩
     refine needH rfl ?_
     rintro ⟨_⟩ hno
     refine dxE (wanted_none rfl) rfl (st_alloc hSd ze49) fun b73 W74 hS75 => ?_
     refine ⟨fun w => St (bks Lt) w0 w ([some (b73, .cells #[.int .u64 0, .int .u64 0, .int .u64 0, .int .u64 0] 49), en69, some (b44, .cells (o.flatMap el).toArray 49), some (b47, .cells #[.slice (so b44) ((ptsL F xs).length) ((ptsL F xs).length)] 44), en42, en35, some (b25, .cells #[v20] 44), en21, some (b7, .cells #[y] 44), some (b4, .cells (fdA F) 117), some (b1, .cells #[t] 58)] ++ Lu) [], [(some 53, fdV F), (some 54, v41), (some 55, v34), (some 56, .int .i64 (i : Int)), (some 57, .pointer (some ⟨b60, o61, none⟩)), (some 58, elV y58), (some 59, .tuple #[v68, elV (horn F y58 (mastF F (ptsL F xs) [F.one]))]), (some 52, .tuple #[v68, elV (horn F y58 (mastF F (ptsL F xs) [F.one]))]), (some 60, v68), (some 61, elV (horn F y58 (mastF F (ptsL F xs) [F.one]))), (some 19, pt b73), (some 18, v68)], [11], hS75, by kernel_rfl, ⟨rfl, rfl, rfl, rfl, rfl, rfl, rfl, rfl, rfl, rfl, rfl, rfl, rfl, rfl, rfl, rfl, rfl, rfl, rfl, rfl, rfl, True.intro, rfl, True.intro, True.intro⟩, rfl, ?_⟩
     show Sc.Node _ _ _ _ _ _ _ 12 [(some 53, fdV F), (some 54, v41), (some 55, v34), (some 56, .int .i64 (i : Int)), (some 57, .pointer (some ⟨b60, o61, none⟩)), (some 58, elV y58), (some 59, .tuple #[v68, elV (horn F y58 (mastF F (ptsL F xs) [F.one]))]), (some 52, .tuple #[v68, elV (horn F y58 (mastF F (ptsL F xs) [F.one]))]), (some 60, v68), (some 61, elV (horn F y58 (mastF F (ptsL F xs) [F.one]))), (some 19, pt b73), (some 18, v68)] [] [10, 6] _
     refine node1 12 [] [10, 6] [] (by kernel_rfl) rfl rfl (nd rfl) rfl (by kernel_rfl) ?_ ?_ ?_
     ·intro S wd hSd
      refine ⟨n0 rfl rfl rfl (ex_loads (vs := (fdC F)) rfl (hSd.at 9 rfl) ag117 rfl rfl) rfl hSd, n0 rfl rfl rfl (ex_move (v := v41) rfl) rfl hSd, n0 rfl rfl rfl (ex_move (v := v34) rfl) rfl hSd, n0 rfl rfl rfl (ex_move (v := .int .i64 (i : Int)) rfl) rfl hSd, n2 rfl rfl rfl rfl (fun hq2 hq3 => (ex_sindexO hI62 (evS hq2 rfl rfl) (evS hq3 rfl rfl) sl44 rfl)) rfl hSd, n1 rfl rfl rfl rfl (fun hq4 => (ex_loadsC (r := 0) (vs := (el y58)) hC63 (hSd.entH 5 rfl) (evS hq4 rfl rfl) ag49 rfl rfl rfl)) rfl hSd, sG rfl, n1 rfl rfl rfl rfl (fun hq6 => (ex_move (v := .tuple #[v68, elV (horn F y58 (mastF F (ptsL F xs) [F.one]))]) (evS hq6 rfl rfl))) rfl hSd, n1 rfl rfl rfl rfl (fun hq7 => (ex_extract (v := v68) (evS hq7 rfl rfl) rfl)) rfl hSd, n1 rfl rfl rfl rfl (fun hq7 => (ex_extract (v := elV (horn F y58 (mastF F (ptsL F xs) [F.one]))) (evS hq7 rfl rfl) rfl)) rfl hSd, sG rfl, ?_, tt⟩
      refine needG rfl ?_
      rintro ⟨hq8, hq6, hq0, hq1, hq2, hq3, hq4, hq5, hq6, hq7, hq8, hq10, _⟩ hno
      exact dx (wanted_none rfl) rfl (ex_assign (v := v68) (evS hq8 rfl rfl)) ⟨rfl, hSd⟩
     ·exact fun S wd hSd => ⟨True.intro, True.intro, True.intro, True.intro, True.intro, True.intro, True.intro, True.intro, True.intro, True.intro, True.intro, True.intro, True.intro⟩
     intro _ W76 hS77
     refine sqUE (st_stores (v := elV (horn F y58 (mastF F (ptsL F xs) [F.one]))) (cs' := #[.int .u64 (limb (horn F y58 (mastF F (ptsL F xs) [F.one])) 0), .int .u64 (limb (horn F y58 (mastF F (ptsL F xs) [F.one])) 1), .int .u64 (limb (horn F y58 (mastF F (ptsL F xs) [F.one])) 2), .int .u64 (limb (horn F y58 (mastF F (ptsL F xs) [F.one])) 3)]) 0 hS77 rfl rfl rfl ag49 rfl (Nat.le_of_ble_eq_true rfl) (ones_of rfl) rfl) fun W78 hS79 => ?_
     show C _ _ _ _ _ _
     refine C_region ?_
     refine sqv (ex_move (v := .func (.func 124) #[] #[pt b4, pt b25, pt b7, pt b47, pt b1]) rfl) ?_
     refine sqv (ex_move (v := .int .i64 (i : Int)) rfl) ?_
     refine sqv (ex_move (v := v68) rfl) ?_
     refine sqc_in (exe_closure (args := #[.int .i64 (i : Int), v68, pt b4, pt b25, pt b7, pt b47, pt b1]) rfl en124 (clo (args_of2 rfl rfl))) fun R80 hR81 => ?_
     have hql : (quoT F y58 ((mastF F (ptsL F xs) [F.one])).tail).length = xs.length := (quo_len _ _ _).trans (pts_len _ _)
     refine calls_of Tryz.func124 rfl Tryz.ntmps124 (Nat.le_of_ble_eq_true rfl) ?_
     refine C_seq ?_
     obtain ⟨y82, hy83⟩ := get_lt (wL F (ptsL F xs)) i (by first | omega | (simp only [List.length_set, List.length_replicate, List.length_append, List.length_take, List.length_drop, List.length_cons, List.length_nil, List.length_map]; omega))
     have hky82 := batL_lt hF _ y82 (List.mem_of_getElem? hy83)
     obtain ⟨b84, o85, hI86, hC87⟩ := sl_at (f := el) (k := 4) (fun _ => rfl) (by decide) ((hp22).slF) hy83
     obtain ⟨y88, hy89⟩ := get_lt ys i (by first | omega | (simp only [List.length_set, List.length_replicate, List.length_append, List.length_take, List.length_drop, List.length_cons, List.length_nil, List.length_map]; omega))
     have hky88 := g2 y88 (List.mem_of_getElem? hy89)
     obtain ⟨b90, o91, hI92, hC93⟩ := sl_at (f := el) (k := 4) (fun _ => rfl) (by decide) (hs_y) hy89
     refine C_draw (p := 11) (l := [(some 11, fdV F), (some 12, v20), (some 13, .int .i64 (i : Int)), (some 14, .pointer (some ⟨b84, o85, none⟩)), (some 15, elV y82), (some 16, y), (some 17, .int .i64 (i : Int)), (some 18, .pointer (some ⟨b90, o91, none⟩)), (some 19, elV y88), (some 20, elV (fMul F y82 y88)), (some 9, undef)]) (G := [10]) (J := fun w => St (bks Lt) w0 w ([some (b73, .cells #[.int .u64 (limb (horn F y58 (mastF F (ptsL F xs) [F.one])) 0), .int .u64 (limb (horn F y58 (mastF F (ptsL F xs) [F.one])) 1), .int .u64 (limb (horn F y58 (mastF F (ptsL F xs) [F.one])) 2), .int .u64 (limb (horn F y58 (mastF F (ptsL F xs) [F.one])) 3)] 49), en69, some (b44, .cells (o.flatMap el).toArray 49), some (b47, .cells #[.slice (so b44) ((ptsL F xs).length) ((ptsL F xs).length)] 44), en42, en35, some (b25, .cells #[v20] 44), en21, some (b7, .cells #[y] 44), some (b4, .cells (fdA F) 117), some (b1, .cells #[t] 58)] ++ Lu) []) mixed ?_ (hS79.draw _)
     refine node1 11 [10] [] [] (by kernel_rfl) rfl rfl (nd rfl) rfl (by kernel_rfl) ?_ ?_ ?_
     ·intro S wd hSd
      refine ⟨n0 rfl rfl rfl (ex_loads (vs := (fdC F)) rfl (hSd.at 9 rfl) ag117 rfl rfl) rfl hSd, n0 rfl rfl rfl (ex_load (v := v20) rfl (hSd.at 6 rfl) on44 rfl) rfl hSd, n0 rfl rfl rfl (ex_move (v := .int .i64 (i : Int)) rfl) rfl hSd, n2 rfl rfl rfl rfl (fun hq1 hq2 => (ex_sindexO hI86 (evS hq1 rfl rfl) (evS hq2 rfl rfl) sl44 rfl)) rfl hSd, n1 rfl rfl rfl rfl (fun hq3 => (ex_loadsC (r := 0) (vs := (el y82)) hC87 (hSd.entH 7 rfl) (evS hq3 rfl rfl) ag49 rfl rfl rfl)) rfl hSd, n0 rfl rfl rfl (ex_load (v := y) rfl (hSd.at 8 rfl) on44 rfl) rfl hSd, n0 rfl rfl rfl (ex_move (v := .int .i64 (i : Int)) rfl) rfl hSd, n2 rfl rfl rfl rfl (fun hq5 hq6 => (ex_sindexO hI92 (evS hq5 rfl rfl) (evS hq6 rfl rfl) sl44 rfl)) rfl hSd, n1 rfl rfl rfl rfl (fun hq7 => (ex_loadsC (r := 0) (vs := (el y88)) hC93 (hSd.holdsA hZ0 hO0) (evS hq7 rfl rfl) ag49 rfl rfl rfl)) rfl hSd, ?_, sG rfl, tt⟩
      refine needG rfl ?_
      rintro ⟨hq0, hq4, hq8, _⟩ hno
      refine dxC (wanted_none rfl) rfl (exe_call (args := #[fdV F, elV y82, elV y88]) en116 (args_of3 (evS hq0 rfl rfl) (evS hq4 rfl rfl) (evS hq8 rfl rfl))) (c_mMul F y82 y88 wd hF (by first | assumption | exact fMul_lt hF _ _) (lt_of_p hF (by first | assumption | exact fMul_lt hF _ _))) ?_
      rintro _ W94 ⟨rfl, hT96⟩
      have hS95 := hSd.call hT96
      exact ⟨rfl, hS95⟩
     ·intro S wd hSd
      refine ⟨tt, tt, tt, tt, tt, tt, tt, tt, tt, tt, ?_, tt⟩
      refine needH rfl ?_
      rintro ⟨_⟩ hno
      refine dxE (wanted_none rfl) rfl (st_alloc hSd ze49) fun b98 W99 hS100 => ?_
      refine ⟨fun w => St (bks Lt) w0 w ([some (b98, .cells #[.int .u64 0, .int .u64 0, .int .u64 0, .int .u64 0] 49), some (b73, .cells #[.int .u64 (limb (horn F y58 (mastF F (ptsL F xs) [F.one])) 0), .int .u64 (limb (horn F y58 (mastF F (ptsL F xs) [F.one])) 1), .int .u64 (limb (horn F y58 (mastF F (ptsL F xs) [F.one])) 2), .int .u64 (limb (horn F y58 (mastF F (ptsL F xs) [F.one])) 3)] 49), en69, some (b44, .cells (o.flatMap el).toArray 49), some (b47, .cells #[.slice (so b44) ((ptsL F xs).length) ((ptsL F xs).length)] 44), en42, en35, some (b25, .cells #[v20] 44), en21, some (b7, .cells #[y] 44), some (b4, .cells (fdA F) 117), some (b1, .cells #[t] 58)] ++ Lu) [], [(some 11, fdV F), (some 12, v20), (some 13, .int .i64 (i : Int)), (some 14, .pointer (some ⟨b84, o85, none⟩)), (some 15, elV y82), (some 16, y), (some 17, .int .i64 (i : Int)), (some 18, .pointer (some ⟨b90, o91, none⟩)), (some 19, elV y88), (some 20, elV (fMul F y82 y88)), (some 9, pt b98)], [], hS100, by kernel_rfl, ⟨rfl, rfl, rfl, rfl, rfl, rfl, rfl, rfl, rfl, rfl, rfl, rfl, rfl, rfl, rfl, rfl, rfl, rfl, rfl, rfl, rfl, True.intro, True.intro⟩, rfl, ?_⟩
      show Sc.Node _ _ _ _ _ _ _ 11 [(some 11, fdV F), (some 12, v20), (some 13, .int .i64 (i : Int)), (some 14, .pointer (some ⟨b84, o85, none⟩)), (some 15, elV y82), (some 16, y), (some 17, .int .i64 (i : Int)), (some 18, .pointer (some ⟨b90, o91, none⟩)), (some 19, elV y88), (some 20, elV (fMul F y82 y88)), (some 9, pt b98)] [] [10] _
      refine node1 11 [] [10] [] (by kernel_rfl) rfl rfl (nd rfl) rfl (by kernel_rfl) ?_ ?_ ?_
      ·intro S wd hSd
       refine ⟨n0 rfl rfl rfl (ex_loads (vs := (fdC F)) rfl (hSd.at 10 rfl) ag117 rfl rfl) rfl hSd, n0 rfl rfl rfl (ex_load (v := v20) rfl (hSd.at 7 rfl) on44 rfl) rfl hSd, n0 rfl rfl rfl (ex_move (v := .int .i64 (i : Int)) rfl) rfl hSd, n2 rfl rfl rfl rfl (fun hq1 hq2 => (ex_sindexO hI86 (evS hq1 rfl rfl) (evS hq2 rfl rfl) sl44 rfl)) rfl hSd, n1 rfl rfl rfl rfl (fun hq3 => (ex_loadsC (r := 0) (vs := (el y82)) hC87 (hSd.entH 8 rfl) (evS hq3 rfl rfl) ag49 rfl rfl rfl)) rfl hSd, n0 rfl rfl rfl (ex_load (v := y) rfl (hSd.at 9 rfl) on44 rfl) rfl hSd, n0 rfl rfl rfl (ex_move (v := .int .i64 (i : Int)) rfl) rfl hSd, n2 rfl rfl rfl rfl (fun hq5 hq6 => (ex_sindexO hI92 (evS hq5 rfl rfl) (evS hq6 rfl rfl) sl44 rfl)) rfl hSd, n1 rfl rfl rfl rfl (fun hq7 => (ex_loadsC (r := 0) (vs := (el y88)) hC93 (hSd.holdsA hZ0 hO0) (evS hq7 rfl rfl) ag49 rfl rfl rfl)) rfl hSd, ?_, sG rfl, tt⟩
       refine needG rfl ?_
       rintro ⟨hq0, hq4, hq8, _⟩ hno
       refine dxC (wanted_none rfl) rfl (exe_call (args := #[fdV F, elV y82, elV y88]) en116 (args_of3 (evS hq0 rfl rfl) (evS hq4 rfl rfl) (evS hq8 rfl rfl))) (c_mMul F y82 y88 wd hF (by first | assumption | exact fMul_lt hF _ _) (lt_of_p hF (by first | assumption | exact fMul_lt hF _ _))) ?_
       rintro _ W94 ⟨rfl, hT96⟩
       have hS95 := hSd.call hT96
       exact ⟨rfl, hS95⟩
      ·exact fun S wd hSd => ⟨True.intro, True.intro, True.intro, True.intro, True.intro, True.intro, True.intro, True.intro, True.intro, True.intro, True.intro, True.intro⟩
      intro _ W101 hS102
      refine sqUE (st_stores (v := elV (fMul F y82 y88)) (cs' := (elA (fMul F y82 y88))) 0 hS102 rfl rfl rfl ag49 rfl (Nat.le_of_ble_eq_true rfl) (ones_of rfl) rfl) fun W103 hS104 => ?_
      show C _ _ _ _ _ _
      refine C_sr ?_
      refine sqv (ex_load (v := .slice (so b44) ((ptsL F xs).length) ((ptsL F xs).length)) rfl (hS104.at 4 rfl) on44 rfl) ?_
      refine sqv (ex_len (r := ((ptsL F xs).length : Int)) rfl sl44 rfl) ?_
      refine sqv (ex_move (v := .int .i64 0) rfl) ?_
      show C _ _ _ _ _ _
      refine C_block ?_
      refine C_loop (fun nn aa ww => ∃ (m0 : Nat → Value) (k : Nat) (o2 : List Nat) (Lu : List Ent), nn = xs.length - k ∧ aa = act 47 (upds m0 [(0, .int .i64 (i : Int)), (1, v68), (2, pt b4), (5, pt b47), (6, pt b1), (9, pt b98), (22, .int .i64 ((ptsL F xs).length : Int)), (23, .int .i64 (k : Int))]) [] ∧ St (bks Lt) w0 ww ([some (b44, .cells (o2.flatMap el).toArray 49), some (b98, .cells (elA (fMul F y82 y88)) 49), some (b73, .cells #[.int .u64 (limb (horn F y58 (mastF F (ptsL F xs) [F.one])) 0), .int .u64 (limb (horn F y58 (mastF F (ptsL F xs) [F.one])) 1), .int .u64 (limb (horn F y58 (mastF F (ptsL F xs) [F.one])) 2), .int .u64 (limb (horn F y58 (mastF F (ptsL F xs) [F.one])) 3)] 49), en69, some (b47, .cells #[.slice (so b44) ((ptsL F xs).length) ((ptsL F xs).length)] 44), en42, en35, some (b25, .cells #[v20] 44), en21, some (b7, .cells #[y] 44), some (b4, .cells (fdA F) 117), some (b1, .cells #[t] 58)] ++ Lu) [] ∧ (k ≤ xs.length) ∧ (o2.length = o.length) ∧ (∀ j, j < o.length → o2[j]? = some (if j < k then fAdd F (o.getD j 0) (fMul F (fMul F y82 y88) ((quoT F y58 ((mastF F (ptsL F xs) [F.one])).tail).getD j 0)) else o.getD j 0)) ∧ (∀ z ∈ o2, z < F.p) ∧ (Tp t (ev ++ wEv xs.length ++ ppEv xs.length i ++ pEv i k) Lu)) xs.length ?_ ?_
      ·exact ⟨_, 0, o, Lu, rfl, act_upds ⟨(congrArg (Value.int .i64) (by first | rfl | omega)), rfl, rfl, rfl, rfl, rfl, (congrArg (Value.int .i64) (by first | rfl | omega)), (congrArg (Value.int .i64) (by first | rfl | omega)), trivial⟩, (St.pickB (Lf := [some (b98, .cells (elA (fMul F y82 y88)) 49), some (b73, .cells #[.int .u64 (limb (horn F y58 (mastF F (ptsL F xs) [F.one])) 0), .int .u64 (limb (horn F y58 (mastF F (ptsL F xs) [F.one])) 1), .int .u64 (limb (horn F y58 (mastF F (ptsL F xs) [F.one])) 2), .int .u64 (limb (horn F y58 (mastF F (ptsL F xs) [F.one])) 3)] 49), en69, some (b44, .cells (o.flatMap el).toArray 49), some (b47, .cells #[.slice (so b44) ((ptsL F xs).length) ((ptsL F xs).length)] 44), en42, en35, some (b25, .cells #[v20] 44), en21, some (b7, .cells #[y] 44), some (b4, .cells (fdA F) 117), some (b1, .cells #[t] 58)]) hS104 [3, 0, 1, 2, 4, 5, 6, 7, 8, 9, 10, 11] (by decide) rfl), (Nat.zero_le _), rfl, as_init, hop, (by rw [show ∀ n, pEv n 0 = [] from fun _ => rfl, List.append_nil]; exact hUu)⟩
      rintro n108 a109 W106 ⟨m105, k, o2, Lu, rfl, rfl, hS107, hk, hol2, ho2, hop2, hUu⟩
      refine C_sr ?_
      refine sqv (ex_cmp (x := (k : Int)) (y := ((ptsL F xs).length : Int)) (r := decide ((k : Int) < ((ptsL F xs).length : Int))) rfl rfl rfl) ?_
      show C _ _ _ _ _ _
      refine C_seq ?_
      refine C_dec ((k : Int) < ((ptsL F xs).length : Int)) rfl (fun hc110 => ?_) (fun hc110 => ?_)
      ·refine C_skip ?_
       show C _ _ _ _ _ _
       refine C_seq ?_
       refine C_block ?_
       refine C_sr ?_
       refine sqv (ex_move (v := .int .i64 (k : Int)) rfl) ?_
       refine sqv (ex_assign (v := .int .i64 (k : Int)) rfl) ?_
       show C _ _ _ _ _ _
       refine C_sr ?_
       refine sqv (ex_load (v := t) rfl (hS107.at 11 rfl) on58 rfl) ?_
       refine sqv (ex_move (v := .int .i64 (i : Int)) rfl) ?_
       refine sqv (ex_move (v := .int .i64 (k : Int)) rfl) ?_
       refine sqc (exe_call (args := #[t, .int .i64 3, .int .i64 (i : Int), .int .i64 (k : Int)]) en52 (args_of4 rfl rfl rfl rfl)) (c_Note 3 (i : Int) (k : Int) t (ev ++ wEv xs.length ++ ppEv xs.length i ++ pEv i k) Lu W106 (by have h1 := wEv_len xs.length; have h2 := ppEv_len xs.length i; have h3 := pEv_len i k; have h4 := Nat.mul_le_mul_right xs.length (show i + 1 ≤ xs.length by omega); rw [Nat.add_mul] at h4; simp only [List.length_append]; omega) hUu (St.lend (Lf := [some (b44, .cells (o2.flatMap el).toArray 49), some (b98, .cells (elA (fMul F y82 y88)) 49), some (b73, .cells #[.int .u64 (limb (horn F y58 (mastF F (ptsL F xs) [F.one])) 0), .int .u64 (limb (horn F y58 (mastF F (ptsL F xs) [F.one])) 1), .int .u64 (limb (horn F y58 (mastF F (ptsL F xs) [F.one])) 2), .int .u64 (limb (horn F y58 (mastF F (ptsL F xs) [F.one])) 3)] 49), en69, some (b47, .cells #[.slice (so b44) ((ptsL F xs).length) ((ptsL F xs).length)] 44), en42, en35, some (b25, .cells #[v20] 44), en21, some (b7, .cells #[y] 44), some (b4, .cells (fdA F) 117), some (b1, .cells #[t] 58)]) hS107)) ?_
       rintro _ W111 ⟨Lt115, rfl, hU116, hT113⟩
       have hS112 := St.callS (Lf := [some (b44, .cells (o2.flatMap el).toArray 49), some (b98, .cells (elA (fMul F y82 y88)) 49), some (b73, .cells #[.int .u64 (limb (horn F y58 (mastF F (ptsL F xs) [F.one])) 0), .int .u64 (limb (horn F y58 (mastF F (ptsL F xs) [F.one])) 1), .int .u64 (limb (horn F y58 (mastF F (ptsL F xs) [F.one])) 2), .int .u64 (limb (horn F y58 (mastF F (ptsL F xs) [F.one])) 3)] 49), en69, some (b47, .cells #[.slice (so b44) ((ptsL F xs).length) ((ptsL F xs).length)] 44), en42, en35, some (b25, .cells #[v20] 44), en21, some (b7, .cells #[y] 44), some (b4, .cells (fdA F) 117), some (b1, .cells #[t] 58)]) (Ln := []) hS107 hT113
       show C _ _ _ _ _ _
       obtain ⟨y117, hy118⟩ := get_lt o2 k (by first | omega | (simp only [List.length_set, List.length_replicate, List.length_append, List.length_take, List.length_drop, List.length_cons, List.length_nil, List.length_map]; omega))
       have hky117 := hop2 y117 (List.mem_of_getElem? hy118)
       obtain ⟨y119, hy120⟩ := get_lt (quoT F y58 ((mastF F (ptsL F xs) [F.one])).tail) k (by first | omega | (simp only [List.length_set, List.length_replicate, List.length_append, List.length_take, List.length_drop, List.length_cons, List.length_nil, List.length_map]; omega))
       have hky119 := quoT_lt hF _ _ y119 (List.mem_of_getElem? hy120)
       obtain ⟨b121, o122, hI123, hC124⟩ := sl_at (f := el) (k := 4) (fun _ => rfl) (by decide) ((hp70).slF) hy120
       refine C_draw (p := 15) (l := [(some 30, .slice (so b44) ((ptsL F xs).length) ((ptsL F xs).length)), (some 31, .int .i64 (k : Int)), (some 32, fdV F), (some 33, .slice (so b44) ((ptsL F xs).length) ((ptsL F xs).length)), (some 34, .int .i64 (k : Int)), (some 35, .pointer (some ⟨b44, k * 4, none⟩)), (some 36, elV y117), (some 37, fdV F), (some 38, elV (fMul F y82 y88)), (some 39, v68), (some 40, .int .i64 (k : Int)), (some 41, .pointer (some ⟨b121, o122, none⟩)), (some 42, elV y119), (some 43, elV (fMul F (fMul F y82 y88) y119)), (some 44, elV (fAdd F y117 (fMul F (fMul F y82 y88) y119)))]) (G := []) (J := fun w => St (bks Lt) w0 w ([some (b44, .cells (o2.flatMap el).toArray 49), some (b98, .cells (elA (fMul F y82 y88)) 49), some (b73, .cells #[.int .u64 (limb (horn F y58 (mastF F (ptsL F xs) [F.one])) 0), .int .u64 (limb (horn F y58 (mastF F (ptsL F xs) [F.one])) 1), .int .u64 (limb (horn F y58 (mastF F (ptsL F xs) [F.one])) 2), .int .u64 (limb (horn F y58 (mastF F (ptsL F xs) [F.one])) 3)] 49), en69, some (b47, .cells #[.slice (so b44) ((ptsL F xs).length) ((ptsL F xs).length)] 44), en42, en35, some (b25, .cells #[v20] 44), en21, some (b7, .cells #[y] 44), some (b4, .cells (fdA F) 117), some (b1, .cells #[t] 58)] ++ Lt115) []) mixed ?_ (hS112.draw _)
       refine node1 15 [] [] [] (by kernel_rfl) rfl rfl (nd rfl) rfl (by kernel_rfl) ?_ ?_ ?_
       ·intro S wd hSd
        refine ⟨n0 rfl rfl rfl (ex_load (v := .slice (so b44) ((ptsL F xs).length) ((ptsL F xs).length)) rfl (hSd.at 4 rfl) on44 rfl) rfl hSd, n0 rfl rfl rfl (ex_move (v := .int .i64 (k : Int)) rfl) rfl hSd, n0 rfl rfl rfl (ex_loads (vs := (fdC F)) rfl (hSd.at 10 rfl) ag117 rfl rfl) rfl hSd, n0 rfl rfl rfl (ex_load (v := .slice (so b44) ((ptsL F xs).length) ((ptsL F xs).length)) rfl (hSd.at 4 rfl) on44 rfl) rfl hSd, n0 rfl rfl rfl (ex_move (v := .int .i64 (k : Int)) rfl) rfl hSd, n2 rfl rfl rfl rfl (fun hq3 hq4 => (ex_sindex (j := (k : Int)) (o' := k * 4) (evS hq3 rfl rfl) (evS hq4 rfl rfl) sl44 (by omega) (by omega) (by omega))) rfl hSd, n1 rfl rfl rfl rfl (fun hq5 => (ex_loadsM (f := el) (k := 4) (i := k) (fun _ => rfl) (evS hq5 rfl rfl) (hSd.at 0 rfl) ag49 rfl hy118)) rfl hSd, n0 rfl rfl rfl (ex_loads (vs := (fdC F)) rfl (hSd.at 10 rfl) ag117 rfl rfl) rfl hSd, n0 rfl rfl rfl (ex_loads (vs := (el (fMul F y82 y88))) rfl (hSd.at 1 rfl) ag49 rfl rfl) rfl hSd, n0 rfl rfl rfl (ex_move (v := v68) rfl) rfl hSd, n0 rfl rfl rfl (ex_move (v := .int .i64 (k : Int)) rfl) rfl hSd, n2 rfl rfl rfl rfl (fun hq9 hq10 => (ex_sindexO hI123 (evS hq9 rfl rfl) (evS hq10 rfl rfl) sl44 rfl)) rfl hSd, n1 rfl rfl rfl rfl (fun hq11 => (ex_loadsC (r := 0) (vs := (el y119)) hC124 (hSd.entH 3 rfl) (evS hq11 rfl rfl) ag49 rfl rfl rfl)) rfl hSd, ?_, ?_, tt⟩
        ·refine needG rfl ?_
         rintro ⟨hq7, hq8, hq12, _⟩ hno
         refine dxC (wanted_none rfl) rfl (exe_call (args := #[fdV F, elV (fMul F y82 y88), elV y119]) en116 (args_of3 (evS hq7 rfl rfl) (evS hq8 rfl rfl) (evS hq12 rfl rfl))) (c_mMul F (fMul F y82 y88) y119 wd hF (by first | assumption | exact fMul_lt hF _ _) (lt_of_p hF (by first | assumption | exact fMul_lt hF _ _))) ?_
         rintro _ W125 ⟨rfl, hT127⟩
         have hS126 := hSd.call hT127
         exact ⟨rfl, hS126⟩
        refine needG rfl ?_
        rintro ⟨hq2, hq6, hq13, hq13, _⟩ hno
        refine dxC (wanted_none rfl) rfl (exe_call (args := #[fdV F, elV y117, elV (fMul F (fMul F y82 y88) y119)]) en117 (args_of3 (evS hq2 rfl rfl) (evS hq6 rfl rfl) (evS hq13 rfl rfl))) (c_mAdd F y117 (fMul F (fMul F y82 y88) y119) wd hF (by assumption) (fMul_lt hF _ _)) ?_
        rintro _ W129 ⟨rfl, hT131⟩
        have hS130 := hSd.call hT131
        exact ⟨rfl, hS130⟩
       ·exact fun S wd hSd => ⟨True.intro, True.intro, True.intro, True.intro, True.intro, True.intro, True.intro, True.intro, True.intro, True.intro, True.intro, True.intro, True.intro, True.intro, True.intro, True.intro⟩
       intro _ W133 hS134
       refine sqv (ex_sindex (j := (k : Int)) (o' := k * 4) rfl rfl sl44 (by omega) (by omega) (by omega)) ?_
       refine sqUE (st_storesM (f := el) (k := 4) (z := fAdd F y117 (fMul F (fMul F y82 y88) y119)) (i' := k) (fun _ => rfl) 0 hS134 rfl rfl rfl ag49 rfl (by first | omega | (simp only [List.length_set, List.length_replicate, List.length_append, List.length_take, List.length_drop]; omega)) rfl (ones_of rfl)) fun W135 hS136 => ?_
       refine blk_normal ?_
       show C _ _ _ _ _ _
       refine C_region ?_
       refine nm ((k : Int) + 1) fun x137 hx137 => ?_
       refine sqv (ex_add (x := (k : Int)) (y := 1) rfl rfl (w64 hx137 (by omega))) ?_
       refine sqv (ex_move (v := .int .i64 x137) rfl) ?_
       exact ⟨_, (by omega), ⟨_, (k + 1), (o2.set k (fAdd F y117 (fMul F (fMul F y82 y88) y119))), Lt115, rfl, act_upds ⟨(congrArg (Value.int .i64) (by first | rfl | omega)), rfl, rfl, rfl, rfl, rfl, (congrArg (Value.int .i64) (by first | rfl | omega)), (congrArg (Value.int .i64) (by first | rfl | omega)), trivial⟩, (St.pickB (Lf := [some (b44, .cells ((o2.set k (fAdd F y117 (fMul F (fMul F y82 y88) y119))).flatMap el).toArray 49), some (b98, .cells (elA (fMul F y82 y88)) 49), some (b73, .cells #[.int .u64 (limb (horn F y58 (mastF F (ptsL F xs) [F.one])) 0), .int .u64 (limb (horn F y58 (mastF F (ptsL F xs) [F.one])) 1), .int .u64 (limb (horn F y58 (mastF F (ptsL F xs) [F.one])) 2), .int .u64 (limb (horn F y58 (mastF F (ptsL F xs) [F.one])) 3)] 49), en69, some (b47, .cells #[.slice (so b44) ((ptsL F xs).length) ((ptsL F xs).length)] 44), en42, en35, some (b25, .cells #[v20] 44), en21, some (b7, .cells #[y] 44), some (b4, .cells (fdA F) 117), some (b1, .cells #[t] 58)]) hS136 [0, 1, 2, 3, 4, 5, 6, 7, 8, 9, 10, 11] (by decide) rfl), (by omega), (by rw [List.length_set]; exact hol2), (as_step ho2 hol2 (by omega) hy118 hy120), (all_set hop2 (fAdd_lt hF _ _)), (by rw [pEv, ← List.append_assoc]; exact hU116)⟩⟩
      refine C_exit ?_
      refine thn_exit ?_
      refine thn_exit ?_
      refine blk_exit ?_
      refine done_0n  rfl  ?_
      refine hR81 _ _ ?_
      refine blk_normal ?_
      show C _ _ _ _ _ _
      refine C_region ?_
      refine nm ((i : Int) + 1) fun x138 hx138 => ?_
      refine sqv (ex_add (x := (i : Int)) (y := 1) rfl rfl (w64 hx138 (by omega))) ?_
      refine sqv (ex_move (v := .int .i64 x138) rfl) ?_
      obtain rfl : k = xs.length := by omega
      exact ⟨_, (by omega), ⟨_, (i + 1), o2, Lu, rfl, act_upds ⟨rfl, rfl, (congrArg (Value.int .i64) (by first | rfl | omega)), rfl, rfl, rfl, rfl, (congrArg (Value.int .i64) (by first | rfl | omega)), (congrArg (Value.int .i64) (by first | rfl | omega)), trivial⟩, (St.pickB (Lf := [some (b44, .cells (o2.flatMap el).toArray 49), some (b98, .cells (elA (fMul F y82 y88)) 49), some (b73, .cells #[.int .u64 (limb (horn F y58 (mastF F (ptsL F xs) [F.one])) 0), .int .u64 (limb (horn F y58 (mastF F (ptsL F xs) [F.one])) 1), .int .u64 (limb (horn F y58 (mastF F (ptsL F xs) [F.one])) 2), .int .u64 (limb (horn F y58 (mastF F (ptsL F xs) [F.one])) 3)] 49), en69, some (b47, .cells #[.slice (so b44) ((ptsL F xs).length) ((ptsL F xs).length)] 44), en42, en35, some (b25, .cells #[v20] 44), en21, some (b7, .cells #[y] 44), some (b4, .cells (fdA F) 117), some (b1, .cells #[t] 58)]) hS107 [0, 4, 5, 6, 7, 8, 9, 10, 11] (by decide) rfl), (by omega), (by omega), (int_step ho hy83 hy89 hy59 (as_done (by rw [hol]; rw [hol] at ho2; exact ho2) hol2)), hop2, (by rw [ppEv, ← List.append_assoc]; exact hUu)⟩⟩
     exact fun h => absurd h (by decide)
    exact fun h => absurd h (by decide)
   refine needH rfl ?_
   rintro ⟨_⟩ hno
   refine dxE (wanted_none rfl) rfl (st_alloc hSd ze49) fun b139 W140 hS141 => ?_
   refine ⟨fun w => St (bks Lt) w0 w ([some (b139, .cells #[.int .u64 0, .int .u64 0, .int .u64 0, .int .u64 0] 49), some (b44, .cells (o.flatMap el).toArray 49), some (b47, .cells #[.slice (so b44) ((ptsL F xs).length) ((ptsL F xs).length)] 44), en42, en35, some (b25, .cells #[v20] 44), en21, some (b7, .cells #[y] 44), some (b4, .cells (fdA F) 117), some (b1, .cells #[t] 58)] ++ Lu) [], [(some 53, fdV F), (some 54, v41), (some 55, v34), (some 56, .int .i64 (i : Int)), (some 57, .pointer (some ⟨b60, o61, none⟩)), (some 58, elV y58), (some 59, undef), (some 52, undef), (some 60, undef), (some 61, undef), (some 19, pt b139), (some 18, undef)], [11], hS141, by kernel_rfl, ⟨rfl, rfl, rfl, rfl, rfl, rfl, rfl, rfl, rfl, rfl, rfl, rfl, rfl, rfl, rfl, rfl, rfl, rfl, rfl, rfl, rfl, True.intro, rfl, True.intro, True.intro⟩, rfl, ?_⟩
   show Sc.Node _ _ _ _ _ _ _ 12 [(some 53, fdV F), (some 54, v41), (some 55, v34), (some 56, .int .i64 (i : Int)), (some 57, .pointer (some ⟨b60, o61, none⟩)), (some 58, elV y58), (some 59, undef), (some 52, undef), (some 60, undef), (some 61, undef), (some 19, pt b139), (some 18, undef)] [6] [10] _
   refine node1 12 [6] [10] [7, 8, 9, 11] (by kernel_rfl) rfl rfl (nd rfl) rfl (by kernel_rfl) ?_ ?_ ?_
   ·intro S wd hSd
    exact ⟨n0 rfl rfl rfl (ex_loads (vs := (fdC F)) rfl (hSd.at 8 rfl) ag117 rfl rfl) rfl hSd, n0 rfl rfl rfl (ex_move (v := v41) rfl) rfl hSd, n0 rfl rfl rfl (ex_move (v := v34) rfl) rfl hSd, n0 rfl rfl rfl (ex_move (v := .int .i64 (i : Int)) rfl) rfl hSd, n2 rfl rfl rfl rfl (fun hq2 hq3 => (ex_sindexO hI62 (evS hq2 rfl rfl) (evS hq3 rfl rfl) sl44 rfl)) rfl hSd, n1 rfl rfl rfl rfl (fun hq4 => (ex_loadsC (r := 0) (vs := (el y58)) hC63 (hSd.entH 4 rfl) (evS hq4 rfl rfl) ag49 rfl rfl rfl)) rfl hSd, sG rfl, sG rfl, sG rfl, sG rfl, sG rfl, sG rfl, tt⟩
   ·intro S wd hSd
    refine ⟨tt, tt, tt, tt, tt, tt, ?_, tt, tt, tt, tt, tt, tt⟩
    refine needH rfl ?_
    rintro ⟨hq0, hq1, hq5, _⟩ hno
    refine dxC (wanted_none rfl) rfl (exe_call (args := #[.pointer none, fdV F, v41, elV y58]) en115 (args_of4 rfl (evS hq0 rfl rfl) (evS hq1 rfl rfl) (evS hq5 rfl rfl))) (c_Quotient F y58 v41 (mastF F (ptsL F xs) [F.one]) (entF en42) (.pointer none) ([]) ([]) wd hF (ms_lt hF _) (pts_lt hF xs _ (List.mem_of_getElem? (by assumption))) (by simp only [ms_len, pts_len, List.length_nil]; omega) (hSd.entH 3 rfl) (Off.nil _) ((hp43).slF) (Tape.nil _ _ _ _) (St.nil _)) ?_
    rintro _ W142 ⟨v146, en147, Lt149, rfl, hp148, hU150, hT144⟩
    obtain rfl := tape_nil hU150
    have hS143 := St.call (Ln := [en147]) hSd hT144
    refine ⟨fun w => St (bks Lt) w0 w ([en147, some (b139, .cells #[.int .u64 0, .int .u64 0, .int .u64 0, .int .u64 0] 49), some (b44, .cells (o.flatMap el).toArray 49), some (b47, .cells #[.slice (so b44) ((ptsL F xs).length) ((ptsL F xs).length)] 44), en42, en35, some (b25, .cells #[v20] 44), en21, some (b7, .cells #[y] 44), some (b4, .cells (fdA F) 117), some (b1, .cells #[t] 58)] ++ Lu) [], [(some 53, fdV F), (some 54, v41), (some 55, v34), (some 56, .int .i64 (i : Int)), (some 57, .pointer (some ⟨b60, o61, none⟩)), (some 58, elV y58), (some 59, .tuple #[v146, elV (horn F y58 (mastF F (ptsL F xs) [F.one]))]), (some 52, .tuple #[v146, elV (horn F y58 (mastF F (ptsL F xs) [F.one]))]), (some 60, v146), (some 61, elV (horn F y58 (mastF F (ptsL F xs) [F.one]))), (some 19, pt b139), (some 18, v146)], [7, 8, 9, 11], hS143, by kernel_rfl, ⟨rfl, rfl, rfl, rfl, rfl, rfl, rfl, rfl, rfl, rfl, rfl, rfl, rfl, True.intro, rfl, True.intro, rfl, True.intro, rfl, True.intro, rfl, rfl, rfl, True.intro, True.intro⟩, rfl, ?_⟩
    show Sc.Node _ _ _ _ _ _ _ 12 [(some 53, fdV F), (some 54, v41), (some 55, v34), (some 56, .int .i64 (i : Int)), (some 57, .pointer (some ⟨b60, o61, none⟩)), (some 58, elV y58), (some 59, .tuple #[v146, elV (horn F y58 (mastF F (ptsL F xs) [F.one]))]), (some 52, .tuple #[v146, elV (horn F y58 (mastF F (ptsL F xs) [F.one]))]), (some 60, v146), (some 61, elV (horn F y58 (mastF F (ptsL F xs) [F.one]))), (some 19, pt b139), (some 18, v146)] [] [6, 10] _
    refine node1 12 [] [6, 10] [] (by kernel_rfl) rfl rfl (nd rfl) rfl (by kernel_rfl) ?_ ?_ ?_
    ·intro S wd hSd
     refine ⟨n0 rfl rfl rfl (ex_loads (vs := (fdC F)) rfl (hSd.at 9 rfl) ag117 rfl rfl) rfl hSd, n0 rfl rfl rfl (ex_move (v := v41) rfl) rfl hSd, n0 rfl rfl rfl (ex_move (v := v34) rfl) rfl hSd, n0 rfl rfl rfl (ex_move (v := .int .i64 (i : Int)) rfl) rfl hSd, n2 rfl rfl rfl rfl (fun hq2 hq3 => (ex_sindexO hI62 (evS hq2 rfl rfl) (evS hq3 rfl rfl) sl44 rfl)) rfl hSd, n1 rfl rfl rfl rfl (fun hq4 => (ex_loadsC (r := 0) (vs := (el y58)) hC63 (hSd.entH 5 rfl) (evS hq4 rfl rfl) ag49 rfl rfl rfl)) rfl hSd, sG rfl, n1 rfl rfl rfl rfl (fun hq6 => (ex_move (v := .tuple #[v146, elV (horn F y58 (mastF F (ptsL F xs) [F.one]))]) (evS hq6 rfl rfl))) rfl hSd, n1 rfl rfl rfl rfl (fun hq7 => (ex_extract (v := v146) (evS hq7 rfl rfl) rfl)) rfl hSd, n1 rfl rfl rfl rfl (fun hq7 => (ex_extract (v := elV (horn F y58 (mastF F (ptsL F xs) [F.one]))) (evS hq7 rfl rfl) rfl)) rfl hSd, sG rfl, ?_, tt⟩
     refine needG rfl ?_
     rintro ⟨hq8, hq6, hq0, hq1, hq2, hq3, hq4, hq5, hq6, hq7, hq8, hq10, _⟩ hno
     exact dx (wanted_none rfl) rfl (ex_assign (v := v146) (evS hq8 rfl rfl)) ⟨rfl, hSd⟩
    ·exact fun S wd hSd => ⟨True.intro, True.intro, True.intro, True.intro, True.intro, True.intro, True.intro, True.intro, True.intro, True.intro, True.intro, True.intro, True.intro⟩
    intro _ W151 hS152
    refine sqUE (st_stores (v := elV (horn F y58 (mastF F (ptsL F xs) [F.one]))) (cs' := #[.int .u64 (limb (horn F y58 (mastF F (ptsL F xs) [F.one])) 0), .int .u64 (limb (horn F y58 (mastF F (ptsL F xs) [F.one])) 1), .int .u64 (limb (horn F y58 (mastF F (ptsL F xs) [F.one])) 2), .int .u64 (limb (horn F y58 (mastF F (ptsL F xs) [F.one])) 3)]) 1 hS152 rfl rfl rfl ag49 rfl (Nat.le_of_ble_eq_true rfl) (ones_of rfl) rfl) fun W153 hS154 => ?_
    show C _ _ _ _ _ _
    refine C_region ?_
    refine sqv (ex_move (v := .func (.func 124) #[] #[pt b4, pt b25, pt b7, pt b47, pt b1]) rfl) ?_
    refine sqv (ex_move (v := .int .i64 (i : Int)) rfl) ?_
    refine sqv (ex_move (v := v146) rfl) ?_
    refine sqc_in (exe_closure (args := #[.int .i64 (i : Int), v146, pt b4, pt b25, pt b7, pt b47, pt b1]) rfl en124 (clo (args_of2 rfl rfl))) fun R155 hR156 => ?_
    have hql : (quoT F y58 ((mastF F (ptsL F xs) [F.one])).tail).length = xs.length := (quo_len _ _ _).trans (pts_len _ _)
    refine calls_of Tryz.func124 rfl Tryz.ntmps124 (Nat.le_of_ble_eq_true rfl) ?_
    refine C_seq ?_
    obtain ⟨y157, hy158⟩ := get_lt (wL F (ptsL F xs)) i (by first | omega | (simp only [List.length_set, List.length_replicate, List.length_append, List.length_take, List.length_drop, List.length_cons, List.length_nil, List.length_map]; omega))
    have hky157 := batL_lt hF _ y157 (List.mem_of_getElem? hy158)
    obtain ⟨b159, o160, hI161, hC162⟩ := sl_at (f := el) (k := 4) (fun _ => rfl) (by decide) ((hp22).slF) hy158
    obtain ⟨y163, hy164⟩ := get_lt ys i (by first | omega | (simp only [List.length_set, List.length_replicate, List.length_append, List.length_take, List.length_drop, List.length_cons, List.length_nil, List.length_map]; omega))
    have hky163 := g2 y163 (List.mem_of_getElem? hy164)
    obtain ⟨b165, o166, hI167, hC168⟩ := sl_at (f := el) (k := 4) (fun _ => rfl) (by decide) (hs_y) hy164
    refine C_draw (p := 11) (l := [(some 11, fdV F), (some 12, v20), (some 13, .int .i64 (i : Int)), (some 14, .pointer (some ⟨b159, o160, none⟩)), (some 15, elV y157), (some 16, y), (some 17, .int .i64 (i : Int)), (some 18, .pointer (some ⟨b165, o166, none⟩)), (some 19, elV y163), (some 20, elV (fMul F y157 y163)), (some 9, undef)]) (G := [10]) (J := fun w => St (bks Lt) w0 w ([en147, some (b139, .cells #[.int .u64 (limb (horn F y58 (mastF F (ptsL F xs) [F.one])) 0), .int .u64 (limb (horn F y58 (mastF F (ptsL F xs) [F.one])) 1), .int .u64 (limb (horn F y58 (mastF F (ptsL F xs) [F.one])) 2), .int .u64 (limb (horn F y58 (mastF F (ptsL F xs) [F.one])) 3)] 49), some (b44, .cells (o.flatMap el).toArray 49), some (b47, .cells #[.slice (so b44) ((ptsL F xs).length) ((ptsL F xs).length)] 44), en42, en35, some (b25, .cells #[v20] 44), en21, some (b7, .cells #[y] 44), some (b4, .cells (fdA F) 117), some (b1, .cells #[t] 58)] ++ Lu) []) mixed ?_ (hS154.draw _)
    refine node1 11 [10] [] [] (by kernel_rfl) rfl rfl (nd rfl) rfl (by kernel_rfl) ?_ ?_ ?_
    ·intro S wd hSd
     refine ⟨n0 rfl rfl rfl (ex_loads (vs := (fdC F)) rfl (hSd.at 9 rfl) ag117 rfl rfl) rfl hSd, n0 rfl rfl rfl (ex_load (v := v20) rfl (hSd.at 6 rfl) on44 rfl) rfl hSd, n0 rfl rfl rfl (ex_move (v := .int .i64 (i : Int)) rfl) rfl hSd, n2 rfl rfl rfl rfl (fun hq1 hq2 => (ex_sindexO hI161 (evS hq1 rfl rfl) (evS hq2 rfl rfl) sl44 rfl)) rfl hSd, n1 rfl rfl rfl rfl (fun hq3 => (ex_loadsC (r := 0) (vs := (el y157)) hC162 (hSd.entH 7 rfl) (evS hq3 rfl rfl) ag49 rfl rfl rfl)) rfl hSd, n0 rfl rfl rfl (ex_load (v := y) rfl (hSd.at 8 rfl) on44 rfl) rfl hSd, n0 rfl rfl rfl (ex_move (v := .int .i64 (i : Int)) rfl) rfl hSd, n2 rfl rfl rfl rfl (fun hq5 hq6 => (ex_sindexO hI167 (evS hq5 rfl rfl) (evS hq6 rfl rfl) sl44 rfl)) rfl hSd, n1 rfl rfl rfl rfl (fun hq7 => (ex_loadsC (r := 0) (vs := (el y163)) hC168 (hSd.holdsA hZ0 hO0) (evS hq7 rfl rfl) ag49 rfl rfl rfl)) rfl hSd, ?_, sG rfl, tt⟩
     refine needG rfl ?_
     rintro ⟨hq0, hq4, hq8, _⟩ hno
     refine dxC (wanted_none rfl) rfl (exe_call (args := #[fdV F, elV y157, elV y163]) en116 (args_of3 (evS hq0 rfl rfl) (evS hq4 rfl rfl) (evS hq8 rfl rfl))) (c_mMul F y157 y163 wd hF (by first | assumption | exact fMul_lt hF _ _) (lt_of_p hF (by first | assumption | exact fMul_lt hF _ _))) ?_
     rintro _ W169 ⟨rfl, hT171⟩
     have hS170 := hSd.call hT171
     exact ⟨rfl, hS170⟩
    ·intro S wd hSd
     refine ⟨tt, tt, tt, tt, tt, tt, tt, tt, tt, tt, ?_, tt⟩
     refine needH rfl ?_
     rintro ⟨_⟩ hno
     refine dxE (wanted_none rfl) rfl (st_alloc hSd ze49) fun b173 W174 hS175 => ?_
     refine ⟨fun w => St (bks Lt) w0 w ([some (b173, .cells #[.int .u64 0, .int .u64 0, .int .u64 0, .int .u64 0] 49), en147, some (b139, .cells #[.int .u64 (limb (horn F y58 (mastF F (ptsL F xs) [F.one])) 0), .int .u64 (limb (horn F y58 (mastF F (ptsL F xs) [F.one])) 1), .int .u64 (limb (horn F y58 (mastF F (ptsL F xs) [F.one])) 2), .int .u64 (limb (horn F y58 (mastF F (ptsL F xs) [F.one])) 3)] 49), some (b44, .cells (o.flatMap el).toArray 49), some (b47, .cells #[.slice (so b44) ((ptsL F xs).length) ((ptsL F xs).length)] 44), en42, en35, some (b25, .cells #[v20] 44), en21, some (b7, .cells #[y] 44), some (b4, .cells (fdA F) 117), some (b1, .cells #[t] 58)] ++ Lu) [], [(some 11, fdV F), (some 12, v20), (some 13, .int .i64 (i : Int)), (some 14, .pointer (some ⟨b159, o160, none⟩)), (some 15, elV y157), (some 16, y), (some 17, .int .i64 (i : Int)), (some 18, .pointer (some ⟨b165, o166, none⟩)), (some 19, elV y163), (some 20, elV (fMul F y157 y163)), (some 9, pt b173)], [], hS175, by kernel_rfl, ⟨rfl, rfl, rfl, rfl, rfl, rfl, rfl, rfl, rfl, rfl, rfl, rfl, rfl, rfl, rfl, rfl, rfl, rfl, rfl, rfl, rfl, True.intro, True.intro⟩, rfl, ?_⟩
     show Sc.Node _ _ _ _ _ _ _ 11 [(some 11, fdV F), (some 12, v20), (some 13, .int .i64 (i : Int)), (some 14, .pointer (some ⟨b159, o160, none⟩)), (some 15, elV y157), (some 16, y), (some 17, .int .i64 (i : Int)), (some 18, .pointer (some ⟨b165, o166, none⟩)), (some 19, elV y163), (some 20, elV (fMul F y157 y163)), (some 9, pt b173)] [] [10] _
     refine node1 11 [] [10] [] (by kernel_rfl) rfl rfl (nd rfl) rfl (by kernel_rfl) ?_ ?_ ?_
     ·intro S wd hSd
      refine ⟨n0 rfl rfl rfl (ex_loads (vs := (fdC F)) rfl (hSd.at 10 rfl) ag117 rfl rfl) rfl hSd, n0 rfl rfl rfl (ex_load (v := v20) rfl (hSd.at 7 rfl) on44 rfl) rfl hSd, n0 rfl rfl rfl (ex_move (v := .int .i64 (i : Int)) rfl) rfl hSd, n2 rfl rfl rfl rfl (fun hq1 hq2 => (ex_sindexO hI161 (evS hq1 rfl rfl) (evS hq2 rfl rfl) sl44 rfl)) rfl hSd, n1 rfl rfl rfl rfl (fun hq3 => (ex_loadsC (r := 0) (vs := (el y157)) hC162 (hSd.entH 8 rfl) (evS hq3 rfl rfl) ag49 rfl rfl rfl)) rfl hSd, n0 rfl rfl rfl (ex_load (v := y) rfl (hSd.at 9 rfl) on44 rfl) rfl hSd, n0 rfl rfl rfl (ex_move (v := .int .i64 (i : Int)) rfl) rfl hSd, n2 rfl rfl rfl rfl (fun hq5 hq6 => (ex_sindexO hI167 (evS hq5 rfl rfl) (evS hq6 rfl rfl) sl44 rfl)) rfl hSd, n1 rfl rfl rfl rfl (fun hq7 => (ex_loadsC (r := 0) (vs := (el y163)) hC168 (hSd.holdsA hZ0 hO0) (evS hq7 rfl rfl) ag49 rfl rfl rfl)) rfl hSd, ?_, sG rfl, tt⟩
      refine needG rfl ?_
      rintro ⟨hq0, hq4, hq8, _⟩ hno
      refine dxC (wanted_none rfl) rfl (exe_call (args := #[fdV F, elV y157, elV y163]) en116 (args_of3 (evS hq0 rfl rfl) (evS hq4 rfl rfl) (evS hq8 rfl rfl))) (c_mMul F y157 y163 wd hF (by first | assumption | exact fMul_lt hF _ _) (lt_of_p hF (by first | assumption | exact fMul_lt hF _ _))) ?_
      rintro _ W169 ⟨rfl, hT171⟩
      have hS170 := hSd.call hT171
      exact ⟨rfl, hS170⟩
     ·exact fun S wd hSd => ⟨True.intro, True.intro, True.intro, True.intro, True.intro, True.intro, True.intro, True.intro, True.intro, True.intro, True.intro, True.intro⟩
     intro _ W176 hS177
     refine sqUE (st_stores (v := elV (fMul F y157 y163)) (cs' := (elA (fMul F y157 y163))) 0 hS177 rfl rfl rfl ag49 rfl (Nat.le_of_ble_eq_true rfl) (ones_of rfl) rfl) fun W178 hS179 => ?_
     show C _ _ _ _ _ _
     refine C_sr ?_
     refine sqv (ex_load (v := .slice (so b44) ((ptsL F xs).length) ((ptsL F xs).length)) rfl (hS179.at 4 rfl) on44 rfl) ?_
     refine sqv (ex_len (r := ((ptsL F xs).length : Int)) rfl sl44 rfl) ?_
     refine sqv (ex_move (v := .int .i64 0) rfl) ?_
     show C _ _ _ _ _ _
     refine C_block ?_
     refine C_loop (fun nn aa ww => ∃ (m0 : Nat → Value) (k : Nat) (o2 : List Nat) (Lu : List Ent), nn = xs.length - k ∧ aa = act 47 (upds m0 [(0, .int .i64 (i : Int)), (1, v146), (2, pt b4), (5, pt b47), (6, pt b1), (9, pt b173), (22, .int .i64 ((ptsL F xs).length : Int)), (23, .int .i64 (k : Int))]) [] ∧ St (bks Lt) w0 ww ([some (b44, .cells (o2.flatMap el).toArray 49), some (b173, .cells (elA (fMul F y157 y163)) 49), en147, some (b139, .cells #[.int .u64 (limb (horn F y58 (mastF F (ptsL F xs) [F.one])) 0), .int .u64 (limb (horn F y58 (mastF F (ptsL F xs) [F.one])) 1), .int .u64 (limb (horn F y58 (mastF F (ptsL F xs) [F.one])) 2), .int .u64 (limb (horn F y58 (mastF F (ptsL F xs) [F.one])) 3)] 49), some (b47, .cells #[.slice (so b44) ((ptsL F xs).length) ((ptsL F xs).length)] 44), en42, en35, some (b25, .cells #[v20] 44), en21, some (b7, .cells #[y] 44), some (b4, .cells (fdA F) 117), some (b1, .cells #[t] 58)] ++ Lu) [] ∧ (k ≤ xs.length) ∧ (o2.length = o.length) ∧ (∀ j, j < o.length → o2[j]? = some (if j < k then fAdd F (o.getD j 0) (fMul F (fMul F y157 y163) ((quoT F y58 ((mastF F (ptsL F xs) [F.one])).tail).getD j 0)) else o.getD j 0)) ∧ (∀ z ∈ o2, z < F.p) ∧ (Tp t (ev ++ wEv xs.length ++ ppEv xs.length i ++ pEv i k) Lu)) xs.length ?_ ?_
     ·exact ⟨_, 0, o, Lu, rfl, act_upds ⟨(congrArg (Value.int .i64) (by first | rfl | omega)), rfl, rfl, rfl, rfl, rfl, (congrArg (Value.int .i64) (by first | rfl | omega)), (congrArg (Value.int .i64) (by first | rfl | omega)), trivial⟩, (St.pickB (Lf := [some (b173, .cells (elA (fMul F y157 y163)) 49), en147, some (b139, .cells #[.int .u64 (limb (horn F y58 (mastF F (ptsL F xs) [F.one])) 0), .int .u64 (limb (horn F y58 (mastF F (ptsL F xs) [F.one])) 1), .int .u64 (limb (horn F y58 (mastF F (ptsL F xs) [F.one])) 2), .int .u64 (limb (horn F y58 (mastF F (ptsL F xs) [F.one])) 3)] 49), some (b44, .cells (o.flatMap el).toArray 49), some (b47, .cells #[.slice (so b44) ((ptsL F xs).length) ((ptsL F xs).length)] 44), en42, en35, some (b25, .cells #[v20] 44), en21, some (b7, .cells #[y] 44), some (b4, .cells (fdA F) 117), some (b1, .cells #[t] 58)]) hS179 [3, 0, 1, 2, 4, 5, 6, 7, 8, 9, 10, 11] (by decide) rfl), (Nat.zero_le _), rfl, as_init, hop, (by rw [show ∀ n, pEv n 0 = [] from fun _ => rfl, List.append_nil]; exact hUu)⟩
     rintro n183 a184 W181 ⟨m180, k, o2, Lu, rfl, rfl, hS182, hk, hol2, ho2, hop2, hUu⟩
     refine C_sr ?_
     refine sqv (ex_cmp (x := (k : Int)) (y := ((ptsL F xs).length : Int)) (r := decide ((k : Int) < ((ptsL F xs).length : Int))) rfl rfl rfl) ?_
     show C _ _ _ _ _ _
     refine C_seq ?_
     refine C_dec ((k : Int) < ((ptsL F xs).length : Int)) rfl (fun hc185 => ?_) (fun hc185 => ?_)
     ·refine C_skip ?_
      show C _ _ _ _ _ _
      refine C_seq ?_
      refine C_block ?_
      refine C_sr ?_
      refine sqv (ex_move (v := .int .i64 (k : Int)) rfl) ?_
      refine sqv (ex_assign (v := .int .i64 (k : Int)) rfl) ?_
      show C _ _ _ _ _ _
      refine C_sr ?_
      refine sqv (ex_load (v := t) rfl (hS182.at 11 rfl) on58 rfl) ?_
      refine sqv (ex_move (v := .int .i64 (i : Int)) rfl) ?_
      refine sqv (ex_move (v := .int .i64 (k : Int)) rfl) ?_
      refine sqc (exe_call (args := #[t, .int .i64 3, .int .i64 (i : Int), .int .i64 (k : Int)]) en52 (args_of4 rfl rfl rfl rfl)) (c_Note 3 (i : Int) (k : Int) t (ev ++ wEv xs.length ++ ppEv xs.length i ++ pEv i k) Lu W181 (by have h1 := wEv_len xs.length; have h2 := ppEv_len xs.length i; have h3 := pEv_len i k; have h4 := Nat.mul_le_mul_right xs.length (show i + 1 ≤ xs.length by omega); rw [Nat.add_mul] at h4; simp only [List.length_append]; omega) hUu (St.lend (Lf := [some (b44, .cells (o2.flatMap el).toArray 49), some (b173, .cells (elA (fMul F y157 y163)) 49), en147, some (b139, .cells #[.int .u64 (limb (horn F y58 (mastF F (ptsL F xs) [F.one])) 0), .int .u64 (limb (horn F y58 (mastF F (ptsL F xs) [F.one])) 1), .int .u64 (limb (horn F y58 (mastF F (ptsL F xs) [F.one])) 2), .int .u64 (limb (horn F y58 (mastF F (ptsL F xs) [F.one])) 3)] 49), some (b47, .cells #[.slice (so b44) ((ptsL F xs).length) ((ptsL F xs).length)] 44), en42, en35, some (b25, .cells #[v20] 44), en21, some (b7, .cells #[y] 44), some (b4, .cells (fdA F) 117), some (b1, .cells #[t] 58)]) hS182)) ?_
      rintro _ W186 ⟨Lt190, rfl, hU191, hT188⟩
      have hS187 := St.callS (Lf := [some (b44, .cells (o2.flatMap el).toArray 49), some (b173, .cells (elA (fMul F y157 y163)) 49), en147, some (b139, .cells #[.int .u64 (limb (horn F y58 (mastF F (ptsL F xs) [F.one])) 0), .int .u64 (limb (horn F y58 (mastF F (ptsL F xs) [F.one])) 1), .int .u64 (limb (horn F y58 (mastF F (ptsL F xs) [F.one])) 2), .int .u64 (limb (horn F y58 (mastF F (ptsL F xs) [F.one])) 3)] 49), some (b47, .cells #[.slice (so b44) ((ptsL F xs).length) ((ptsL F xs).length)] 44), en42, en35, some (b25, .cells #[v20] 44), en21, some (b7, .cells #[y] 44), some (b4, .cells (fdA F) 117), some (b1, .cells #[t] 58)]) (Ln := []) hS182 hT188
      show C _ _ _ _ _ _
      obtain ⟨y192, hy193⟩ := get_lt o2 k (by first | omega | (simp only [List.length_set, List.length_replicate, List.length_append, List.length_take, List.length_drop, List.length_cons, List.length_nil, List.length_map]; omega))
      have hky192 := hop2 y192 (List.mem_of_getElem? hy193)
      obtain ⟨y194, hy195⟩ := get_lt (quoT F y58 ((mastF F (ptsL F xs) [F.one])).tail) k (by first | omega | (simp only [List.length_set, List.length_replicate, List.length_append, List.length_take, List.length_drop, List.length_cons, List.length_nil, List.length_map]; omega))
      have hky194 := quoT_lt hF _ _ y194 (List.mem_of_getElem? hy195)
      obtain ⟨b196, o197, hI198, hC199⟩ := sl_at (f := el) (k := 4) (fun _ => rfl) (by decide) ((hp148).slF) hy195
      refine C_draw (p := 15) (l := [(some 30, .slice (so b44) ((ptsL F xs).length) ((ptsL F xs).length)), (some 31, .int .i64 (k : Int)), (some 32, fdV F), (some 33, .slice (so b44) ((ptsL F xs).length) ((ptsL F xs).length)), (some 34, .int .i64 (k : Int)), (some 35, .pointer (some ⟨b44, k * 4, none⟩)), (some 36, elV y192), (some 37, fdV F), (some 38, elV (fMul F y157 y163)), (some 39, v146), (some 40, .int .i64 (k : Int)), (some 41, .pointer (some ⟨b196, o197, none⟩)), (some 42, elV y194), (some 43, elV (fMul F (fMul F y157 y163) y194)), (some 44, elV (fAdd F y192 (fMul F (fMul F y157 y163) y194)))]) (G := []) (J := fun w => St (bks Lt) w0 w ([some (b44, .cells (o2.flatMap el).toArray 49), some (b173, .cells (elA (fMul F y157 y163)) 49), en147, some (b139, .cells #[.int .u64 (limb (horn F y58 (mastF F (ptsL F xs) [F.one])) 0), .int .u64 (limb (horn F y58 (mastF F (ptsL F xs) [F.one])) 1), .int .u64 (limb (horn F y58 (mastF F (ptsL F xs) [F.one])) 2), .int .u64 (limb (horn F y58 (mastF F (ptsL F xs) [F.one])) 3)] 49), some (b47, .cells #[.slice (so b44) ((ptsL F xs).length) ((ptsL F xs).length)] 44), en42, en35, some (b25, .cells #[v20] 44), en21, some (b7, .cells #[y] 44), some (b4, .cells (fdA F) 117), some (b1, .cells #[t] 58)] ++ Lt190) []) mixed ?_ (hS187.draw _)
      refine node1 15 [] [] [] (by kernel_rfl) rfl rfl (nd rfl) rfl (by kernel_rfl) ?_ ?_ ?_
      ·intro S wd hSd
       refine ⟨n0 rfl rfl rfl (ex_load (v := .slice (so b44) ((ptsL F xs).length) ((ptsL F xs).length)) rfl (hSd.at 4 rfl) on44 rfl) rfl hSd, n0 rfl rfl rfl (ex_move (v := .int .i64 (k : Int)) rfl) rfl hSd, n0 rfl rfl rfl (ex_loads (vs := (fdC F)) rfl (hSd.at 10 rfl) ag117 rfl rfl) rfl hSd, n0 rfl rfl rfl (ex_load (v := .slice (so b44) ((ptsL F xs).length) ((ptsL F xs).length)) rfl (hSd.at 4 rfl) on44 rfl) rfl hSd, n0 rfl rfl rfl (ex_move (v := .int .i64 (k : Int)) rfl) rfl hSd, n2 rfl rfl rfl rfl (fun hq3 hq4 => (ex_sindex (j := (k : Int)) (o' := k * 4) (evS hq3 rfl rfl) (evS hq4 rfl rfl) sl44 (by omega) (by omega) (by omega))) rfl hSd, n1 rfl rfl rfl rfl (fun hq5 => (ex_loadsM (f := el) (k := 4) (i := k) (fun _ => rfl) (evS hq5 rfl rfl) (hSd.at 0 rfl) ag49 rfl hy193)) rfl hSd, n0 rfl rfl rfl (ex_loads (vs := (fdC F)) rfl (hSd.at 10 rfl) ag117 rfl rfl) rfl hSd, n0 rfl rfl rfl (ex_loads (vs := (el (fMul F y157 y163))) rfl (hSd.at 1 rfl) ag49 rfl rfl) rfl hSd, n0 rfl rfl rfl (ex_move (v := v146) rfl) rfl hSd, n0 rfl rfl rfl (ex_move (v := .int .i64 (k : Int)) rfl) rfl hSd, n2 rfl rfl rfl rfl (fun hq9 hq10 => (ex_sindexO hI198 (evS hq9 rfl rfl) (evS hq10 rfl rfl) sl44 rfl)) rfl hSd, n1 rfl rfl rfl rfl (fun hq11 => (ex_loadsC (r := 0) (vs := (el y194)) hC199 (hSd.entH 2 rfl) (evS hq11 rfl rfl) ag49 rfl rfl rfl)) rfl hSd, ?_, ?_, tt⟩
       ·refine needG rfl ?_
        rintro ⟨hq7, hq8, hq12, _⟩ hno
        refine dxC (wanted_none rfl) rfl (exe_call (args := #[fdV F, elV (fMul F y157 y163), elV y194]) en116 (args_of3 (evS hq7 rfl rfl) (evS hq8 rfl rfl) (evS hq12 rfl rfl))) (c_mMul F (fMul F y157 y163) y194 wd hF (by first | assumption | exact fMul_lt hF _ _) (lt_of_p hF (by first | assumption | exact fMul_lt hF _ _))) ?_
        rintro _ W200 ⟨rfl, hT202⟩
        have hS201 := hSd.call hT202
        exact ⟨rfl, hS201⟩
       refine needG rfl ?_
       rintro ⟨hq2, hq6, hq13, hq13, _⟩ hno
       refine dxC (wanted_none rfl) rfl (exe_call (args := #[fdV F, elV y192, elV (fMul F (fMul F y157 y163) y194)]) en117 (args_of3 (evS hq2 rfl rfl) (evS hq6 rfl rfl) (evS hq13 rfl rfl))) (c_mAdd F y192 (fMul F (fMul F y157 y163) y194) wd hF (by assumption) (fMul_lt hF _ _)) ?_
       rintro _ W204 ⟨rfl, hT206⟩
       have hS205 := hSd.call hT206
       exact ⟨rfl, hS205⟩
      ·exact fun S wd hSd => ⟨True.intro, True.intro, True.intro, True.intro, True.intro, True.intro, True.intro, True.intro, True.intro, True.intro, True.intro, True.intro, True.intro, True.intro, True.intro, True.intro⟩
      intro _ W208 hS209
      refine sqv (ex_sindex (j := (k : Int)) (o' := k * 4) rfl rfl sl44 (by omega) (by omega) (by omega)) ?_
      refine sqUE (st_storesM (f := el) (k := 4) (z := fAdd F y192 (fMul F (fMul F y157 y163) y194)) (i' := k) (fun _ => rfl) 0 hS209 rfl rfl rfl ag49 rfl (by first | omega | (simp only [List.length_set, List.length_replicate, List.length_append, List.length_take, List.length_drop]; omega)) rfl (ones_of rfl)) fun W210 hS211 => ?_
      refine blk_normal ?_
      show C _ _ _ _ _ _
      refine C_region ?_
      refine nm ((k : Int) + 1) fun x212 hx212 => ?_
      refine sqv (ex_add (x := (k : Int)) (y := 1) rfl rfl (w64 hx212 (by omega))) ?_
      refine sqv (ex_move (v := .int .i64 x212) rfl) ?_
      exact ⟨_, (by omega), ⟨_, (k + 1), (o2.set k (fAdd F y192 (fMul F (fMul F y157 y163) y194))), Lt190, rfl, act_upds ⟨(congrArg (Value.int .i64) (by first | rfl | omega)), rfl, rfl, rfl, rfl, rfl, (congrArg (Value.int .i64) (by first | rfl | omega)), (congrArg (Value.int .i64) (by first | rfl | omega)), trivial⟩, (St.pickB (Lf := [some (b44, .cells ((o2.set k (fAdd F y192 (fMul F (fMul F y157 y163) y194))).flatMap el).toArray 49), some (b173, .cells (elA (fMul F y157 y163)) 49), en147, some (b139, .cells #[.int .u64 (limb (horn F y58 (mastF F (ptsL F xs) [F.one])) 0), .int .u64 (limb (horn F y58 (mastF F (ptsL F xs) [F.one])) 1), .int .u64 (limb (horn F y58 (mastF F (ptsL F xs) [F.one])) 2), .int .u64 (limb (horn F y58 (mastF F (ptsL F xs) [F.one])) 3)] 49), some (b47, .cells #[.slice (so b44) ((ptsL F xs).length) ((ptsL F xs).length)] 44), en42, en35, some (b25, .cells #[v20] 44), en21, some (b7, .cells #[y] 44), some (b4, .cells (fdA F) 117), some (b1, .cells #[t] 58)]) hS211 [0, 1, 2, 3, 4, 5, 6, 7, 8, 9, 10, 11] (by decide) rfl), (by omega), (by rw [List.length_set]; exact hol2), (as_step ho2 hol2 (by omega) hy193 hy195), (all_set hop2 (fAdd_lt hF _ _)), (by rw [pEv, ← List.append_assoc]; exact hU191)⟩⟩
     refine C_exit ?_
     refine thn_exit ?_
     refine thn_exit ?_
     refine blk_exit ?_
     refine done_0n  rfl  ?_
     refine hR156 _ _ ?_
     refine blk_normal ?_
     show C _ _ _ _ _ _
     refine C_region ?_
     refine nm ((i : Int) + 1) fun x213 hx213 => ?_
     refine sqv (ex_add (x := (i : Int)) (y := 1) rfl rfl (w64 hx213 (by omega))) ?_
     refine sqv (ex_move (v := .int .i64 x213) rfl) ?_
     obtain rfl : k = xs.length := by omega
     exact ⟨_, (by omega), ⟨_, (i + 1), o2, Lu, rfl, act_upds ⟨rfl, rfl, (congrArg (Value.int .i64) (by first | rfl | omega)), rfl, rfl, rfl, rfl, (congrArg (Value.int .i64) (by first | rfl | omega)), (congrArg (Value.int .i64) (by first | rfl | omega)), trivial⟩, (St.pickB (Lf := [some (b44, .cells (o2.flatMap el).toArray 49), some (b173, .cells (elA (fMul F y157 y163)) 49), en147, some (b139, .cells #[.int .u64 (limb (horn F y58 (mastF F (ptsL F xs) [F.one])) 0), .int .u64 (limb (horn F y58 (mastF F (ptsL F xs) [F.one])) 1), .int .u64 (limb (horn F y58 (mastF F (ptsL F xs) [F.one])) 2), .int .u64 (limb (horn F y58 (mastF F (ptsL F xs) [F.one])) 3)] 49), some (b47, .cells #[.slice (so b44) ((ptsL F xs).length) ((ptsL F xs).length)] 44), en42, en35, some (b25, .cells #[v20] 44), en21, some (b7, .cells #[y] 44), some (b4, .cells (fdA F) 117), some (b1, .cells #[t] 58)]) hS182 [0, 4, 5, 6, 7, 8, 9, 10, 11] (by decide) rfl), (by omega), (by omega), (int_step ho hy158 hy164 hy59 (as_done (by rw [hol]; rw [hol] at ho2; exact ho2) hol2)), hop2, (by rw [ppEv, ← List.append_assoc]; exact hUu)⟩⟩
    exact fun h => absurd h (by decide)
   exact fun h => absurd h (by decide)
  exact fun h => absurd h (by decide)
 refine C_exit ?_
 refine thn_exit ?_
 refine thn_exit ?_
 refine blk_exit ?_
 show C _ _ _ _ _ _
 refine C_sr ?_
 refine sqv (ex_load (v := .slice (so b44) ((ptsL F xs).length) ((ptsL F xs).length)) rfl (hS54.at 1 rfl) on44 rfl) ?_
 refine sqv (ex_assign (v := .slice (so b44) ((ptsL F xs).length) ((ptsL F xs).length)) rfl) ?_
 refine sqv (ex_assign (v := .int .i64 0) rfl) ?_
 show C _ _ _ _ _ _
 refine C_ret ?_
 refine done_2 (v1 := .slice (so b44) ((ptsL F xs).length) ((ptsL F xs).length)) (v2 := .int .i64 0) rfl rfl rfl ?_
 obtain rfl : i = xs.length := by omega
 exact ⟨_, _, _, rfl, by rw [intL, hpl, ← ho]; exact Own.of (fun _ => rfl) (by omega) rfl (by simp only [maxLen]; omega), (by rw [iEv, ← List.append_assoc]; exact hUu), (St.pickB (Lf := [some (b44, .cells (o.flatMap el).toArray 49), some (b47, .cells #[.slice (so b44) ((ptsL F xs).length) ((ptsL F xs).length)] 44), en42, en35, some (b25, .cells #[v20] 44), en21, some (b7, .cells #[y] 44), some (b4, .cells (fdA F) 117), some (b1, .cells #[t] 58)]) hS54 [0] (by decide) rfl).less (fun _ h => absurd h (by simp))⟩
end Go.Proofs
end
