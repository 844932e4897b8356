/- AuditEvents holds: the events that the audit records are those of the reference, for all arguments that the statement admits, with no further condition. Part 10 of 12. -/
import Derived.Test.YtfhpmpmmckkgbaaGreatDoorE9
set_option linter.unusedVariables false
set_option linter.unusedSimpArgs false
set_option linter.unusedSectionVars false
section
set_option linter.unusedVariables false
set_option linter.unusedSimpArgs false
set_option maxRecDepth 20000
set_option maxHeartbeats 2000000
namespace Go.Proofs
open Sc
theorem en65 : enters Tryz.prog 65 = true := by kernel_rfl
theorem c_rCheckShares  (s : Value) (l : List Sh) (Z0 : List Fact) (w0 : World) (g0 : ∀ s ∈ l, ∀ y ∈ s.p, y < B256) (g1 : l.length < 1000000) (hZ0 : Holds w0 Z0) (hs_s : Shs Z0 46 49 s l) : Calls Tryz.prog 27 #[s] w0 (Ret fun uu w' => uu = .int .i64 (ckShs l) ∧ St [] w0 w' [] []) := by
 refine calls_of Tryz.func27 rfl Tryz.ntmps27 (Nat.le_of_ble_eq_true rfl) ?_
 have hS0 := St.nil w0
 refine C_sr ?_
 refine sqv (ex_assign (v := .int .i64 0) rfl) ?_
 show C _ _ _ _ _ _
 refine C_seq ?_
 refine C_sr ?_
 refine sqv (ex_assign (v := .int .i64 0) rfl) ?_
 show C _ _ _ _ _ _
 refine C_block ?_
 refine C_loop (fun nn aa ww => ∃ (m0 : Nat → Value) (k : Nat), nn = l.length - k ∧ aa = act 96 (upds m0 [(0, s), (3, .int .i64 (k : Int))]) [] ∧ St [] w0 ww [] [] ∧ (k ≤ l.length) ∧ (ckEach (l.take k) = 0)) l.length ?_ ?_
 ·exact ⟨_, 0, rfl, act_upds ⟨rfl, (congrArg (Value.int .i64) (by first | rfl | omega)), trivial⟩, (St.pick (L := []) hS0 [] (by decide)), (Nat.zero_le _), rfl⟩
 rintro n4 a5 W2 ⟨m1, k, rfl, rfl, hS3, hk, hE⟩
 refine C_seq ?_
 refine C_sr ?_
 refine sqv (ex_move (v := .int .i64 (k : Int)) rfl) ?_
 refine sqv (ex_move (v := s) rfl) ?_
 refine sqv (ex_lenO (f := cS) (k := 5) (r := (l.length : Int)) (fun _ => rfl) (by decide) ((hs_s).1) rfl sl22 rfl) ?_
 refine sqv (ex_cmp (x := (k : Int)) (y := (l.length : Int)) (r := decide ((k : Int) < (l.length : Int))) rfl rfl rfl) ?_
 show C _ _ _ _ _ _
 refine C_dec ((k : Int) < (l.length : Int)) rfl (fun hc6 => ?_) (fun hc6 => ?_)
 ·refine C_skip ?_
  show C _ _ _ _ _ _
  refine C_seq ?_
  refine C_block ?_
  refine C_sr ?_
  refine sqv (ex_move (v := s) rfl) ?_
  refine sqv (ex_move (v := .int .i64 (k : Int)) rfl) ?_
  obtain ⟨y7, hy8⟩ := get_lt l k (by first | omega | (simp only [List.length_set, List.length_replicate, List.length_append, List.length_take, List.length_drop, List.length_cons, List.length_nil, List.length_map]; omega))
  have hky7 := g0 y7 (List.mem_of_getElem? hy8)
  obtain ⟨b9, o10, hI11, hC12⟩ := sl_at (f := cS) (k := 5) (fun _ => rfl) (by decide) ((hs_s).1) hy8
  refine sqv (ex_sindexO hI11 rfl rfl sl22 rfl) ?_
  refine sqv (ex_loadsC (r := 0) (vs := [.int .i64 y7.f, .int .i64 y7.t, .int .i64 y7.i, .int .i64 y7.n, y7.v]) hC12 (hS3.holds0 hZ0) rfl ag46 rfl rfl rfl) ?_
  refine sqc (exe_call (args := #[.agg #[.int .i64 y7.f, .int .i64 y7.t, .int .i64 y7.i, .int .i64 y7.n, y7.v]]) en65 (args_of1 rfl)) (c_rCheckShare y7 Z0 W2 (by assumption) (hS3.holds0 hZ0) ((hs_s).2 y7 (List.mem_of_getElem? hy8))) ?_
  rintro _ W13 ⟨rfl, hT15⟩
  have hS14 := hS3.call hT15
  refine sqv (ex_assign (v := .int .i64 (ckSh y7)) rfl) ?_
  show C _ _ _ _ _ _
  refine C_sr ?_
  refine sqv (ex_move (v := .int .i64 (ckSh y7)) rfl) ?_
  refine sqv (ex_cmp (x := (ckSh y7)) (y := 0) (r := decide ((ckSh y7) ≠ 0)) rfl rfl rfl) ?_
  show C _ _ _ _ _ _
  refine C_dec ((ckSh y7) ≠ 0) rfl (fun hc17 => ?_) (fun hc17 => ?_)
  ·refine C_sr ?_
   refine sqv (ex_move (v := .int .i64 (ckSh y7)) rfl) ?_
   refine sqv (ex_assign (v := .int .i64 (ckSh y7)) rfl) ?_
   show C _ _ _ _ _ _
   refine C_ret ?_
   refine blk_ret ?_
   refine thn_ret ?_
   refine thn_ret ?_
   refine blk_ret ?_
   refine thn_ret ?_
   refine done_1 (v := .int .i64 (ckSh y7)) rfl rfl ?_
   exact ⟨congrArg _ (ckShs_each hy8 hE (by omega)), (St.pick (L := []) hS14 [] (by decide))⟩
  refine C_skip ?_
  refine blk_normal ?_
  show C _ _ _ _ _ _
  refine C_region ?_
  refine sqv (ex_move (v := .int .i64 (k : Int)) rfl) ?_
  refine nm ((k : Int) + 1) fun x18 hx18 => ?_
  refine sqv (ex_add (x := (k : Int)) (y := 1) rfl rfl (w64 hx18 (by omega))) ?_
  refine sqv (ex_assign (v := .int .i64 x18) rfl) ?_
  exact ⟨_, (by omega), ⟨_, (k + 1), rfl, act_upds ⟨rfl, (congrArg (Value.int .i64) (by first | rfl | omega)), trivial⟩, (St.pick (L := []) hS14 [] (by decide)), (by omega), (by rw [ckEach_take hy8 hE]; omega)⟩⟩
 refine C_exit ?_
 refine thn_exit ?_
 refine thn_exit ?_
 refine blk_exit ?_
 show C _ _ _ _ _ _
 refine C_seq ?_
 refine C_sr ?_
 refine sqv (ex_assign (v := .int .i64 1) rfl) ?_
 show C _ _ _ _ _ _
 refine C_block ?_
 obtain rfl : k = l.length := by omega
 rw [List.take_length] at hE
 refine C_loop (fun nn aa ww => ∃ (m0 : Nat → Value) (k : Nat), nn = l.length - k ∧ aa = act 96 (upds m0 [(0, s), (5, .int .i64 (k : Int))]) [] ∧ St [] w0 ww [] [] ∧ (1 ≤ k ∧ (k ≤ l.length ∨ k = 1)) ∧ (mixH (l.take k) = false)) (l.length - 1) ?_ ?_
 ·exact ⟨_, 1, rfl, act_upds ⟨rfl, (congrArg (Value.int .i64) (by first | rfl | omega)), trivial⟩, (St.pick (L := []) hS3 [] (by decide)), (by omega), (mix_1 l)⟩
 rintro n22 a23 W20 ⟨m19, k, rfl, rfl, hS21, hk, hm⟩
 refine C_seq ?_
 refine C_sr ?_
 refine sqv (ex_move (v := .int .i64 (k : Int)) rfl) ?_
 refine sqv (ex_move (v := s) rfl) ?_
 refine sqv (ex_lenO (f := cS) (k := 5) (r := (l.length : Int)) (fun _ => rfl) (by decide) ((hs_s).1) rfl sl22 rfl) ?_
 refine sqv (ex_cmp (x := (k : Int)) (y := (l.length : Int)) (r := decide ((k : Int) < (l.length : Int))) rfl rfl rfl) ?_
 show C _ _ _ _ _ _
 refine C_dec ((k : Int) < (l.length : Int)) rfl (fun hc24 => ?_) (fun hc24 => ?_)
 ·refine C_skip ?_
  show C _ _ _ _ _ _
  refine C_seq ?_
  refine C_block ?_
  refine C_seq ?_
  obtain ⟨y25, hy26⟩ := get_lt l k (by first | omega | (simp only [List.length_set, List.length_replicate, List.length_append, List.length_take, List.length_drop, List.length_cons, List.length_nil, List.length_map]; omega))
  have hky25 := g0 y25 (List.mem_of_getElem? hy26)
  obtain ⟨b27, o28, hI29, hC30⟩ := sl_at (f := cS) (k := 5) (fun _ => rfl) (by decide) ((hs_s).1) hy26
  obtain ⟨y31, hy32⟩ := get_lt l 0 (by first | omega | (simp only [List.length_set, List.length_replicate, List.length_append, List.length_take, List.length_drop, List.length_cons, List.length_nil, List.length_map]; omega))
  have hky31 := g0 y31 (List.mem_of_getElem? hy32)
  obtain ⟨b33, o34, hI35, hC36⟩ := sl_at (f := cS) (k := 5) (fun _ => rfl) (by decide) ((hs_s).1) hy32
  refine nm (decide (y25.f ≠ y31.f)) fun t37 ht37 => ?_
  rcases bool_cases t37 with hb38 | hb38
  ·subst hb38
   have hb38 := of_decide_eq_true ht37.symm
   refine C_draw (p := 34) (l := [(some 28, s), (some 29, .int .i64 (k : Int)), (some 30, .pointer (some ⟨b27, o28, none⟩)), (some 31, .pointer (some ⟨b27, o28, none⟩)), (some 32, .int .i64 y25.f), (some 33, s), (some 34, .pointer (some ⟨b33, o34, none⟩)), (some 35, .pointer (some ⟨b33, o34, none⟩)), (some 36, .int .i64 y31.f), (some 37, .bool true), (some 38, .bool true), (some 39, undef), (some 40, undef), (some 41, undef), (some 42, undef), (some 43, undef), (some 44, undef), (some 45, undef), (some 46, undef), (some 47, undef), (some 48, undef), (some 49, .bool true), (some 50, .bool true), (some 51, undef), (some 52, undef), (some 53, undef), (some 54, undef), (some 55, undef), (some 56, undef), (some 57, undef), (some 58, undef), (some 59, undef), (some 60, undef), (some 61, .bool true)]) (G := []) (J := fun w => St [] w0 w [] []) mixed ?_ (hS21.draw _)
   refine node1 34 [] [] [] (by kernel_rfl) rfl rfl (nd rfl) rfl (by kernel_rfl) ?_ ?_ ?_
   ·intro S wd hSd
    refine ⟨n0 rfl rfl rfl (ex_move (v := s) rfl) rfl hSd, n0 rfl rfl rfl (ex_move (v := .int .i64 (k : Int)) rfl) rfl hSd, n2 rfl rfl rfl rfl (fun hq0 hq1 => (ex_sindexO hI29 (evS hq0 rfl rfl) (evS hq1 rfl rfl) sl22 rfl)) rfl hSd, n1 rfl rfl rfl rfl (fun hq2 => (ex_field (o' := o28) (evS hq2 rfl rfl) fi46_0 rfl)) rfl hSd, n1 rfl rfl rfl rfl (fun hq3 => (ex_loadC (r := 0) (u := .int .i64 y25.f) hC30 (hSd.holds0 hZ0) (evS hq3 rfl rfl) on3 rfl rfl)) rfl hSd, n0 rfl rfl rfl (ex_move (v := s) rfl) rfl hSd, n1 rfl rfl rfl rfl (fun hq5 => (ex_sindexO hI35 (evS hq5 rfl rfl) rfl sl22 (by omega))) rfl hSd, n1 rfl rfl rfl rfl (fun hq6 => (ex_field (o' := o34) (evS hq6 rfl rfl) fi46_0 rfl)) rfl hSd, n1 rfl rfl rfl rfl (fun hq7 => (ex_loadC (r := 0) (u := .int .i64 y31.f) hC36 (hSd.holds0 hZ0) (evS hq7 rfl rfl) on3 rfl rfl)) rfl hSd, n2 rfl rfl rfl rfl (fun hq4 hq8 => (ex_cmp (x := y25.f) (y := y31.f) (evS hq4 rfl rfl) (evS hq8 rfl rfl) ht37)) rfl hSd, n1 rfl rfl rfl rfl (fun hq9 => (ex_move (v := .bool true) (evS hq9 rfl rfl))) rfl hSd, ?_, ?_, ?_, ?_, ?_, ?_, ?_, ?_, ?_, ?_, n2 rfl rfl rfl rfl (fun hq10 hq20 => (ex_pickT (v := .bool true) (evS hq10 rfl rfl) rfl)) rfl hSd, n2 rfl rfl rfl rfl (fun hq21 hq10 => (ex_move (v := .bool true) (evS hq21 rfl rfl))) rfl hSd, ?_, ?_, ?_, ?_, ?_, ?_, ?_, ?_, ?_, ?_, ?_, tt⟩
    ·refine needG rfl ?_
     rintro ⟨hq10, _⟩ hno
     exact dxS (wanted_no (b' := true) rfl rfl (evS hq10 rfl rfl) (by decide)) ⟨rfl, hSd⟩
    ·refine needG rfl ?_
     rintro ⟨hq10, _⟩ hno
     exact dxS (wanted_no (b' := true) rfl rfl (evS hq10 rfl rfl) (by decide)) ⟨rfl, hSd⟩
    ·refine needG rfl ?_
     rintro ⟨hq11, hq12, hq10, _⟩ hno
     exact dxS (wanted_no (b' := true) rfl rfl (evS hq10 rfl rfl) (by decide)) ⟨rfl, hSd⟩
    ·refine needG rfl ?_
     rintro ⟨hq13, hq10, _⟩ hno
     exact dxS (wanted_no (b' := true) rfl rfl (evS hq10 rfl rfl) (by decide)) ⟨rfl, hSd⟩
    ·refine needG rfl ?_
     rintro ⟨hq14, hq10, _⟩ hno
     exact dxS (wanted_no (b' := true) rfl rfl (evS hq10 rfl rfl) (by decide)) ⟨rfl, hSd⟩
    ·refine needG rfl ?_
     rintro ⟨hq10, _⟩ hno
     exact dxS (wanted_no (b' := true) rfl rfl (evS hq10 rfl rfl) (by decide)) ⟨rfl, hSd⟩
    ·refine needG rfl ?_
     rintro ⟨hq16, hq10, _⟩ hno
     exact dxS (wanted_no (b' := true) rfl rfl (evS hq10 rfl rfl) (by decide)) ⟨rfl, hSd⟩
    ·refine needG rfl ?_
     rintro ⟨hq17, hq10, _⟩ hno
     exact dxS (wanted_no (b' := true) rfl rfl (evS hq10 rfl rfl) (by decide)) ⟨rfl, hSd⟩
    ·refine needG rfl ?_
     rintro ⟨hq18, hq10, _⟩ hno
     exact dxS (wanted_no (b' := true) rfl rfl (evS hq10 rfl rfl) (by decide)) ⟨rfl, hSd⟩
    ·refine needG rfl ?_
     rintro ⟨hq15, hq19, hq10, _⟩ hno
     exact dxS (wanted_no (b' := true) rfl rfl (evS hq10 rfl rfl) (by decide)) ⟨rfl, hSd⟩
    ·refine needG rfl ?_
     rintro ⟨hq22, _⟩ hno
     exact dxS (wanted_no (b' := true) rfl rfl (evS hq22 rfl rfl) (by decide)) ⟨rfl, hSd⟩
    ·refine needG rfl ?_
     rintro ⟨hq22, _⟩ hno
     exact dxS (wanted_no (b' := true) rfl rfl (evS hq22 rfl rfl) (by decide)) ⟨rfl, hSd⟩
    ·refine needG rfl ?_
     rintro ⟨hq23, hq24, hq22, _⟩ hno
     exact dxS (wanted_no (b' := true) rfl rfl (evS hq22 rfl rfl) (by decide)) ⟨rfl, hSd⟩
    ·refine needG rfl ?_
     rintro ⟨hq25, hq22, _⟩ hno
     exact dxS (wanted_no (b' := true) rfl rfl (evS hq22 rfl rfl) (by decide)) ⟨rfl, hSd⟩
    ·refine needG rfl ?_
     rintro ⟨hq26, hq22, _⟩ hno
     exact dxS (wanted_no (b' := true) rfl rfl (evS hq22 rfl rfl) (by decide)) ⟨rfl, hSd⟩
    ·refine needG rfl ?_
     rintro ⟨hq22, _⟩ hno
     exact dxS (wanted_no (b' := true) rfl rfl (evS hq22 rfl rfl) (by decide)) ⟨rfl, hSd⟩
    ·refine needG rfl ?_
     rintro ⟨hq28, hq22, _⟩ hno
     exact dxS (wanted_no (b' := true) rfl rfl (evS hq22 rfl rfl) (by decide)) ⟨rfl, hSd⟩
    ·refine needG rfl ?_
     rintro ⟨hq29, hq22, _⟩ hno
     exact dxS (wanted_no (b' := true) rfl rfl (evS hq22 rfl rfl) (by decide)) ⟨rfl, hSd⟩
    ·refine needG rfl ?_
     rintro ⟨hq30, hq22, _⟩ hno
     exact dxS (wanted_no (b' := true) rfl rfl (evS hq22 rfl rfl) (by decide)) ⟨rfl, hSd⟩
    ·refine needG rfl ?_
     rintro ⟨hq27, hq31, hq22, _⟩ hno
     exact dxS (wanted_no (b' := true) rfl rfl (evS hq22 rfl rfl) (by decide)) ⟨rfl, hSd⟩
    refine needG rfl ?_
    rintro ⟨hq22, hq32, _⟩ hno
    exact dx (wanted_none rfl) rfl (ex_pickT (v := .bool true) (evS hq22 rfl rfl) rfl) ⟨rfl, hSd⟩
   ·exact fun S wd hSd => ⟨True.intro, True.intro, True.intro, True.intro, True.intro, True.intro, True.intro, True.intro, True.intro, True.intro, True.intro, True.intro, True.intro, True.intro, True.intro, True.intro, True.intro, True.intro, True.intro, True.intro, True.intro, True.intro, True.intro, True.intro, True.intro, True.intro, True.intro, True.intro, True.intro, True.intro, True.intro, True.intro, True.intro, True.intro, True.intro⟩
   intro _ W39 hS40
   show C _ _ _ _ _ _
   refine C_true rfl ?_
   refine C_sr ?_
   refine sqv (ex_assign (v := .int .i64 14) rfl) ?_
   show C _ _ _ _ _ _
   refine C_ret ?_
   refine blk_ret ?_
   refine thn_ret ?_
   refine thn_ret ?_
   refine blk_ret ?_
   refine thn_ret ?_
   refine done_1 (v := .int .i64 14) rfl rfl ?_
   exact ⟨congrArg _ (ckShs_14 hE (mix_bad hk.1 hy26 hy32 (by omega))), (St.pick (L := []) hS40 [] (by decide))⟩
  subst hb38
  have hb38 := of_decide_eq_false ht37.symm
  obtain ⟨b41, o42, hI43, hC44⟩ := sl_at (f := cS) (k := 5) (fun _ => rfl) (by decide) ((hs_s).1) hy26
  obtain ⟨b45, o46, hI47, hC48⟩ := sl_at (f := cS) (k := 5) (fun _ => rfl) (by decide) ((hs_s).1) hy32
  refine nm (decide (y25.t ≠ y31.t)) fun t49 ht49 => ?_
  rcases bool_cases t49 with hb50 | hb50
  ·subst hb50
   have hb50 := of_decide_eq_true ht49.symm
   refine C_draw (p := 34) (l := [(some 28, s), (some 29, .int .i64 (k : Int)), (some 30, .pointer (some ⟨b27, o28, none⟩)), (some 31, .pointer (some ⟨b27, o28, none⟩)), (some 32, .int .i64 y25.f), (some 33, s), (some 34, .pointer (some ⟨b33, o34, none⟩)), (some 35, .pointer (some ⟨b33, o34, none⟩)), (some 36, .int .i64 y31.f), (some 37, .bool false), (some 38, .bool false), (some 39, s), (some 40, .int .i64 (k : Int)), (some 41, .pointer (some ⟨b41, o42, none⟩)), (some 42, .pointer (some ⟨b41, o42 + 1, none⟩)), (some 43, .int .i64 y25.t), (some 44, s), (some 45, .pointer (some ⟨b45, o46, none⟩)), (some 46, .pointer (some ⟨b45, o46 + 1, none⟩)), (some 47, .int .i64 y31.t), (some 48, .bool true), (some 49, .bool true), (some 50, .bool true), (some 51, undef), (some 52, undef), (some 53, undef), (some 54, undef), (some 55, undef), (some 56, undef), (some 57, undef), (some 58, undef), (some 59, undef), (some 60, undef), (some 61, .bool true)]) (G := []) (J := fun w => St [] w0 w [] []) mixed ?_ (hS21.draw _)
   refine node1 34 [] [] [] (by kernel_rfl) rfl rfl (nd rfl) rfl (by kernel_rfl) ?_ ?_ ?_
   ·intro S wd hSd
    refine ⟨n0 rfl rfl rfl (ex_move (v := s) rfl) rfl hSd, n0 rfl rfl rfl (ex_move (v := .int .i64 (k : Int)) rfl) rfl hSd, n2 rfl rfl rfl rfl (fun hq0 hq1 => (ex_sindexO hI29 (evS hq0 rfl rfl) (evS hq1 rfl rfl) sl22 rfl)) rfl hSd, n1 rfl rfl rfl rfl (fun hq2 => (ex_field (o' := o28) (evS hq2 rfl rfl) fi46_0 rfl)) rfl hSd, n1 rfl rfl rfl rfl (fun hq3 => (ex_loadC (r := 0) (u := .int .i64 y25.f) hC30 (hSd.holds0 hZ0) (evS hq3 rfl rfl) on3 rfl rfl)) rfl hSd, n0 rfl rfl rfl (ex_move (v := s) rfl) rfl hSd, n1 rfl rfl rfl rfl (fun hq5 => (ex_sindexO hI35 (evS hq5 rfl rfl) rfl sl22 (by omega))) rfl hSd, n1 rfl rfl rfl rfl (fun hq6 => (ex_field (o' := o34) (evS hq6 rfl rfl) fi46_0 rfl)) rfl hSd, n1 rfl rfl rfl rfl (fun hq7 => (ex_loadC (r := 0) (u := .int .i64 y31.f) hC36 (hSd.holds0 hZ0) (evS hq7 rfl rfl) on3 rfl rfl)) rfl hSd, n2 rfl rfl rfl rfl (fun hq4 hq8 => (ex_cmp (x := y25.f) (y := y31.f) (evS hq4 rfl rfl) (evS hq8 rfl rfl) ht37)) rfl hSd, n1 rfl rfl rfl rfl (fun hq9 => (ex_move (v := .bool false) (evS hq9 rfl rfl))) rfl hSd, ?_, ?_, ?_, ?_, ?_, ?_, ?_, ?_, ?_, ?_, n2 rfl rfl rfl rfl (fun hq10 hq20 => (ex_pickF (v := .bool true) (evS hq10 rfl rfl) (evS hq20 rfl rfl))) rfl hSd, n2 rfl rfl rfl rfl (fun hq21 hq10 => (ex_move (v := .bool true) (evS hq21 rfl rfl))) rfl hSd, ?_, ?_, ?_, ?_, ?_, ?_, ?_, ?_, ?_, ?_, ?_, tt⟩
    ·refine needG rfl ?_
     rintro ⟨hq10, _⟩ hno
     exact dx (wanted_yes rfl rfl (evS hq10 rfl rfl)) rfl (ex_move (v := s) rfl) ⟨rfl, hSd⟩
    ·refine needG rfl ?_
     rintro ⟨hq10, _⟩ hno
     exact dx (wanted_yes rfl rfl (evS hq10 rfl rfl)) rfl (ex_move (v := .int .i64 (k : Int)) rfl) ⟨rfl, hSd⟩
    ·refine needG rfl ?_
     rintro ⟨hq11, hq12, hq10, _⟩ hno
     exact dx (wanted_yes rfl rfl (evS hq10 rfl rfl)) rfl (ex_sindexO hI43 (evS hq11 rfl rfl) (evS hq12 rfl rfl) sl22 rfl) ⟨rfl, hSd⟩
    ·refine needG rfl ?_
     rintro ⟨hq13, hq10, _⟩ hno
     exact dx (wanted_yes rfl rfl (evS hq10 rfl rfl)) rfl (ex_field (o' := (o42 + 1)) (evS hq13 rfl rfl) fi46_1 rfl) ⟨rfl, hSd⟩
    ·refine needG rfl ?_
     rintro ⟨hq14, hq10, _⟩ hno
     exact dx (wanted_yes rfl rfl (evS hq10 rfl rfl)) rfl (ex_loadC (r := 1) (u := .int .i64 y25.t) hC44 (hSd.holds0 hZ0) (evS hq14 rfl rfl) on3 rfl rfl) ⟨rfl, hSd⟩
    ·refine needG rfl ?_
     rintro ⟨hq10, _⟩ hno
     exact dx (wanted_yes rfl rfl (evS hq10 rfl rfl)) rfl (ex_move (v := s) rfl) ⟨rfl, hSd⟩
    ·refine needG rfl ?_
     rintro ⟨hq16, hq10, _⟩ hno
     exact dx (wanted_yes rfl rfl (evS hq10 rfl rfl)) rfl (ex_sindexO hI47 (evS hq16 rfl rfl) rfl sl22 (by omega)) ⟨rfl, hSd⟩
    ·refine needG rfl ?_
     rintro ⟨hq17, hq10, _⟩ hno
     exact dx (wanted_yes rfl rfl (evS hq10 rfl rfl)) rfl (ex_field (o' := (o46 + 1)) (evS hq17 rfl rfl) fi46_1 rfl) ⟨rfl, hSd⟩
    ·refine needG rfl ?_
     rintro ⟨hq18, hq10, _⟩ hno
     exact dx (wanted_yes rfl rfl (evS hq10 rfl rfl)) rfl (ex_loadC (r := 1) (u := .int .i64 y31.t) hC48 (hSd.holds0 hZ0) (evS hq18 rfl rfl) on3 rfl rfl) ⟨rfl, hSd⟩
    ·refine needG rfl ?_
     rintro ⟨hq15, hq19, hq10, _⟩ hno
     exact dx (wanted_yes rfl rfl (evS hq10 rfl rfl)) rfl (ex_cmp (x := y25.t) (y := y31.t) (evS hq15 rfl rfl) (evS hq19 rfl rfl) ht49) ⟨rfl, hSd⟩
    ·refine needG rfl ?_
     rintro ⟨hq22, _⟩ hno
     exact dxS (wanted_no (b' := true) rfl rfl (evS hq22 rfl rfl) (by decide)) ⟨rfl, hSd⟩
    ·refine needG rfl ?_
     rintro ⟨hq22, _⟩ hno
     exact dxS (wanted_no (b' := true) rfl rfl (evS hq22 rfl rfl) (by decide)) ⟨rfl, hSd⟩
    ·refine needG rfl ?_
     rintro ⟨hq23, hq24, hq22, _⟩ hno
     exact dxS (wanted_no (b' := true) rfl rfl (evS hq22 rfl rfl) (by decide)) ⟨rfl, hSd⟩
    ·refine needG rfl ?_
     rintro ⟨hq25, hq22, _⟩ hno
     exact dxS (wanted_no (b' := true) rfl rfl (evS hq22 rfl rfl) (by decide)) ⟨rfl, hSd⟩
    ·refine needG rfl ?_
     rintro ⟨hq26, hq22, _⟩ hno
     exact dxS (wanted_no (b' := true) rfl rfl (evS hq22 rfl rfl) (by decide)) ⟨rfl, hSd⟩
    ·refine needG rfl ?_
     rintro ⟨hq22, _⟩ hno
     exact dxS (wanted_no (b' := true) rfl rfl (evS hq22 rfl rfl) (by decide)) ⟨rfl, hSd⟩
    ·refine needG rfl ?_
     rintro ⟨hq28, hq22, _⟩ hno
     exact dxS (wanted_no (b' := true) rfl rfl (evS hq22 rfl rfl) (by decide)) ⟨rfl, hSd⟩
    ·refine needG rfl ?_
     rintro ⟨hq29, hq22, _⟩ hno
     exact dxS (wanted_no (b' := true) rfl rfl (evS hq22 rfl rfl) (by decide)) ⟨rfl, hSd⟩
    ·refine needG rfl ?_
     rintro ⟨hq30, hq22, _⟩ hno
     exact dxS (wanted_no (b' := true) rfl rfl (evS hq22 rfl rfl) (by decide)) ⟨rfl, hSd⟩
    ·refine needG rfl ?_
     rintro ⟨hq27, hq31, hq22, _⟩ hno
     exact dxS (wanted_no (b' := true) rfl rfl (evS hq22 rfl rfl) (by decide)) ⟨rfl, hSd⟩
    refine needG rfl ?_
    rintro ⟨hq22, hq32, _⟩ hno
    exact dx (wanted_none rfl) rfl (ex_pickT (v := .bool true) (evS hq22 rfl rfl) rfl) ⟨rfl, hSd⟩
   ·exact fun S wd hSd => ⟨True.intro, True.intro, True.intro, True.intro, True.intro, True.intro, True.intro, True.intro, True.intro, True.intro, True.intro, True.intro, True.intro, True.intro, True.intro, True.intro, True.intro, True.intro, True.intro, True.intro, True.intro, True.intro, True.intro, True.intro, True.intro, True.intro, True.intro, True.intro, True.intro, True.intro, True.intro, True.intro, True.intro, True.intro, True.intro⟩
   intro _ W51 hS52
   show C _ _ _ _ _ _
   refine C_true rfl ?_
   refine C_sr ?_
   refine sqv (ex_assign (v := .int .i64 14) rfl) ?_
   show C _ _ _ _ _ _
   refine C_ret ?_
   refine blk_ret ?_
   refine thn_ret ?_
   refine thn_ret ?_
   refine blk_ret ?_
   refine thn_ret ?_
   refine done_1 (v := .int .i64 14) rfl rfl ?_
   exact ⟨congrArg _ (ckShs_14 hE (mix_bad hk.1 hy26 hy32 (by omega))), (St.pick (L := []) hS52 [] (by decide))⟩
  subst hb50
  have hb50 := of_decide_eq_false ht49.symm
  obtain ⟨b53, o54, hI55, hC56⟩ := sl_at (f := cS) (k := 5) (fun _ => rfl) (by decide) ((hs_s).1) hy26
  obtain ⟨b57, o58, hI59, hC60⟩ := sl_at (f := cS) (k := 5) (fun _ => rfl) (by decide) ((hs_s).1) hy32
  refine nm (decide (y25.n ≠ y31.n)) fun t61 ht61 => ?_
  refine C_draw (p := 34) (l := [(some 28, s), (some 29, .int .i64 (k : Int)), (some 30, .pointer (some ⟨b27, o28, none⟩)), (some 31, .pointer (some ⟨b27, o28, none⟩)), (some 32, .int .i64 y25.f), (some 33, s), (some 34, .pointer (some ⟨b33, o34, none⟩)), (some 35, .pointer (some ⟨b33, o34, none⟩)), (some 36, .int .i64 y31.f), (some 37, .bool false), (some 38, .bool false), (some 39, s), (some 40, .int .i64 (k : Int)), (some 41, .pointer (some ⟨b41, o42, none⟩)), (some 42, .pointer (some ⟨b41, o42 + 1, none⟩)), (some 43, .int .i64 y25.t), (some 44, s), (some 45, .pointer (some ⟨b45, o46, none⟩)), (some 46, .pointer (some ⟨b45, o46 + 1, none⟩)), (some 47, .int .i64 y31.t), (some 48, .bool false), (some 49, .bool false), (some 50, .bool false), (some 51, s), (some 52, .int .i64 (k : Int)), (some 53, .pointer (some ⟨b53, o54, none⟩)), (some 54, .pointer (some ⟨b53, o54 + 3, none⟩)), (some 55, .int .i64 y25.n), (some 56, s), (some 57, .pointer (some ⟨b57, o58, none⟩)), (some 58, .pointer (some ⟨b57, o58 + 3, none⟩)), (some 59, .int .i64 y31.n), (some 60, .bool t61), (some 61, .bool t61)]) (G := []) (J := fun w => St [] w0 w [] []) mixed ?_ (hS21.draw _)
  refine node1 34 [] [] [] (by kernel_rfl) rfl rfl (nd rfl) rfl (by kernel_rfl) ?_ ?_ ?_
  ·intro S wd hSd
   refine ⟨n0 rfl rfl rfl (ex_move (v := s) rfl) rfl hSd, n0 rfl rfl rfl (ex_move (v := .int .i64 (k : Int)) rfl) rfl hSd, n2 rfl rfl rfl rfl (fun hq0 hq1 => (ex_sindexO hI29 (evS hq0 rfl rfl) (evS hq1 rfl rfl) sl22 rfl)) rfl hSd, n1 rfl rfl rfl rfl (fun hq2 => (ex_field (o' := o28) (evS hq2 rfl rfl) fi46_0 rfl)) rfl hSd, n1 rfl rfl rfl rfl (fun hq3 => (ex_loadC (r := 0) (u := .int .i64 y25.f) hC30 (hSd.holds0 hZ0) (evS hq3 rfl rfl) on3 rfl rfl)) rfl hSd, n0 rfl rfl rfl (ex_move (v := s) rfl) rfl hSd, n1 rfl rfl rfl rfl (fun hq5 => (ex_sindexO hI35 (evS hq5 rfl rfl) rfl sl22 (by omega))) rfl hSd, n1 rfl rfl rfl rfl (fun hq6 => (ex_field (o' := o34) (evS hq6 rfl rfl) fi46_0 rfl)) rfl hSd, n1 rfl rfl rfl rfl (fun hq7 => (ex_loadC (r := 0) (u := .int .i64 y31.f) hC36 (hSd.holds0 hZ0) (evS hq7 rfl rfl) on3 rfl rfl)) rfl hSd, n2 rfl rfl rfl rfl (fun hq4 hq8 => (ex_cmp (x := y25.f) (y := y31.f) (evS hq4 rfl rfl) (evS hq8 rfl rfl) ht37)) rfl hSd, n1 rfl rfl rfl rfl (fun hq9 => (ex_move (v := .bool false) (evS hq9 rfl rfl))) rfl hSd, ?_, ?_, ?_, ?_, ?_, ?_, ?_, ?_, ?_, ?_, n2 rfl rfl rfl rfl (fun hq10 hq20 => (ex_pickF (v := .bool false) (evS hq10 rfl rfl) (evS hq20 rfl rfl))) rfl hSd, n2 rfl rfl rfl rfl (fun hq21 hq10 => (ex_move (v := .bool false) (evS hq21 rfl rfl))) rfl hSd, ?_, ?_, ?_, ?_, ?_, ?_, ?_, ?_, ?_, ?_, ?_, tt⟩
   ·refine needG rfl ?_
    rintro ⟨hq10, _⟩ hno
    exact dx (wanted_yes rfl rfl (evS hq10 rfl rfl)) rfl (ex_move (v := s) rfl) ⟨rfl, hSd⟩
   ·refine needG rfl ?_
    rintro ⟨hq10, _⟩ hno
    exact dx (wanted_yes rfl rfl (evS hq10 rfl rfl)) rfl (ex_move (v := .int .i64 (k : Int)) rfl) ⟨rfl, hSd⟩
   ·refine needG rfl ?_
    rintro ⟨hq11, hq12, hq10, _⟩ hno
    exact dx (wanted_yes rfl rfl (evS hq10 rfl rfl)) rfl (ex_sindexO hI43 (evS hq11 rfl rfl) (evS hq12 rfl rfl) sl22 rfl) ⟨rfl, hSd⟩
   ·refine needG rfl ?_
    rintro ⟨hq13, hq10, _⟩ hno
    exact dx (wanted_yes rfl rfl (evS hq10 rfl rfl)) rfl (ex_field (o' := (o42 + 1)) (evS hq13 rfl rfl) fi46_1 rfl) ⟨rfl, hSd⟩
   ·refine needG rfl ?_
    rintro ⟨hq14, hq10, _⟩ hno
    exact dx (wanted_yes rfl rfl (evS hq10 rfl rfl)) rfl (ex_loadC (r := 1) (u := .int .i64 y25.t) hC44 (hSd.holds0 hZ0) (evS hq14 rfl rfl) on3 rfl rfl) ⟨rfl, hSd⟩
   ·refine needG rfl ?_
    rintro ⟨hq10, _⟩ hno
    exact dx (wanted_yes rfl rfl (evS hq10 rfl rfl)) rfl (ex_move (v := s) rfl) ⟨rfl, hSd⟩
   ·refine needG rfl ?_
    rintro ⟨hq16, hq10, _⟩ hno
    exact dx (wanted_yes rfl rfl (evS hq10 rfl rfl)) rfl (ex_sindexO hI47 (evS hq16 rfl rfl) rfl sl22 (by omega)) ⟨rfl, hSd⟩
   ·refine needG rfl ?_
    rintro ⟨hq17, hq10, _⟩ hno
    exact dx (wanted_yes rfl rfl (evS hq10 rfl rfl)) rfl (ex_field (o' := (o46 + 1)) (evS hq17 rfl rfl) fi46_1 rfl) ⟨rfl, hSd⟩
   ·refine needG rfl ?_
    rintro ⟨hq18, hq10, _⟩ hno
    exact dx (wanted_yes rfl rfl (evS hq10 rfl rfl)) rfl (ex_loadC (r := 1) (u := .int .i64 y31.t) hC48 (hSd.holds0 hZ0) (evS hq18 rfl rfl) on3 rfl rfl) ⟨rfl, hSd⟩
   ·refine needG rfl ?_
    rintro ⟨hq15, hq19, hq10, _⟩ hno
    exact dx (wanted_yes rfl rfl (evS hq10 rfl rfl)) rfl (ex_cmp (x := y25.t) (y := y31.t) (evS hq15 rfl rfl) (evS hq19 rfl rfl) ht49) ⟨rfl, hSd⟩
   ·refine needG rfl ?_
    rintro ⟨hq22, _⟩ hno
    exact dx (wanted_yes rfl rfl (evS hq22 rfl rfl)) rfl (ex_move (v := s) rfl) ⟨rfl, hSd⟩
   ·refine needG rfl ?_
    rintro ⟨hq22, _⟩ hno
    exact dx (wanted_yes rfl rfl (evS hq22 rfl rfl)) rfl (ex_move (v := .int .i64 (k : Int)) rfl) ⟨rfl, hSd⟩
   ·refine needG rfl ?_
    rintro ⟨hq23, hq24, hq22, _⟩ hno
    exact dx (wanted_yes rfl rfl (evS hq22 rfl rfl)) rfl (ex_sindexO hI55 (evS hq23 rfl rfl) (evS hq24 rfl rfl) sl22 rfl) ⟨rfl, hSd⟩
   ·refine needG rfl ?_
    rintro ⟨hq25, hq22, _⟩ hno
    exact dx (wanted_yes rfl rfl (evS hq22 rfl rfl)) rfl (ex_field (o' := (o54 + 3)) (evS hq25 rfl rfl) fi46_3 rfl) ⟨rfl, hSd⟩
   ·refine needG rfl ?_
    rintro ⟨hq26, hq22, _⟩ hno
    exact dx (wanted_yes rfl rfl (evS hq22 rfl rfl)) rfl (ex_loadC (r := 3) (u := .int .i64 y25.n) hC56 (hSd.holds0 hZ0) (evS hq26 rfl rfl) on3 rfl rfl) ⟨rfl, hSd⟩
   ·refine needG rfl ?_
    rintro ⟨hq22, _⟩ hno
    exact dx (wanted_yes rfl rfl (evS hq22 rfl rfl)) rfl (ex_move (v := s) rfl) ⟨rfl, hSd⟩
   ·refine needG rfl ?_
    rintro ⟨hq28, hq22, _⟩ hno
    exact dx (wanted_yes rfl rfl (evS hq22 rfl rfl)) rfl (ex_sindexO hI59 (evS hq28 rfl rfl) rfl sl22 (by omega)) ⟨rfl, hSd⟩
   ·refine needG rfl ?_
    rintro ⟨hq29, hq22, _⟩ hno
    exact dx (wanted_yes rfl rfl (evS hq22 rfl rfl)) rfl (ex_field (o' := (o58 + 3)) (evS hq29 rfl rfl) fi46_3 rfl) ⟨rfl, hSd⟩
   ·refine needG rfl ?_
    rintro ⟨hq30, hq22, _⟩ hno
    exact dx (wanted_yes rfl rfl (evS hq22 rfl rfl)) rfl (ex_loadC (r := 3) (u := .int .i64 y31.n) hC60 (hSd.holds0 hZ0) (evS hq30 rfl rfl) on3 rfl rfl) ⟨rfl, hSd⟩
   ·refine needG rfl ?_
    rintro ⟨hq27, hq31, hq22, _⟩ hno
    exact dx (wanted_yes rfl rfl (evS hq22 rfl rfl)) rfl (ex_cmp (x := y25.n) (y := y31.n) (evS hq27 rfl rfl) (evS hq31 rfl rfl) ht61) ⟨rfl, hSd⟩
   refine needG rfl ?_
   rintro ⟨hq22, hq32, _⟩ hno
   exact dx (wanted_none rfl) rfl (ex_pickF (v := .bool t61) (evS hq22 rfl rfl) (evS hq32 rfl rfl)) ⟨rfl, hSd⟩
  ·exact fun S wd hSd => ⟨True.intro, True.intro, True.intro, True.intro, True.intro, True.intro, True.intro, True.intro, True.intro, True.intro, True.intro, True.intro, True.intro, True.intro, True.intro, True.intro, True.intro, True.intro, True.intro, True.intro, True.intro, True.intro, True.intro, True.intro, True.intro, True.intro, True.intro, True.intro, True.intro, True.intro, True.intro, True.intro, True.intro, True.intro, True.intro⟩
  intro _ W62 hS63
  show C _ _ _ _ _ _
  refine C_if (t := t61) rfl (fun hc64 => ?_) (fun hc64 => ?_)
  ·have hc64' := of_decide_eq_true (ht61.symm.trans hc64)
   refine C_sr ?_
   refine sqv (ex_assign (v := .int .i64 14) rfl) ?_
   show C _ _ _ _ _ _
   refine C_ret ?_
   refine blk_ret ?_
   refine thn_ret ?_
   refine thn_ret ?_
   refine blk_ret ?_
   refine thn_ret ?_
   refine done_1 (v := .int .i64 14) rfl rfl ?_
   exact ⟨congrArg _ (ckShs_14 hE (mix_bad hk.1 hy26 hy32 (by omega))), (St.pick (L := []) hS63 [] (by decide))⟩
  have hc64' := of_decide_eq_false (ht61.symm.trans hc64)
  refine C_skip ?_
  refine blk_normal ?_
  show C _ _ _ _ _ _
  refine C_region ?_
  refine sqv (ex_move (v := .int .i64 (k : Int)) rfl) ?_
  refine nm ((k : Int) + 1) fun x65 hx65 => ?_
  refine sqv (ex_add (x := (k : Int)) (y := 1) rfl rfl (w64 hx65 (by omega))) ?_
  refine sqv (ex_assign (v := .int .i64 x65) rfl) ?_
  exact ⟨_, (by omega), ⟨_, (k + 1), rfl, act_upds ⟨rfl, (congrArg (Value.int .i64) (by first | rfl | omega)), trivial⟩, (St.pick (L := []) hS63 [] (by decide)), (by omega), (mix_ok hm hy26 hy32 (by omega))⟩⟩
 refine C_exit ?_
 refine thn_exit ?_
 refine thn_exit ?_
 refine blk_exit ?_
 show C _ _ _ _ _ _
 refine C_seq ?_
 refine C_sr ?_
 refine sqv (ex_assign (v := .int .i64 0) rfl) ?_
 show C _ _ _ _ _ _
 refine C_block ?_
 have hM : mixH l = false := by rw [← List.take_of_length_le (show l.length ≤ k by omega)]; exact hm
 refine C_loop (fun nn aa ww => ∃ (m0 : Nat → Value) (i : Nat), nn = l.length - i ∧ aa = act 96 (upds m0 [(0, s), (6, .int .i64 (i : Int))]) [] ∧ St [] w0 ww [] [] ∧ (i ≤ l.length) ∧ ((idxL (l.take i)).Nodup)) l.length ?_ ?_
 ·exact ⟨_, 0, rfl, act_upds ⟨rfl, (congrArg (Value.int .i64) (by first | rfl | omega)), trivial⟩, (St.pick (L := []) hS21 [] (by decide)), (Nat.zero_le _), List.nodup_nil⟩
 rintro n69 a70 W67 ⟨m66, i, rfl, rfl, hS68, hi, hn⟩
 refine C_seq ?_
 refine C_sr ?_
 refine sqv (ex_move (v := .int .i64 (i : Int)) rfl) ?_
 refine sqv (ex_move (v := s) rfl) ?_
 refine sqv (ex_lenO (f := cS) (k := 5) (r := (l.length : Int)) (fun _ => rfl) (by decide) ((hs_s).1) rfl sl22 rfl) ?_
 refine sqv (ex_cmp (x := (i : Int)) (y := (l.length : Int)) (r := decide ((i : Int) < (l.length : Int))) rfl rfl rfl) ?_
 show C _ _ _ _ _ _
 refine C_dec ((i : Int) < (l.length : Int)) rfl (fun hc71 => ?_) (fun hc71 => ?_)
 ·refine C_skip ?_
  show C _ _ _ _ _ _
  refine C_seq ?_
  refine C_block ?_
  refine C_sr ?_
  refine sqv (ex_assign (v := .int .i64 0) rfl) ?_
  show C _ _ _ _ _ _
  refine C_block ?_
  refine C_loop (fun nn aa ww => ∃ (m0 : Nat → Value) (j : Nat), nn = i - j ∧ aa = act 96 (upds m0 [(0, s), (6, .int .i64 (i : Int)), (7, .int .i64 (j : Int))]) [] ∧ St [] w0 ww [] [] ∧ (j ≤ i) ∧ (∀ (y : Sh) (j2 : Nat) (z : Sh), l[i]? = some y → j2 < j → l[j2]? = some z → y.i ≠ z.i)) i ?_ ?_
  ·exact ⟨_, 0, rfl, act_upds ⟨rfl, (congrArg (Value.int .i64) (by first | rfl | omega)), (congrArg (Value.int .i64) (by first | rfl | omega)), trivial⟩, (St.pick (L := []) hS68 [] (by decide)), (Nat.zero_le _), (fun y j2 z _ h _ => absurd h (by omega))⟩
  rintro n75 a76 W73 ⟨m72, j, rfl, rfl, hS74, hj, hd⟩
  refine C_seq ?_
  refine C_sr ?_
  refine sqv (ex_move (v := .int .i64 (j : Int)) rfl) ?_
  refine sqv (ex_move (v := .int .i64 (i : Int)) rfl) ?_
  refine sqv (ex_cmp (x := (j : Int)) (y := (i : Int)) (r := decide ((j : Int) < (i : Int))) rfl rfl rfl) ?_
  show C _ _ _ _ _ _
  refine C_dec ((j : Int) < (i : Int)) rfl (fun hc77 => ?_) (fun hc77 => ?_)
  ·refine C_skip ?_
   show C _ _ _ _ _ _
   refine C_seq ?_
   refine C_block ?_
   refine C_seq ?_
   obtain ⟨y78, hy79⟩ := get_lt l i (by first | omega | (simp only [List.length_set, List.length_replicate, List.length_append, List.length_take, List.length_drop, List.length_cons, List.length_nil, List.length_map]; omega))
   have hky78 := g0 y78 (List.mem_of_getElem? hy79)
   obtain ⟨b80, o81, hI82, hC83⟩ := sl_at (f := cS) (k := 5) (fun _ => rfl) (by decide) ((hs_s).1) hy79
   obtain ⟨y84, hy85⟩ := get_lt l j (by first | omega | (simp only [List.length_set, List.length_replicate, List.length_append, List.length_take, List.length_drop, List.length_cons, List.length_nil, List.length_map]; omega))
   have hky84 := g0 y84 (List.mem_of_getElem? hy85)
   obtain ⟨b86, o87, hI88, hC89⟩ := sl_at (f := cS) (k := 5) (fun _ => rfl) (by decide) ((hs_s).1) hy85
   refine C_draw (p := 11) (l := [(some 73, s), (some 74, .int .i64 (i : Int)), (some 75, .pointer (some ⟨b80, o81, none⟩)), (some 76, .pointer (some ⟨b80, o81 + 2, none⟩)), (some 77, .int .i64 y78.i), (some 78, s), (some 79, .int .i64 (j : Int)), (some 80, .pointer (some ⟨b86, o87, none⟩)), (some 81, .pointer (some ⟨b86, o87 + 2, none⟩)), (some 82, .int .i64 y84.i), (some 83, .bool (decide (y78.i = y84.i)))]) (G := []) (J := fun w => St [] w0 w [] []) mixed ?_ (hS74.draw _)
   refine node1 11 [] [] [] (by kernel_rfl) rfl rfl (nd rfl) rfl (by kernel_rfl) ?_ ?_ ?_
   ·intro S wd hSd
    refine ⟨n0 rfl rfl rfl (ex_move (v := s) rfl) rfl hSd, n0 rfl rfl rfl (ex_move (v := .int .i64 (i : Int)) rfl) rfl hSd, n2 rfl rfl rfl rfl (fun hq0 hq1 => (ex_sindexO hI82 (evS hq0 rfl rfl) (evS hq1 rfl rfl) sl22 rfl)) rfl hSd, n1 rfl rfl rfl rfl (fun hq2 => (ex_field (o' := (o81 + 2)) (evS hq2 rfl rfl) fi46_2 rfl)) rfl hSd, n1 rfl rfl rfl rfl (fun hq3 => (ex_loadC (r := 2) (u := .int .i64 y78.i) hC83 (hSd.holds0 hZ0) (evS hq3 rfl rfl) on3 rfl rfl)) rfl hSd, n0 rfl rfl rfl (ex_move (v := s) rfl) rfl hSd, n0 rfl rfl rfl (ex_move (v := .int .i64 (j : Int)) rfl) rfl hSd, n2 rfl rfl rfl rfl (fun hq5 hq6 => (ex_sindexO hI88 (evS hq5 rfl rfl) (evS hq6 rfl rfl) sl22 rfl)) rfl hSd, n1 rfl rfl rfl rfl (fun hq7 => (ex_field (o' := (o87 + 2)) (evS hq7 rfl rfl) fi46_2 rfl)) rfl hSd, n1 rfl rfl rfl rfl (fun hq8 => (ex_loadC (r := 2) (u := .int .i64 y84.i) hC89 (hSd.holds0 hZ0) (evS hq8 rfl rfl) on3 rfl rfl)) rfl hSd, ?_, tt⟩
    refine needG rfl ?_
    rintro ⟨hq4, hq9, _⟩ hno
    exact dx (wanted_none rfl) rfl (ex_cmp (x := y78.i) (y := y84.i) (r := decide (y78.i = y84.i)) (evS hq4 rfl rfl) (evS hq9 rfl rfl) rfl) ⟨rfl, hSd⟩
   ·exact fun S wd hSd => ⟨True.intro, True.intro, True.intro, True.intro, True.intro, True.intro, True.intro, True.intro, True.intro, True.intro, True.intro, True.intro⟩
   intro _ W90 hS91
   show C _ _ _ _ _ _
   refine C_dec (y78.i = y84.i) rfl (fun hc92 => ?_) (fun hc92 => ?_)
   ·refine C_sr ?_
    refine sqv (ex_assign (v := .int .i64 15) rfl) ?_
    show C _ _ _ _ _ _
    refine C_ret ?_
    refine blk_ret ?_
    refine thn_ret ?_
    refine thn_ret ?_
    refine blk_ret ?_
    refine blk_ret ?_
    refine thn_ret ?_
    refine thn_ret ?_
    refine blk_ret ?_
    refine thn_ret ?_
    refine done_1 (v := .int .i64 15) rfl rfl ?_
    exact ⟨congrArg _ (ckShs_15 hE hM.symm (by have h := keys_lt (idxL l); rw [idxL_len] at h; exact h.2 (nd_bad (by omega) hy79 hy85 (by assumption)))), (St.pick (L := []) hS91 [] (by decide))⟩
   refine C_skip ?_
   refine blk_normal ?_
   show C _ _ _ _ _ _
   refine C_region ?_
   refine sqv (ex_move (v := .int .i64 (j : Int)) rfl) ?_
   refine nm ((j : Int) + 1) fun x93 hx93 => ?_
   refine sqv (ex_add (x := (j : Int)) (y := 1) rfl rfl (w64 hx93 (by omega))) ?_
   refine sqv (ex_assign (v := .int .i64 x93) rfl) ?_
   exact ⟨_, (by omega), ⟨_, (j + 1), rfl, act_upds ⟨rfl, (congrArg (Value.int .i64) (by first | rfl | omega)), (congrArg (Value.int .i64) (by first | rfl | omega)), trivial⟩, (St.pick (L := []) hS91 [] (by decide)), (by omega), (fun y j2 z hy hj hz => by rcases Nat.lt_or_ge j2 j with h | h; exact hd y j2 z hy h hz; obtain rfl : j2 = j := (by omega); rw [hy79] at hy; rw [hy85] at hz; cases hy; cases hz; assumption)⟩⟩
  refine C_exit ?_
  refine thn_exit ?_
  refine thn_exit ?_
  refine blk_exit ?_
  refine blk_normal ?_
  show C _ _ _ _ _ _
  refine C_region ?_
  refine sqv (ex_move (v := .int .i64 (i : Int)) rfl) ?_
  refine nm ((i : Int) + 1) fun x94 hx94 => ?_
  refine sqv (ex_add (x := (i : Int)) (y := 1) rfl rfl (w64 hx94 (by omega))) ?_
  refine sqv (ex_assign (v := .int .i64 x94) rfl) ?_
  obtain ⟨yi, hyi⟩ := get_lt l i (by omega)
  exact ⟨_, (by omega), ⟨_, (i + 1), rfl, act_upds ⟨rfl, (congrArg (Value.int .i64) (by first | rfl | omega)), trivial⟩, (St.pick (L := []) hS74 [] (by decide)), (by omega), (nd_ok hn hyi (fun j z hj hz => hd _ j z hyi (by omega) hz))⟩⟩
 refine C_exit ?_
 refine thn_exit ?_
 refine thn_exit ?_
 refine blk_exit ?_
 show C _ _ _ _ _ _
 refine C_seq ?_
 refine C_sr ?_
 refine sqv (ex_move (v := s) rfl) ?_
 refine sqv (ex_lenO (f := cS) (k := 5) (r := (l.length : Int)) (fun _ => rfl) (by decide) ((hs_s).1) rfl sl22 rfl) ?_
 refine nm (decide ((l.length : Int) = 0)) fun t95 ht95 => ?_
 refine sqv (ex_cmp (x := (l.length : Int)) (y := 0) rfl rfl ht95) ?_
 refine sqv (ex_move (v := .bool t95) rfl) ?_
 rcases bool_cases t95 with hb96 | hb96
 ·subst hb96
  have hb96 := of_decide_eq_true ht95.symm
  refine guard_no (b' := true) rfl rfl (by decide) ?_
  refine guard_no (b' := true) rfl rfl (by decide) ?_
  refine guard_no (b' := true) rfl rfl (by decide) ?_
  refine guard_no (b' := true) rfl rfl (by decide) ?_
  refine guard_no (b' := true) rfl rfl (by decide) ?_
  refine guard_no (b' := true) rfl rfl (by decide) ?_
  refine guard_no (b' := true) rfl rfl (by decide) ?_
  refine sqv (ex_pick (t := true) (v := .bool true) rfl rfl) ?_
  show C _ _ _ _ _ _
  refine C_true rfl ?_
  refine C_sr ?_
  refine sqv (ex_assign (v := .int .i64 16) rfl) ?_
  show C _ _ _ _ _ _
  refine C_ret ?_
  refine thn_ret ?_
  refine done_1 (v := .int .i64 16) rfl rfl ?_
  obtain rfl : i = l.length := by omega
  rw [List.take_length] at hn
  exact ⟨congrArg _ (ckShs_16a hE hM.symm (by have h := keys_lt (idxL l); rw [idxL_len] at h; exact fun hlt => h.1 hlt hn) (by omega)), (St.pick (L := []) hS68 [] (by decide))⟩
 subst hb96
 have hb96 := of_decide_eq_false ht95.symm
 refine guard_yes (b := false) rfl rfl ?_
 refine sqv (ex_move (v := s) rfl) ?_
 refine guard_yes (b := false) rfl rfl ?_
 refine sqv (ex_lenO (f := cS) (k := 5) (r := (l.length : Int)) (fun _ => rfl) (by decide) ((hs_s).1) rfl sl22 rfl) ?_
 refine guard_yes (b := false) rfl rfl ?_
 refine sqv (ex_move (v := s) rfl) ?_
 refine guard_yes (b := false) rfl rfl ?_
 obtain ⟨y97, hy98⟩ := get_lt l 0 (by first | omega | (simp only [List.length_set, List.length_replicate, List.length_append, List.length_take, List.length_drop, List.length_cons, List.length_nil, List.length_map]; omega))
 have hky97 := g0 y97 (List.mem_of_getElem? hy98)
 obtain ⟨b99, o100, hI101, hC102⟩ := sl_at (f := cS) (k := 5) (fun _ => rfl) (by decide) ((hs_s).1) hy98
 refine sqv (ex_sindexO hI101 rfl rfl sl22 (by omega)) ?_
 refine guard_yes (b := false) rfl rfl ?_
 refine sqv (ex_field (o' := (o100 + 1)) rfl fi46_1 rfl) ?_
 refine guard_yes (b := false) rfl rfl ?_
 refine sqv (ex_loadC (r := 1) (u := .int .i64 y97.t) hC102 (hS68.holds0 hZ0) rfl on3 rfl rfl) ?_
 refine guard_yes (b := false) rfl rfl ?_
 refine nm (decide ((l.length : Int) < y97.t)) fun t103 ht103 => ?_
 refine sqv (ex_cmp (x := (l.length : Int)) (y := y97.t) rfl rfl ht103) ?_
 refine sqv (ex_pick (t := false) (v := .bool t103) rfl rfl) ?_
 show C _ _ _ _ _ _
 refine C_if (t := t103) rfl (fun hc104 => ?_) (fun hc104 => ?_)
 ·have hc104' := of_decide_eq_true (ht103.symm.trans hc104)
  refine C_sr ?_
  refine sqv (ex_assign (v := .int .i64 16) rfl) ?_
  show C _ _ _ _ _ _
  refine C_ret ?_
  refine thn_ret ?_
  refine done_1 (v := .int .i64 16) rfl rfl ?_
  obtain rfl : i = l.length := by omega
  rw [List.take_length] at hn
  exact ⟨congrArg _ (ckShs_16b hE hM.symm (by have h := keys_lt (idxL l); rw [idxL_len] at h; exact fun hlt => h.1 hlt hn) hy98 (by omega)), (St.pick (L := []) hS68 [] (by decide))⟩
 have hc104' := of_decide_eq_false (ht103.symm.trans hc104)
 refine C_skip ?_
 show C _ _ _ _ _ _
 refine C_sr ?_
 refine sqv (ex_assign (v := .int .i64 0) rfl) ?_
 show C _ _ _ _ _ _
 refine C_ret ?_
 refine done_1 (v := .int .i64 0) rfl rfl ?_
 obtain rfl : i = l.length := by omega
 rw [List.take_length] at hn
 exact ⟨congrArg _ (ckShs_0 hE hM.symm (by have h := keys_lt (idxL l); rw [idxL_len] at h; exact fun hlt => h.1 hlt hn) hy98 (by omega)), (St.pick (L := []) hS68 [] (by decide))⟩
end Go.Proofs
end
section
set_option linter.unusedVariables false
set_option linter.unusedSimpArgs false
set_option maxRecDepth 20000
set_option maxHeartbeats 2000000
namespace Go.Proofs
open Sc
theorem en27 : enters Tryz.prog 27 = true := by kernel_rfl
theorem en88 : enters Tryz.prog 88 = true := by kernel_rfl
end Go.Proofs
end
section
set_option linter.unusedVariables false
set_option linter.unusedSimpArgs false
set_option maxRecDepth 20000
set_option maxHeartbeats 2000000
namespace Go.Proofs
open Sc
theorem bo4 : boolOf Tryz.prog 4 = true := by kernel_rfl
theorem c_EqualI  (a : Value) (xs : List Int) (b : Value) (ys : List Int) (Z0 : List Fact) (w0 : World)  (hZ0 : Holds w0 Z0) (hs_a : Sl Z0 3 1 a (xs.flatMap cI)) (hs_b : Sl Z0 3 1 b (ys.flatMap cI)) : Calls Tryz.prog 17 #[a, b] w0 (Ret fun uu w' => uu = .bool (decide (xs = ys)) ∧ St [] w0 w' [] []) := by
 have hlen := sl_lt (f := cI) (k := 1) (fun _ => rfl) (by decide) hs_a
 refine calls_of Tryz.func17 rfl Tryz.ntmps17 (Nat.le_of_ble_eq_true rfl) ?_
 have hS0 := St.nil w0
 refine C_sr ?_
 refine sqv (ex_assign (v := .bool false) rfl) ?_
 show C _ _ _ _ _ _
 refine C_seq ?_
 refine C_sr ?_
 refine sqv (ex_move (v := a) rfl) ?_
 refine sqv (ex_lenO (f := cI) (k := 1) (r := (xs.length : Int)) (fun _ => rfl) (by decide) (hs_a) rfl sl25 rfl) ?_
 refine sqv (ex_move (v := b) rfl) ?_
 refine sqv (ex_lenO (f := cI) (k := 1) (r := (ys.length : Int)) (fun _ => rfl) (by decide) (hs_b) rfl sl25 rfl) ?_
 refine sqv (ex_cmp (x := (xs.length : Int)) (y := (ys.length : Int)) (r := decide ((xs.length : Int) ≠ (ys.length : Int))) rfl rfl rfl) ?_
 show C _ _ _ _ _ _
 refine C_dec ((xs.length : Int) ≠ (ys.length : Int)) rfl (fun hc1 => ?_) (fun hc1 => ?_)
 ·refine C_sr ?_
  refine sqv (ex_assign (v := .bool false) rfl) ?_
  show C _ _ _ _ _ _
  refine C_ret ?_
  refine thn_ret ?_
  refine done_1 (v := .bool false) rfl rfl ?_
  exact ⟨congrArg _ (decide_eq_false (ne_len (by omega))).symm, (St.pick (L := []) hS0 [] (by decide))⟩
 refine C_skip ?_
 show C _ _ _ _ _ _
 refine C_seq ?_
 refine C_sr ?_
 refine sqv (ex_move (v := a) rfl) ?_
 refine sqv (ex_lenO (f := cI) (k := 1) (r := (xs.length : Int)) (fun _ => rfl) (by decide) (hs_a) rfl sl25 rfl) ?_
 refine sqv (ex_move (v := .int .i64 0) rfl) ?_
 show C _ _ _ _ _ _
 refine C_block ?_
 refine C_loop (fun nn aa ww => ∃ (m0 : Nat → Value) (k : Nat), nn = xs.length - k ∧ aa = act 26 (upds m0 [(0, a), (1, b), (12, .int .i64 (xs.length : Int)), (13, .int .i64 (k : Int))]) [] ∧ St [] w0 ww [] [] ∧ (k ≤ xs.length) ∧ (xs.take k = ys.take k)) xs.length ?_ ?_
 ·exact ⟨_, 0, rfl, act_upds ⟨rfl, rfl, (congrArg (Value.int .i64) (by first | rfl | omega)), (congrArg (Value.int .i64) (by first | rfl | omega)), trivial⟩, (St.pick (L := []) hS0 [] (by decide)), (Nat.zero_le _), rfl⟩
 rintro n5 a6 W3 ⟨m2, k, rfl, rfl, hS4, hk, he⟩
 refine C_sr ?_
 refine sqv (ex_cmp (x := (k : Int)) (y := (xs.length : Int)) (r := decide ((k : Int) < (xs.length : Int))) rfl rfl rfl) ?_
 show C _ _ _ _ _ _
 refine C_seq ?_
 refine C_dec ((k : Int) < (xs.length : Int)) rfl (fun hc7 => ?_) (fun hc7 => ?_)
 ·refine C_skip ?_
  show C _ _ _ _ _ _
  refine C_seq ?_
  refine C_block ?_
  refine C_sr ?_
  refine sqv (ex_move (v := .int .i64 (k : Int)) rfl) ?_
  refine sqv (ex_assign (v := .int .i64 (k : Int)) rfl) ?_
  show C _ _ _ _ _ _
  refine C_seq ?_
  obtain ⟨y8, hy9⟩ := get_lt xs k (by first | omega | (simp only [List.length_set, List.length_replicate, List.length_append, List.length_take, List.length_drop, List.length_cons, List.length_nil, List.length_map]; omega))
  obtain ⟨b10, o11, hI12, hC13⟩ := sl_at (f := cI) (k := 1) (fun _ => rfl) (by decide) (hs_a) hy9
  obtain ⟨y14, hy15⟩ := get_lt ys k (by first | omega | (simp only [List.length_set, List.length_replicate, List.length_append, List.length_take, List.length_drop, List.length_cons, List.length_nil, List.length_map]; omega))
  obtain ⟨b16, o17, hI18, hC19⟩ := sl_at (f := cI) (k := 1) (fun _ => rfl) (by decide) (hs_b) hy15
  refine C_draw (p := 9) (l := [(some 16, a), (some 17, .int .i64 (k : Int)), (some 18, .pointer (some ⟨b10, o11, none⟩)), (some 19, .int .i64 y8), (some 20, b), (some 21, .int .i64 (k : Int)), (some 22, .pointer (some ⟨b16, o17, none⟩)), (some 23, .int .i64 y14), (some 24, .bool (decide (y8 ≠ y14)))]) (G := []) (J := fun w => St [] w0 w [] []) mixed ?_ (hS4.draw _)
  refine node1 9 [] [] [] (by kernel_rfl) rfl rfl (nd rfl) rfl (by kernel_rfl) ?_ ?_ ?_
  ·intro S wd hSd
   refine ⟨n0 rfl rfl rfl (ex_move (v := a) rfl) rfl hSd, n0 rfl rfl rfl (ex_move (v := .int .i64 (k : Int)) rfl) rfl hSd, n2 rfl rfl rfl rfl (fun hq0 hq1 => (ex_sindexO hI12 (evS hq0 rfl rfl) (evS hq1 rfl rfl) sl25 rfl)) rfl hSd, n1 rfl rfl rfl rfl (fun hq2 => (ex_loadC (r := 0) (u := .int .i64 y8) hC13 (hSd.holds0 hZ0) (evS hq2 rfl rfl) on3 rfl rfl)) rfl hSd, n0 rfl rfl rfl (ex_move (v := b) rfl) rfl hSd, n0 rfl rfl rfl (ex_move (v := .int .i64 (k : Int)) rfl) rfl hSd, n2 rfl rfl rfl rfl (fun hq4 hq5 => (ex_sindexO hI18 (evS hq4 rfl rfl) (evS hq5 rfl rfl) sl25 rfl)) rfl hSd, n1 rfl rfl rfl rfl (fun hq6 => (ex_loadC (r := 0) (u := .int .i64 y14) hC19 (hSd.holds0 hZ0) (evS hq6 rfl rfl) on3 rfl rfl)) rfl hSd, ?_, tt⟩
   refine needG rfl ?_
   rintro ⟨hq3, hq7, _⟩ hno
   exact dx (wanted_none rfl) rfl (ex_cmp (x := y8) (y := y14) (r := decide (y8 ≠ y14)) (evS hq3 rfl rfl) (evS hq7 rfl rfl) rfl) ⟨rfl, hSd⟩
  ·exact fun S wd hSd => ⟨True.intro, True.intro, True.intro, True.intro, True.intro, True.intro, True.intro, True.intro, True.intro, True.intro⟩
  intro _ W20 hS21
  show C _ _ _ _ _ _
  refine C_dec (y8 ≠ y14) rfl (fun hc22 => ?_) (fun hc22 => ?_)
  ·refine C_sr ?_
   refine sqv (ex_assign (v := .bool false) rfl) ?_
   show C _ _ _ _ _ _
   refine C_ret ?_
   refine blk_ret ?_
   refine thn_ret ?_
   refine thn_ret ?_
   refine blk_ret ?_
   refine thn_ret ?_
   refine done_1 (v := .bool false) rfl rfl ?_
   exact ⟨congrArg _ (decide_eq_false (ne_at hy9 hy15 (by assumption))).symm, (St.pick (L := []) hS21 [] (by decide))⟩
  refine C_skip ?_
  refine blk_normal ?_
  show C _ _ _ _ _ _
  refine C_region ?_
  refine nm ((k : Int) + 1) fun x23 hx23 => ?_
  refine sqv (ex_add (x := (k : Int)) (y := 1) rfl rfl (w64 hx23 (by omega))) ?_
  refine sqv (ex_move (v := .int .i64 x23) rfl) ?_
  exact ⟨_, (by omega), ⟨_, (k + 1), rfl, act_upds ⟨rfl, rfl, (congrArg (Value.int .i64) (by first | rfl | omega)), (congrArg (Value.int .i64) (by first | rfl | omega)), trivial⟩, (St.pick (L := []) hS21 [] (by decide)), (by omega), (eq_step he hy9 hy15 (Classical.not_not.1 hc22))⟩⟩
 refine C_exit ?_
 refine thn_exit ?_
 refine thn_exit ?_
 refine blk_exit ?_
 show C _ _ _ _ _ _
 refine C_sr ?_
 refine sqv (ex_assign (v := .bool true) rfl) ?_
 show C _ _ _ _ _ _
 refine C_ret ?_
 refine done_1 (v := .bool true) rfl rfl ?_
 obtain rfl : k = xs.length := by omega
 exact ⟨congrArg _ (decide_eq_true (by rw [List.take_length] at he; rw [he, List.take_of_length_le (by omega)])).symm, (St.pick (L := []) hS4 [] (by decide))⟩
theorem c_EqualB  (a : Value) (xs : List Bool) (b : Value) (ys : List Bool) (Z0 : List Fact) (w0 : World)  (hZ0 : Holds w0 Z0) (hs_a : Sl Z0 4 1 a (xs.flatMap cT)) (hs_b : Sl Z0 4 1 b (ys.flatMap cT)) : Calls Tryz.prog 50 #[a, b] w0 (Ret fun uu w' => uu = .bool (decide (xs = ys)) ∧ St [] w0 w' [] []) := by
 have hlen := sl_lt (f := cT) (k := 1) (fun _ => rfl) (by decide) hs_a
 refine calls_of Tryz.func50 rfl Tryz.ntmps50 (Nat.le_of_ble_eq_true rfl) ?_
 have hS0 := St.nil w0
 refine C_sr ?_
 refine sqv (ex_assign (v := .bool false) rfl) ?_
 show C _ _ _ _ _ _
 refine C_seq ?_
 refine C_sr ?_
 refine sqv (ex_move (v := a) rfl) ?_
 refine sqv (ex_lenO (f := cT) (k := 1) (r := (xs.length : Int)) (fun _ => rfl) (by decide) (hs_a) rfl sl53 rfl) ?_
 refine sqv (ex_move (v := b) rfl) ?_
 refine sqv (ex_lenO (f := cT) (k := 1) (r := (ys.length : Int)) (fun _ => rfl) (by decide) (hs_b) rfl sl53 rfl) ?_
 refine sqv (ex_cmp (x := (xs.length : Int)) (y := (ys.length : Int)) (r := decide ((xs.length : Int) ≠ (ys.length : Int))) rfl rfl rfl) ?_
 show C _ _ _ _ _ _
 refine C_dec ((xs.length : Int) ≠ (ys.length : Int)) rfl (fun hc1 => ?_) (fun hc1 => ?_)
 ·refine C_sr ?_
  refine sqv (ex_assign (v := .bool false) rfl) ?_
  show C _ _ _ _ _ _
  refine C_ret ?_
  refine thn_ret ?_
  refine done_1 (v := .bool false) rfl rfl ?_
  exact ⟨congrArg _ (decide_eq_false (ne_len (by omega))).symm, (St.pick (L := []) hS0 [] (by decide))⟩
 refine C_skip ?_
 show C _ _ _ _ _ _
 refine C_seq ?_
 refine C_sr ?_
 refine sqv (ex_move (v := a) rfl) ?_
 refine sqv (ex_lenO (f := cT) (k := 1) (r := (xs.length : Int)) (fun _ => rfl) (by decide) (hs_a) rfl sl53 rfl) ?_
 refine sqv (ex_move (v := .int .i64 0) rfl) ?_
 show C _ _ _ _ _ _
 refine C_block ?_
 refine C_loop (fun nn aa ww => ∃ (m0 : Nat → Value) (k : Nat), nn = xs.length - k ∧ aa = act 26 (upds m0 [(0, a), (1, b), (12, .int .i64 (xs.length : Int)), (13, .int .i64 (k : Int))]) [] ∧ St [] w0 ww [] [] ∧ (k ≤ xs.length) ∧ (xs.take k = ys.take k)) xs.length ?_ ?_
 ·exact ⟨_, 0, rfl, act_upds ⟨rfl, rfl, (congrArg (Value.int .i64) (by first | rfl | omega)), (congrArg (Value.int .i64) (by first | rfl | omega)), trivial⟩, (St.pick (L := []) hS0 [] (by decide)), (Nat.zero_le _), rfl⟩
 rintro n5 a6 W3 ⟨m2, k, rfl, rfl, hS4, hk, he⟩
 refine C_sr ?_
 refine sqv (ex_cmp (x := (k : Int)) (y := (xs.length : Int)) (r := decide ((k : Int) < (xs.length : Int))) rfl rfl rfl) ?_
 show C _ _ _ _ _ _
 refine C_seq ?_
 refine C_dec ((k : Int) < (xs.length : Int)) rfl (fun hc7 => ?_) (fun hc7 => ?_)
 ·refine C_skip ?_
  show C _ _ _ _ _ _
  refine C_seq ?_
  refine C_block ?_
  refine C_sr ?_
  refine sqv (ex_move (v := .int .i64 (k : Int)) rfl) ?_
  refine sqv (ex_assign (v := .int .i64 (k : Int)) rfl) ?_
  show C _ _ _ _ _ _
  refine C_seq ?_
  obtain ⟨y8, hy9⟩ := get_lt xs k (by first | omega | (simp only [List.length_set, List.length_replicate, List.length_append, List.length_take, List.length_drop, List.length_cons, List.length_nil, List.length_map]; omega))
  obtain ⟨b10, o11, hI12, hC13⟩ := sl_at (f := cT) (k := 1) (fun _ => rfl) (by decide) (hs_a) hy9
  obtain ⟨y14, hy15⟩ := get_lt ys k (by first | omega | (simp only [List.length_set, List.length_replicate, List.length_append, List.length_take, List.length_drop, List.length_cons, List.length_nil, List.length_map]; omega))
  obtain ⟨b16, o17, hI18, hC19⟩ := sl_at (f := cT) (k := 1) (fun _ => rfl) (by decide) (hs_b) hy15
  refine C_draw (p := 9) (l := [(some 16, a), (some 17, .int .i64 (k : Int)), (some 18, .pointer (some ⟨b10, o11, none⟩)), (some 19, .bool y8), (some 20, b), (some 21, .int .i64 (k : Int)), (some 22, .pointer (some ⟨b16, o17, none⟩)), (some 23, .bool y14), (some 24, .bool (decide (y8 ≠ y14)))]) (G := []) (J := fun w => St [] w0 w [] []) mixed ?_ (hS4.draw _)
  refine node1 9 [] [] [] (by kernel_rfl) rfl rfl (nd rfl) rfl (by kernel_rfl) ?_ ?_ ?_
  ·intro S wd hSd
   refine ⟨n0 rfl rfl rfl (ex_move (v := a) rfl) rfl hSd, n0 rfl rfl rfl (ex_move (v := .int .i64 (k : Int)) rfl) rfl hSd, n2 rfl rfl rfl rfl (fun hq0 hq1 => (ex_sindexO hI12 (evS hq0 rfl rfl) (evS hq1 rfl rfl) sl53 rfl)) rfl hSd, n1 rfl rfl rfl rfl (fun hq2 => (ex_loadC (r := 0) (u := .bool y8) hC13 (hSd.holds0 hZ0) (evS hq2 rfl rfl) on4 rfl rfl)) rfl hSd, n0 rfl rfl rfl (ex_move (v := b) rfl) rfl hSd, n0 rfl rfl rfl (ex_move (v := .int .i64 (k : Int)) rfl) rfl hSd, n2 rfl rfl rfl rfl (fun hq4 hq5 => (ex_sindexO hI18 (evS hq4 rfl rfl) (evS hq5 rfl rfl) sl53 rfl)) rfl hSd, n1 rfl rfl rfl rfl (fun hq6 => (ex_loadC (r := 0) (u := .bool y14) hC19 (hSd.holds0 hZ0) (evS hq6 rfl rfl) on4 rfl rfl)) rfl hSd, ?_, tt⟩
   refine needG rfl ?_
   rintro ⟨hq3, hq7, _⟩ hno
   exact dx (wanted_none rfl) rfl (ex_eqB (x := y8) (y := y14) (t := decide (y8 ≠ y14)) bo4 (evS hq3 rfl rfl) (evS hq7 rfl rfl) rfl) ⟨rfl, hSd⟩
  ·exact fun S wd hSd => ⟨True.intro, True.intro, True.intro, True.intro, True.intro, True.intro, True.intro, True.intro, True.intro, True.intro⟩
  intro _ W20 hS21
  show C _ _ _ _ _ _
  refine C_dec (y8 ≠ y14) rfl (fun hc22 => ?_) (fun hc22 => ?_)
  ·refine C_sr ?_
   refine sqv (ex_assign (v := .bool false) rfl) ?_
   show C _ _ _ _ _ _
   refine C_ret ?_
   refine blk_ret ?_
   refine thn_ret ?_
   refine thn_ret ?_
   refine blk_ret ?_
   refine thn_ret ?_
   refine done_1 (v := .bool false) rfl rfl ?_
   exact ⟨congrArg _ (decide_eq_false (ne_at hy9 hy15 (by assumption))).symm, (St.pick (L := []) hS21 [] (by decide))⟩
  refine C_skip ?_
  refine blk_normal ?_
  show C _ _ _ _ _ _
  refine C_region ?_
  refine nm ((k : Int) + 1) fun x23 hx23 => ?_
  refine sqv (ex_add (x := (k : Int)) (y := 1) rfl rfl (w64 hx23 (by omega))) ?_
  refine sqv (ex_move (v := .int .i64 x23) rfl) ?_
  exact ⟨_, (by omega), ⟨_, (k + 1), rfl, act_upds ⟨rfl, rfl, (congrArg (Value.int .i64) (by first | rfl | omega)), (congrArg (Value.int .i64) (by first | rfl | omega)), trivial⟩, (St.pick (L := []) hS21 [] (by decide)), (by omega), (eq_step he hy9 hy15 (Classical.not_not.1 hc22))⟩⟩
 refine C_exit ?_
 refine thn_exit ?_
 refine thn_exit ?_
 refine blk_exit ?_
 show C _ _ _ _ _ _
 refine C_sr ?_
 refine sqv (ex_assign (v := .bool true) rfl) ?_
 show C _ _ _ _ _ _
 refine C_ret ?_
 refine done_1 (v := .bool true) rfl rfl ?_
 obtain rfl : k = xs.length := by omega
 exact ⟨congrArg _ (decide_eq_true (by rw [List.take_length] at he; rw [he, List.take_of_length_le (by omega)])).symm, (St.pick (L := []) hS4 [] (by decide))⟩
theorem c_Large  (s : Value) (l : List Sh) (Z0 : List Fact) (w0 : World)  (hZ0 : Holds w0 Z0) (hs_s : Shs Z0 46 49 s l) : Calls Tryz.prog 13 #[s] w0 (Ret fun uu w' => uu = .int .i64 (lrg l) ∧ St [] w0 w' [] []) := by
 have hlen := sl_lt (f := cS) (k := 5) (fun _ => rfl) (by decide) hs_s.1
 refine calls_of Tryz.func13 rfl Tryz.ntmps13 (Nat.le_of_ble_eq_true rfl) ?_
 have hS0 := St.nil w0
 refine C_sr ?_
 refine sqv (ex_assign (v := .int .i64 0) rfl) ?_
 show C _ _ _ _ _ _
 refine C_seq ?_
 refine C_sr ?_
 refine sqv (ex_move (v := s) rfl) ?_
 refine sqv (ex_lenO (f := cS) (k := 5) (r := (l.length : Int)) (fun _ => rfl) (by decide) ((hs_s).1) rfl sl22 rfl) ?_
 refine sqv (ex_cmp (x := (l.length : Int)) (y := 12) (r := decide (12 < (l.length : Int))) rfl rfl rfl) ?_
 show C _ _ _ _ _ _
 refine C_dec (12 < (l.length : Int)) rfl (fun hc1 => ?_) (fun hc1 => ?_)
 ·refine C_sr ?_
  refine sqv (ex_assign (v := .int .i64 1) rfl) ?_
  show C _ _ _ _ _ _
  refine C_ret ?_
  refine thn_ret ?_
  refine done_1 (v := .int .i64 1) rfl rfl ?_
  exact ⟨congrArg _ (lrg_1 (by omega)), (St.pick (L := []) hS0 [] (by decide))⟩
 refine C_skip ?_
 show C _ _ _ _ _ _
 refine C_seq ?_
 refine C_sr ?_
 refine sqv (ex_move (v := s) rfl) ?_
 refine sqv (ex_lenO (f := cS) (k := 5) (r := (l.length : Int)) (fun _ => rfl) (by decide) ((hs_s).1) rfl sl22 rfl) ?_
 refine sqv (ex_move (v := .int .i64 0) rfl) ?_
 show C _ _ _ _ _ _
 refine C_block ?_
 refine C_loop (fun nn aa ww => ∃ (m0 : Nat → Value) (k : Nat), nn = l.length - k ∧ aa = act 19 (upds m0 [(8, s), (9, .int .i64 (l.length : Int)), (10, .int .i64 (k : Int))]) [] ∧ St [] w0 ww [] [] ∧ (k ≤ l.length) ∧ (((l.take k).all fun s => decide (s.p.length ≤ 4)) = true)) l.length ?_ ?_
 ·exact ⟨_, 0, rfl, act_upds ⟨rfl, (congrArg (Value.int .i64) (by first | rfl | omega)), (congrArg (Value.int .i64) (by first | rfl | omega)), trivial⟩, (St.pick (L := []) hS0 [] (by decide)), (Nat.zero_le _), rfl⟩
 rintro n5 a6 W3 ⟨m2, k, rfl, rfl, hS4, hk, ha⟩
 refine C_sr ?_
 refine sqv (ex_cmp (x := (k : Int)) (y := (l.length : Int)) (r := decide ((k : Int) < (l.length : Int))) rfl rfl rfl) ?_
 show C _ _ _ _ _ _
 refine C_seq ?_
 refine C_dec ((k : Int) < (l.length : Int)) rfl (fun hc7 => ?_) (fun hc7 => ?_)
 ·refine C_skip ?_
  show C _ _ _ _ _ _
  refine C_seq ?_
  refine C_block ?_
  refine C_sr ?_
  obtain ⟨y8, hy9⟩ := get_lt l k (by first | omega | (simp only [List.length_set, List.length_replicate, List.length_append, List.length_take, List.length_drop, List.length_cons, List.length_nil, List.length_map]; omega))
  obtain ⟨b10, o11, hI12, hC13⟩ := sl_at (f := cS) (k := 5) (fun _ => rfl) (by decide) ((hs_s).1) hy9
  refine sqv (ex_sindexO hI12 rfl rfl sl22 rfl) ?_
  refine sqv (ex_loadsC (r := 0) (vs := [.int .i64 y8.f, .int .i64 y8.t, .int .i64 y8.i, .int .i64 y8.n, y8.v]) hC13 (hS4.holds0 hZ0) rfl ag46 rfl rfl rfl) ?_
  refine sqE (st_alloc hS4 ze46) fun b14 W15 hS16 => ?_
  refine sqUE (st_stores (v := .agg #[.int .i64 y8.f, .int .i64 y8.t, .int .i64 y8.i, .int .i64 y8.n, y8.v]) (cs' := #[.int .i64 y8.f, .int .i64 y8.t, .int .i64 y8.i, .int .i64 y8.n, y8.v]) 0 hS16 rfl rfl rfl ag46 rfl (Nat.le_of_ble_eq_true rfl) (ones_cons rfl (ones_cons rfl (ones_cons rfl (ones_cons rfl (ones_cons (sl_1 ((hs_s).2 y8 (List.mem_of_getElem? hy9))).2 ones_nil))))) rfl) fun W17 hS18 => ?_
  show C _ _ _ _ _ _
  refine C_sr ?_
  refine sqv (ex_field (o' := 4) rfl fi46_4 rfl) ?_
  refine sqv (ex_load (v := y8.v) rfl (hS18.at 0 rfl) on44 rfl) ?_
  refine sqv (ex_lenO (f := el) (k := 4) (r := (y8.p.length : Int)) (fun _ => rfl) (by decide) ((hs_s).2 y8 (List.mem_of_getElem? hy9)) rfl sl44 rfl) ?_
  refine sqv (ex_cmp (x := (y8.p.length : Int)) (y := 4) (r := decide (4 < (y8.p.length : Int))) rfl rfl rfl) ?_
  show C _ _ _ _ _ _
  refine C_dec (4 < (y8.p.length : Int)) rfl (fun hc19 => ?_) (fun hc19 => ?_)
  ·refine C_sr ?_
   refine sqv (ex_assign (v := .int .i64 1) rfl) ?_
   show C _ _ _ _ _ _
   refine C_ret ?_
   refine blk_ret ?_
   refine thn_ret ?_
   refine thn_ret ?_
   refine blk_ret ?_
   refine thn_ret ?_
   refine done_1 (v := .int .i64 1) rfl rfl ?_
   exact ⟨congrArg _ (lrg_2 (by omega) hy9 (by assumption)), (St.pick (L := [some (b14, .cells #[.int .i64 y8.f, .int .i64 y8.t, .int .i64 y8.i, .int .i64 y8.n, y8.v] 46)]) hS18 [] (by decide))⟩
  refine C_skip ?_
  refine blk_normal ?_
  show C _ _ _ _ _ _
  refine C_region ?_
  refine nm ((k : Int) + 1) fun x20 hx20 => ?_
  refine sqv (ex_add (x := (k : Int)) (y := 1) rfl rfl (w64 hx20 (by omega))) ?_
  refine sqv (ex_move (v := .int .i64 x20) rfl) ?_
  exact ⟨_, (by omega), ⟨_, (k + 1), rfl, act_upds ⟨rfl, (congrArg (Value.int .i64) (by first | rfl | omega)), (congrArg (Value.int .i64) (by first | rfl | omega)), trivial⟩, (St.pick (L := [some (b14, .cells #[.int .i64 y8.f, .int .i64 y8.t, .int .i64 y8.i, .int .i64 y8.n, y8.v] 46)]) hS18 [] (by decide)), (by omega), (lrg_step ha hy9 (by assumption))⟩⟩
 refine C_exit ?_
 refine thn_exit ?_
 refine thn_exit ?_
 refine blk_exit ?_
 show C _ _ _ _ _ _
 refine C_sr ?_
 refine sqv (ex_assign (v := .int .i64 0) rfl) ?_
 show C _ _ _ _ _ _
 refine C_ret ?_
 refine done_1 (v := .int .i64 0) rfl rfl ?_
 obtain rfl : k = l.length := by omega
 exact ⟨congrArg _ (lrg_0 (by omega) (by rw [List.take_length] at ha; exact ha)), (St.pick (L := []) hS4 [] (by decide))⟩
theorem c_SuspectsF (F : PrF) (s0 : Sh) (s : Value) (l : List Sh) (Z0 : List Fact) (t : Value) (ev : List Ev) (Lt : List Ent) (w0 : World) (g0 : Acc F l s0) (g1 : ∀ s ∈ l, ∀ y ∈ s.p, y < B256) (g2 : l.length < 900) (g3 : ¬ s0.t < l.length) (hZ0 : Holds w0 Z0) (hO0 : Off (bks Lt) Z0) (hs_s : Shs Z0 46 49 s l) (hG : Cells Z0 0 0 gC) (hT : Tp t ev Lt) (hL0 : St (bks Lt) w0 w0 Lt []) : Calls Tryz.prog 15 #[t, s] w0 (Ret fun uu w' => ∃ (Lt' : List Ent), uu = .tuple #[.slice none 0 0, .int .i64 16] ∧ Tp t (ev ++ ([])) Lt' ∧ St (bks Lt) w0 w' ([] ++ Lt') []) := by
 have hF := g0.ok
 have hlen := sl_lt (f := cS) (k := 5) (fun _ => rfl) (by decide) hs_s.1
 have hl0 : 0 < l.length := (List.getElem?_eq_some_iff.1 g0.h0).1
 have hs0 := (List.getElem?_eq_some_iff.1 g0.h0).2
 have h0m : s0 ∈ l := List.mem_of_getElem? g0.h0
 have h0f := (g0.hd s0 h0m).1
 have hpl0 := sl_lt (f := el) (k := 4) (fun _ => rfl) (by decide) (hs_s.2 s0 h0m)
 refine calls_of Tryz.func15 rfl Tryz.ntmps15 (Nat.le_of_ble_eq_true rfl) ?_
 have hS0 := hL0
 refine C_sr ?_
 refine sqv (ex_assign (v := .slice none 0 0) rfl) ?_
 refine sqv (ex_assign (v := .int .i64 0) rfl) ?_
 show C _ _ _ _ _ _
 refine C_seq ?_
 refine C_sr ?_
 refine sqv (ex_move (v := s) rfl) ?_
 refine sqc (exe_call (args := #[s]) en51 (args_of1 rfl)) (c_CheckShares s l Z0 w0 g1 (by omega) (hS0.holdsA hZ0 hO0) (hs_s) (hG)) ?_
 rintro _ W1 ⟨rfl, hT3⟩
 have hS2 := hS0.call hT3
 refine sqv (ex_assign (v := .int .i64 (ckShs l)) rfl) ?_
 show C _ _ _ _ _ _
 refine C_sr ?_
 refine sqv (ex_move (v := .int .i64 (ckShs l)) rfl) ?_
 refine sqv (ex_cmp (x := (ckShs l)) (y := 0) (r := decide ((ckShs l) ≠ 0)) rfl rfl rfl) ?_
 show C _ _ _ _ _ _
 refine C_dec ((ckShs l) ≠ 0) rfl (fun hc5 => ?_) (fun hc5 => ?_)
 ·exact absurd g0.ck (by assumption)
 refine C_skip ?_
 show C _ _ _ _ _ _
 refine C_seq ?_
 refine C_sr ?_
 refine sqv (ex_move (v := s) rfl) ?_
 refine sqv (ex_lenO (f := cS) (k := 5) (r := (l.length : Int)) (fun _ => rfl) (by decide) ((hs_s).1) rfl sl22 rfl) ?_
 refine sqv (ex_move (v := s) rfl) ?_
 obtain ⟨b6, o7, hI8, hC9⟩ := sl_at (f := cS) (k := 5) (fun _ => rfl) (by decide) ((hs_s).1) g0.h0
 refine sqv (ex_sindexO hI8 rfl rfl sl22 (by omega)) ?_
 refine sqv (ex_field (o' := (o7 + 1)) rfl fi46_1 rfl) ?_
 refine sqv (ex_loadC (r := 1) (u := .int .i64 s0.t) hC9 (hS2.holdsA hZ0 hO0) rfl on3 rfl rfl) ?_
 refine sqv (ex_cmp (x := (l.length : Int)) (y := s0.t) (r := decide ((l.length : Int) ≤ s0.t)) rfl rfl rfl) ?_
 show C _ _ _ _ _ _
 refine C_dec ((l.length : Int) ≤ s0.t) rfl (fun hc10 => ?_) (fun hc10 => ?_)
 ·refine C_sr ?_
  refine sqv (ex_assign (v := .slice none 0 0) rfl) ?_
  refine sqv (ex_assign (v := .int .i64 16) rfl) ?_
  show C _ _ _ _ _ _
  refine C_ret ?_
  refine thn_ret ?_
  refine done_2 (v1 := .slice none 0 0) (v2 := .int .i64 16) rfl rfl rfl ?_
  exact ⟨_, rfl, (by simpa only [List.append_nil, List.nil_append] using hT), (St.pickB (Lf := []) hS2 [] (by decide) rfl).less (fun _ h => absurd h (by simp))⟩
 exfalso; omega
theorem c_SuspectsG  (s : Value) (l : List Sh) (Z0 : List Fact) (t : Value) (ev : List Ev) (Lt : List Ent) (w0 : World) (g0 : ∀ s ∈ l, ∀ y ∈ s.p, y < B256) (g1 : l.length ≤ 12 ∧ ∀ s ∈ l, s.p.length ≤ 4) (g2 : ev.length < 1000000) (hZ0 : Holds w0 Z0) (hO0 : Off (bks Lt) Z0) (hs_s : Shs Z0 46 49 s l) (hG : Cells Z0 0 0 gC) (hT : Tp t ev Lt) (hL0 : St (bks Lt) w0 w0 Lt []) : Calls Tryz.prog 15 #[t, s] w0 (Ret fun uu w' => ∃ (v : Value), ∃ (en : Ent), ∃ (Lt' : List Ent), uu = .tuple #[v, .int .i64 (susE l)] ∧ (Own 3 1 cI v (susX l) en) ∧ Tp t (ev ++ (susEv l)) Lt' ∧ St (bks Lt) w0 w' ([en] ++ Lt') []) := by
 have hpl : ∀ s ∈ l, s.p.length < 100000 := fun s hs => by have := g1.2 s hs; omega
 by_cases h : ckShs l = 0
 ·obtain ⟨s0, ha⟩ := acc_of h
  have h0 := hpl s0 (List.mem_of_getElem? ha.h0)
  have h4 := g1.2 s0 (List.mem_of_getElem? ha.h0)
  by_cases ht : s0.t < l.length
  ·obtain ⟨e1, e2, e3⟩ := sus_ok h ha.h0 ht
   rw [e1, e2, e3]
   exact c_Suspects (fieldOf' s0.f) s0 s l Z0 t ev Lt w0 ha g0 (by omega) ht (by have := Nat.mul_le_mul (show l.length ≤ 12 from g1.1) (show s0.p.length * 2000000 + 1 ≤ 8000001 by omega); omega) h0 hZ0 hO0 hs_s hG hT hL0
  obtain ⟨e1, e2, e3⟩ := sus_few h ha.h0 ht
  rw [e1, e2, e3]
  refine (c_SuspectsF (fieldOf' s0.f) s0 s l Z0 t ev Lt w0 ha g0 (by omega) ht hZ0 hO0 hs_s hG hT hL0).mono fun e w' he => ?_
  cases e with
  | panicked => exact he
  | outgrown => exact he
  | returned u => obtain ⟨Lt', rfl, h1, h2⟩ := he; exact ⟨_, none, Lt', rfl, Own.nil _ _ _, h1, h2.non⟩
 obtain ⟨e1, e2, e3⟩ := sus_err h
 rw [e1, e2, e3]
 refine (c_SuspectsE s l Z0 t ev Lt w0 h g0 (by omega) hZ0 hO0 hs_s hG hT hL0).mono fun e w' he => ?_
 cases e with
 | panicked => exact he
 | outgrown => exact he
 | returned u => obtain ⟨Lt', rfl, h1, h2⟩ := he; exact ⟨_, none, Lt', rfl, Own.nil _ _ _, h1, h2.non⟩
end Go.Proofs
end
section
set_option linter.unusedVariables false
set_option linter.unusedSimpArgs false
set_option maxRecDepth 20000
set_option maxHeartbeats 2000000
namespace Go.Proofs
open Sc
theorem en15 : enters Tryz.prog 15 = true := by kernel_rfl
theorem en17 : enters Tryz.prog 17 = true := by kernel_rfl
theorem en24 : enters Tryz.prog 24 = true := by kernel_rfl
theorem en38 : enters Tryz.prog 38 = true := by kernel_rfl
theorem en49 : enters Tryz.prog 49 = true := by kernel_rfl
theorem en50 : enters Tryz.prog 50 = true := by kernel_rfl
theorem rForm_lt1 (v : Nat) : rForm F1.p v < F1.p := rMul_lt (by decide)
theorem acc_alive {v1 v2 v3 : Value} {a b c : Nat} (ha : a < F1.p) (hb : b < F1.p) (hc : c < F1.p) : Acc F1 [⟨1, 2, 1, 1, v1, [a]⟩, ⟨1, 2, 2, 1, v2, [b]⟩, ⟨1, 2, 3, 1, v3, [c]⟩] ⟨1, 2, 1, 1, v1, [a]⟩ := by
 have hck : ckShs [⟨1, 2, 1, 1, v1, [a]⟩, ⟨1, 2, 2, 1, v2, [b]⟩, ⟨1, 2, 3, 1, v3, [c]⟩] = 0 := by
   refine ckShs_iff.2 ⟨⟨1, 2, 1, 1, v1, [a]⟩, rfl, fun s hs => ?_, by simp [idxL], by simp⟩
   have key : ∀ (i : Int) (v : Value) (x : Nat), x < F1.p → 1 ≤ i ∧ i ≤ 255 → ckSh ⟨1, 2, i, 1, v, [x]⟩ = 0 := by
     intro i v x hx hi
     have hfo : fieldOf' 1 = F1 := rfl
     unfold ckSh
     simp only [hfo]
     rw [if_neg (by simp), if_neg (by simp), if_neg (by simpa using hi), if_neg (by simp), if_neg (by simp [cntI]), if_pos (by simpa using hx)]
   simp only [List.mem_cons, List.not_mem_nil, or_false] at hs
   rcases hs with rfl | rfl | rfl
   · exact ⟨key _ _ _ ha (by decide), rfl, rfl, rfl⟩
   · exact ⟨key _ _ _ hb (by decide), rfl, rfl, rfl⟩
   · exact ⟨key _ _ _ hc (by decide), rfl, rfl, rfl⟩
 obtain ⟨s0, h⟩ := acc_of hck
 obtain rfl : (⟨1, 2, 1, 1, v1, [a]⟩ : Sh) = s0 := Option.some.inj h.h0
 exact h
theorem all_alive {v1 v2 v3 : Value} {a b c : Nat} (ha : a < F1.p) (hb : b < F1.p) (hc : c < F1.p) : ∀ s ∈ ([⟨1, 2, 1, 1, v1, [a]⟩, ⟨1, 2, 2, 1, v2, [b]⟩, ⟨1, 2, 3, 1, v3, [c]⟩] : List Sh), ∀ y ∈ s.p, y < B256 :=
  fun s hs y hy => Nat.lt_trans ((acc_alive ha hb hc).lt s hs y hy) (f_lt (.inl rfl))
theorem small_alive {v1 v2 v3 : Value} {a b c : Nat} : ([⟨1, 2, 1, 1, v1, [a]⟩, ⟨1, 2, 2, 1, v2, [b]⟩, ⟨1, 2, 3, 1, v3, [c]⟩] : List Sh).length ≤ 12 ∧ ∀ s ∈ ([⟨1, 2, 1, 1, v1, [a]⟩, ⟨1, 2, 2, 1, v2, [b]⟩, ⟨1, 2, 3, 1, v3, [c]⟩] : List Sh), s.p.length ≤ 4 := by
 refine ⟨by show 3 ≤ 12; omega, fun s hs => ?_⟩
 simp only [List.mem_cons, List.not_mem_nil, or_false] at hs
 rcases hs with rfl | rfl | rfl <;> exact (by show 1 ≤ 4; omega)
theorem con_alive1 {v1 v2 v3 : Value} : conB F1 [⟨1, 2, 1, 1, v1, [rForm F1.p 8]⟩, ⟨1, 2, 2, 1, v2, [rForm F1.p 11]⟩, ⟨1, 2, 3, 1, v3, [rForm F1.p 14]⟩] 2 1 = true := by
 have h := Sm.fit_alive1
 have e : conB F1 [⟨1, 2, 1, 1, v1, [rForm F1.p 8]⟩, ⟨1, 2, 2, 1, v2, [rForm F1.p 11]⟩, ⟨1, 2, 3, 1, v3, [rForm F1.p 14]⟩] 2 1 = (fitB F1 [1, 2, 3] [rForm F1.p 8, rForm F1.p 11, rForm F1.p 14] 2 && true) := by rw [conB, show List.range 1 = [0] from rfl, List.all_cons, List.all_nil]; congr 1
 rw [e, h]; rfl
theorem chu_alive2 {v1 v2 v3 : Value} : chuL F1 [⟨1, 2, 1, 1, v1, [rForm F1.p 8]⟩, ⟨1, 2, 2, 1, v2, [rForm F1.p 11]⟩, ⟨1, 2, 3, 1, v3, [rForm F1.p 15]⟩] 2 1 = [false] := by
 have h := Sm.fit_alive2
 have e : chuL F1 [⟨1, 2, 1, 1, v1, [rForm F1.p 8]⟩, ⟨1, 2, 2, 1, v2, [rForm F1.p 11]⟩, ⟨1, 2, 3, 1, v3, [rForm F1.p 15]⟩] 2 1 = [fitB F1 [1, 2, 3] [rForm F1.p 8, rForm F1.p 11, rForm F1.p 15] 2] := by rw [chuL, show List.range 1 = [0] from rfl, List.map_cons, List.map_nil]; congr 1
 rw [e, h]
theorem con_alive2 {v1 v2 v3 : Value} : conB F1 [⟨1, 2, 1, 1, v1, [rForm F1.p 8]⟩, ⟨1, 2, 2, 1, v2, [rForm F1.p 11]⟩, ⟨1, 2, 3, 1, v3, [rForm F1.p 15]⟩] 2 1 = false := by
 have h := Sm.fit_alive2
 have e : conB F1 [⟨1, 2, 1, 1, v1, [rForm F1.p 8]⟩, ⟨1, 2, 2, 1, v2, [rForm F1.p 11]⟩, ⟨1, 2, 3, 1, v3, [rForm F1.p 15]⟩] 2 1 = (fitB F1 [1, 2, 3] [rForm F1.p 8, rForm F1.p 11, rForm F1.p 15] 2 && true) := by rw [conB, show List.range 1 = [0] from rfl, List.all_cons, List.all_nil]; congr 1
 rw [e, h]; rfl
theorem con_full {F : PrF} (hF : FOk F) {l : List Sh} {K m : Nat} (h : l.length ≤ K) : conB F l K m = true := by
 haveI := Sm.neF hF
 exact List.all_eq_true.2 fun k _ => Sm.fit_full hF _ (by rw [idxL_len]; exact h)
theorem sus_alive {v1 v2 v3 : Value} {a b c : Nat} (ha : a < F1.p) (hb : b < F1.p) (hc : c < F1.p) : susX [⟨1, 2, 1, 1, v1, [a]⟩, ⟨1, 2, 2, 1, v2, [b]⟩, ⟨1, 2, 3, 1, v3, [c]⟩] = [0, 1, 2] ∧ susE [⟨1, 2, 1, 1, v1, [a]⟩, ⟨1, 2, 2, 1, v2, [b]⟩, ⟨1, 2, 3, 1, v3, [c]⟩] = 0 := by
 have h := acc_alive (v1 := v1) (v2 := v2) (v3 := v3) ha hb hc
 obtain ⟨e1, e2, _⟩ := sus_ok h.ck h.h0 (by show (2 : Int) < 3; omega)
 refine ⟨?_, e2⟩
 rw [e1]
 have hF : FOk F1 := .inl rfl
 have key : ∀ i, i < 3 → conB F1 (omitL [⟨1, 2, 1, 1, v1, [a]⟩, ⟨1, 2, 2, 1, v2, [b]⟩, ⟨1, 2, 3, 1, v3, [c]⟩] i) ((2 : Nat) : Int) 1 = true := fun i hi => con_full hF (by have := omit_len (l := [⟨1, 2, 1, 1, v1, [a]⟩, ⟨1, 2, 2, 1, v2, [b]⟩, ⟨1, 2, 3, 1, v3, [c]⟩]) (i := i) (by exact hi); simp only [List.length_cons, List.length_nil] at this; omega)
 show ((([] ++ (if conB F1 (omitL _ 0) ((2 : Nat) : Int) 1 = true then [((0 : Nat) : Int)] else [])) ++ (if conB F1 (omitL _ 1) ((2 : Nat) : Int) 1 = true then [((1 : Nat) : Int)] else [])) ++ (if conB F1 (omitL _ 2) ((2 : Nat) : Int) 1 = true then [((2 : Nat) : Int)] else [])) = [0, 1, 2]
 rw [if_pos (key 0 (by omega)), if_pos (key 1 (by omega)), if_pos (key 2 (by omega))]; rfl
theorem c_alive18  (Z0 : List Fact) (w0 : World)  (hZ0 : Holds w0 Z0) (hG : Cells Z0 0 0 gC) : Calls Tryz.prog 14 #[] w0 (Ret fun uu w' => uu = .bool true ∧ St [] w0 w' [] []) := by
 refine calls_of Tryz.func14 rfl Tryz.ntmps14 (Nat.le_of_ble_eq_true rfl) ?_
 have hS0 := St.nil w0
 refine C_sr ?_
 refine sqv (ex_assign (v := .bool false) rfl) ?_
 show C _ _ _ _ _ _
 refine C_sr ?_
 refine sqc (exe_call (args := #[.int .i64 1]) en20 (args_of1 rfl)) (c_Modulus F1 1 w0 (.inl rfl) rfl) ?_
 rintro _ W1 ⟨rfl, hT3⟩
 have hS2 := hS0.call hT3
 refine sqE (st_alloc hS2 ze40) fun b5 W6 hS7 => ?_
 refine sqUE (st_stores (v := elV F1.p) (cs' := (elA (F1.p))) 0 hS7 rfl rfl rfl ag40 rfl (Nat.le_of_ble_eq_true rfl) (ones_of rfl) rfl) fun W8 hS9 => ?_
 show C _ _ _ _ _ _
 refine C_sr ?_
 refine sqv (ex_func (a := #[]) (b := #[pt b5]) args_of0 (args_of1 rfl)) ?_
 refine sqv (ex_assign (v := .func (.func 49) #[] #[pt b5]) rfl) ?_
 show C _ _ _ _ _ _
 refine C_sr ?_
 refine sqv (ex_move (v := .func (.func 49) #[] #[pt b5]) rfl) ?_
 refine sqc_in (exe_closure (args := #[.int .i64 1, .int .u64 8, pt b5]) rfl en49 (clo (args_of2 rfl rfl))) fun R10 hR11 => ?_
 refine calls_of Tryz.func49 rfl Tryz.ntmps49 (Nat.le_of_ble_eq_true rfl) ?_
 refine C_sr ?_
 refine sqE (st_alloc hS9 ze46) fun b12 W13 hS14 => ?_
 show C _ _ _ _ _ _
 refine C_sr ?_
 refine sqv (ex_move (v := .int .i64 1) rfl) ?_
 refine sqv (ex_loads (vs := (el (F1.p))) rfl (hS14.at 1 rfl) ag40 rfl rfl) ?_
 refine sqv (ex_move (v := .int .u64 8) rfl) ?_
 refine sqv (ex_build (vs := [(0, .int .u64 8)]) (cells := #[.int .u64 8, .int .u64 0, .int .u64 0, .int .u64 0]) rfl (by kernel_rfl)) ?_
 refine sqc (exe_call (args := #[elV F1.p, .agg #[.int .u64 8, .int .u64 0, .int .u64 0, .int .u64 0]]) en38 (args_of2 rfl rfl)) (c_rForm F1.p 8 W13 (f_lt (.inl rfl)) (by decide) (by decide)) ?_
 rintro _ W15 ⟨rfl, hT17⟩
 have hS16 := hS14.call hT17
 refine sqE (st_bslice (vs := [elV (rForm F1.p 8)]) hS16 sl44 ze49 rfl (by simp [Value.cells, elV, el]) rfl (by decide)) fun b19 W20 hS21 => ?_
 refine sqv (ex_build (vs := [(0, .int .i64 1), (1, .int .i64 2), (2, .int .i64 1), (3, .int .i64 1), (4, .slice (so b19) 1 1)]) (cells := #[.int .i64 1, .int .i64 2, .int .i64 1, .int .i64 1, .slice (so b19) 1 1]) rfl (by kernel_rfl)) ?_
 refine sqUE (st_stores (v := .agg #[.int .i64 1, .int .i64 2, .int .i64 1, .int .i64 1, .slice (so b19) 1 1]) (cs' := #[.int .i64 1, .int .i64 2, .int .i64 1, .int .i64 1, .slice (so b19) 1 1]) 1 hS21 rfl rfl rfl ag46 rfl (Nat.le_of_ble_eq_true rfl) (ones_of rfl) rfl) fun W22 hS23 => ?_
 show C _ _ _ _ _ _
 refine C_ret ?_
 refine done_1 (v := .agg #[.int .i64 1, .int .i64 2, .int .i64 1, .int .i64 1, .slice (so b19) 1 1]) rfl (res_row rfl (hS23.at 1 rfl) ag46 rfl) ?_
 refine hR11 _ _ ?_
 refine sqv (ex_move (v := .func (.func 49) #[] #[pt b5]) rfl) ?_
 refine sqc_in (exe_closure (args := #[.int .i64 2, .int .u64 11, pt b5]) rfl en49 (clo (args_of2 rfl rfl))) fun R24 hR25 => ?_
 refine calls_of Tryz.func49 rfl Tryz.ntmps49 (Nat.le_of_ble_eq_true rfl) ?_
 refine C_sr ?_
 refine sqE (st_alloc hS23 ze46) fun b26 W27 hS28 => ?_
 show C _ _ _ _ _ _
 refine C_sr ?_
 refine sqv (ex_move (v := .int .i64 2) rfl) ?_
 refine sqv (ex_loads (vs := (el (F1.p))) rfl (hS28.at 3 rfl) ag40 rfl rfl) ?_
 refine sqv (ex_move (v := .int .u64 11) rfl) ?_
 refine sqv (ex_build (vs := [(0, .int .u64 11)]) (cells := #[.int .u64 11, .int .u64 0, .int .u64 0, .int .u64 0]) rfl (by kernel_rfl)) ?_
 refine sqc (exe_call (args := #[elV F1.p, .agg #[.int .u64 11, .int .u64 0, .int .u64 0, .int .u64 0]]) en38 (args_of2 rfl rfl)) (c_rForm F1.p 11 W27 (f_lt (.inl rfl)) (by decide) (by decide)) ?_
 rintro _ W29 ⟨rfl, hT31⟩
 have hS30 := hS28.call hT31
 refine sqE (st_bslice (vs := [elV (rForm F1.p 11)]) hS30 sl44 ze49 rfl (by simp [Value.cells, elV, el]) rfl (by decide)) fun b33 W34 hS35 => ?_
 refine sqv (ex_build (vs := [(0, .int .i64 1), (1, .int .i64 2), (2, .int .i64 2), (3, .int .i64 1), (4, .slice (so b33) 1 1)]) (cells := #[.int .i64 1, .int .i64 2, .int .i64 2, .int .i64 1, .slice (so b33) 1 1]) rfl (by kernel_rfl)) ?_
 refine sqUE (st_stores (v := .agg #[.int .i64 1, .int .i64 2, .int .i64 2, .int .i64 1, .slice (so b33) 1 1]) (cs' := #[.int .i64 1, .int .i64 2, .int .i64 2, .int .i64 1, .slice (so b33) 1 1]) 1 hS35 rfl rfl rfl ag46 rfl (Nat.le_of_ble_eq_true rfl) (ones_of rfl) rfl) fun W36 hS37 => ?_
 show C _ _ _ _ _ _
 refine C_ret ?_
 refine done_1 (v := .agg #[.int .i64 1, .int .i64 2, .int .i64 2, .int .i64 1, .slice (so b33) 1 1]) rfl (res_row rfl (hS37.at 1 rfl) ag46 rfl) ?_
 refine hR25 _ _ ?_
 refine sqv (ex_move (v := .func (.func 49) #[] #[pt b5]) rfl) ?_
 refine sqc_in (exe_closure (args := #[.int .i64 3, .int .u64 14, pt b5]) rfl en49 (clo (args_of2 rfl rfl))) fun R38 hR39 => ?_
 refine calls_of Tryz.func49 rfl Tryz.ntmps49 (Nat.le_of_ble_eq_true rfl) ?_
 refine C_sr ?_
 refine sqE (st_alloc hS37 ze46) fun b40 W41 hS42 => ?_
 show C _ _ _ _ _ _
 refine C_sr ?_
 refine sqv (ex_move (v := .int .i64 3) rfl) ?_
 refine sqv (ex_loads (vs := (el (F1.p))) rfl (hS42.at 5 rfl) ag40 rfl rfl) ?_
 refine sqv (ex_move (v := .int .u64 14) rfl) ?_
 refine sqv (ex_build (vs := [(0, .int .u64 14)]) (cells := #[.int .u64 14, .int .u64 0, .int .u64 0, .int .u64 0]) rfl (by kernel_rfl)) ?_
 refine sqc (exe_call (args := #[elV F1.p, .agg #[.int .u64 14, .int .u64 0, .int .u64 0, .int .u64 0]]) en38 (args_of2 rfl rfl)) (c_rForm F1.p 14 W41 (f_lt (.inl rfl)) (by decide) (by decide)) ?_
 rintro _ W43 ⟨rfl, hT45⟩
 have hS44 := hS42.call hT45
 refine sqE (st_bslice (vs := [elV (rForm F1.p 14)]) hS44 sl44 ze49 rfl (by simp [Value.cells, elV, el]) rfl (by decide)) fun b47 W48 hS49 => ?_
 refine sqv (ex_build (vs := [(0, .int .i64 1), (1, .int .i64 2), (2, .int .i64 3), (3, .int .i64 1), (4, .slice (so b47) 1 1)]) (cells := #[.int .i64 1, .int .i64 2, .int .i64 3, .int .i64 1, .slice (so b47) 1 1]) rfl (by kernel_rfl)) ?_
 refine sqUE (st_stores (v := .agg #[.int .i64 1, .int .i64 2, .int .i64 3, .int .i64 1, .slice (so b47) 1 1]) (cs' := #[.int .i64 1, .int .i64 2, .int .i64 3, .int .i64 1, .slice (so b47) 1 1]) 1 hS49 rfl rfl rfl ag46 rfl (Nat.le_of_ble_eq_true rfl) (ones_of rfl) rfl) fun W50 hS51 => ?_
 show C _ _ _ _ _ _
 refine C_ret ?_
 refine done_1 (v := .agg #[.int .i64 1, .int .i64 2, .int .i64 3, .int .i64 1, .slice (so b47) 1 1]) rfl (res_row rfl (hS51.at 1 rfl) ag46 rfl) ?_
 refine hR39 _ _ ?_
 refine sqE (st_bslice (vs := [.agg #[.int .i64 1, .int .i64 2, .int .i64 1, .int .i64 1, .slice (so b19) 1 1], .agg #[.int .i64 1, .int .i64 2, .int .i64 2, .int .i64 1, .slice (so b33) 1 1], .agg #[.int .i64 1, .int .i64 2, .int .i64 3, .int .i64 1, .slice (so b47) 1 1]]) hS51 sl22 ze46 rfl (by simp [Value.cells]) rfl (by decide)) fun b52 W53 hS54 => ?_
 refine sqc (exe_call (args := #[.pointer none, .slice (so b52) 3 3]) en23 (args_of2 rfl rfl)) (c_Consistent F1 (⟨1, 2, 1, 1, (.slice (so b19) 1 1), [rForm F1.p 8]⟩ : Sh) (.slice (so b52) 3 3) ([⟨1, 2, 1, 1, (.slice (so b19) 1 1), [rForm F1.p 8]⟩, ⟨1, 2, 2, 1, (.slice (so b33) 1 1), [rForm F1.p 11]⟩, ⟨1, 2, 3, 1, (.slice (so b47) 1 1), [rForm F1.p 14]⟩]) (((entF (some (b52, .cells #[.int .i64 1, .int .i64 2, .int .i64 1, .int .i64 1, .slice (so b19) 1 1, .int .i64 1, .int .i64 2, .int .i64 2, .int .i64 1, .slice (so b33) 1 1, .int .i64 1, .int .i64 2, .int .i64 3, .int .i64 1, .slice (so b47) 1 1] 46))) ++ ((entF (some (b19, .cells (elA (rForm F1.p 8)) 49))) ++ ((entF (some (b33, .cells (elA (rForm F1.p 11)) 49))) ++ (entF (some (b47, .cells (elA (rForm F1.p 14)) 49)))))) ++ Z0) (.pointer none) ([]) ([]) W53 (acc_alive (rForm_lt1 _) (rForm_lt1 _) (rForm_lt1 _)) (all_alive (rForm_lt1 _) (rForm_lt1 _) (rForm_lt1 _)) (by show 3 < 900; omega) (by show 0 + 2000000 * 1 < 1099511627776; omega) (Holds.app ((Holds.app (hS54.entH 0 rfl) (Holds.app (hS54.entH 5 rfl) (Holds.app (hS54.entH 3 rfl) (hS54.entH 1 rfl))))) (hS54.holds0 hZ0)) (Off.app (Off.nil _) (Off.nil _)) (((shs_lit (sl_row (f := cS) (k := 5) (t := 46) (b := b52) (n := 3) (cs := #[.int .i64 1, .int .i64 2, .int .i64 1, .int .i64 1, .slice (so b19) 1 1, .int .i64 1, .int .i64 2, .int .i64 2, .int .i64 1, .slice (so b33) 1 1, .int .i64 1, .int .i64 2, .int .i64 3, .int .i64 1, .slice (so b47) 1 1]) (ys := [⟨1, 2, 1, 1, (.slice (so b19) 1 1), [rForm F1.p 8]⟩, ⟨1, 2, 2, 1, (.slice (so b33) 1 1), [rForm F1.p 11]⟩, ⟨1, 2, 3, 1, (.slice (so b47) 1 1), [rForm F1.p 14]⟩]) (fun _ => rfl) rfl (Nat.le_of_ble_eq_true rfl) rfl) (deep_cons (Sl.mono ((sl_row (f := el) (k := 4) (t := 49) (b := b19) (n := 1) (cs := (elA (rForm F1.p 8))) (ys := [rForm F1.p 8]) (fun _ => rfl) rfl (Nat.le_of_ble_eq_true rfl) rfl)) fun _ hp => List.mem_append_right _ (List.mem_append_left _ hp)) (deep_cons (Sl.mono ((sl_row (f := el) (k := 4) (t := 49) (b := b33) (n := 1) (cs := (elA (rForm F1.p 11))) (ys := [rForm F1.p 11]) (fun _ => rfl) rfl (Nat.le_of_ble_eq_true rfl) rfl)) fun _ hp => List.mem_append_right _ (List.mem_append_right _ (List.mem_append_left _ hp))) (deep_cons (Sl.mono ((sl_row (f := el) (k := 4) (t := 49) (b := b47) (n := 1) (cs := (elA (rForm F1.p 14))) (ys := [rForm F1.p 14]) (fun _ => rfl) rfl (Nat.le_of_ble_eq_true rfl) rfl)) fun _ hp => List.mem_append_right _ (List.mem_append_right _ (List.mem_append_right _ hp))) (fun s hs => absurd hs (by simp))))))).mono fun _ hp => (List.mem_append_left _ hp)) ((hG).mono fun _ hp => (List.mem_append_right _ hp)) (Tape.nil _ _ _ _) (St.nil _)) ?_
 rintro _ W55 ⟨Lt59, rfl, hU60, hT57⟩
 obtain rfl := tape_nil hU60
 have hS56 := St.call (Ln := []) hS54 hT57
 rw [show (conB F1 ([⟨1, 2, 1, 1, (.slice (so b19) 1 1), [rForm F1.p 8]⟩, ⟨1, 2, 2, 1, (.slice (so b33) 1 1), [rForm F1.p 11]⟩, ⟨1, 2, 3, 1, (.slice (so b47) 1 1), [rForm F1.p 14]⟩]) (⟨1, 2, 1, 1, (.slice (so b19) 1 1), [rForm F1.p 8]⟩ : Sh).t (⟨1, 2, 1, 1, (.slice (so b19) 1 1), [rForm F1.p 8]⟩ : Sh).p.length) = true from con_alive1]
 refine sqv (ex_move (v := .tuple #[.bool true, .int .i64 0]) rfl) ?_
 refine sqv (ex_extract (v := .bool true) rfl rfl) ?_
 refine sqv (ex_extract (v := .int .i64 0) rfl rfl) ?_
 refine sqv (ex_assign (v := .bool true) rfl) ?_
 refine sqv (ex_assign (v := .int .i64 0) rfl) ?_
 show C _ _ _ _ _ _
 refine C_sr ?_
 refine sqv (ex_move (v := .func (.func 49) #[] #[pt b5]) rfl) ?_
 refine sqc_in (exe_closure (args := #[.int .i64 1, .int .u64 8, pt b5]) rfl en49 (clo (args_of2 rfl rfl))) fun R61 hR62 => ?_
 refine calls_of Tryz.func49 rfl Tryz.ntmps49 (Nat.le_of_ble_eq_true rfl) ?_
 refine C_sr ?_
 refine sqE (st_alloc hS56 ze46) fun b63 W64 hS65 => ?_
 show C _ _ _ _ _ _
 refine C_sr ?_
 refine sqv (ex_move (v := .int .i64 1) rfl) ?_
 refine sqv (ex_loads (vs := (el (F1.p))) rfl (hS65.at 8 rfl) ag40 rfl rfl) ?_
 refine sqv (ex_move (v := .int .u64 8) rfl) ?_
 refine sqv (ex_build (vs := [(0, .int .u64 8)]) (cells := #[.int .u64 8, .int .u64 0, .int .u64 0, .int .u64 0]) rfl (by kernel_rfl)) ?_
 refine sqc (exe_call (args := #[elV F1.p, .agg #[.int .u64 8, .int .u64 0, .int .u64 0, .int .u64 0]]) en38 (args_of2 rfl rfl)) (c_rForm F1.p 8 W64 (f_lt (.inl rfl)) (by decide) (by decide)) ?_
 rintro _ W66 ⟨rfl, hT68⟩
 have hS67 := hS65.call hT68
 refine sqE (st_bslice (vs := [elV (rForm F1.p 8)]) hS67 sl44 ze49 rfl (by simp [Value.cells, elV, el]) rfl (by decide)) fun b70 W71 hS72 => ?_
 refine sqv (ex_build (vs := [(0, .int .i64 1), (1, .int .i64 2), (2, .int .i64 1), (3, .int .i64 1), (4, .slice (so b70) 1 1)]) (cells := #[.int .i64 1, .int .i64 2, .int .i64 1, .int .i64 1, .slice (so b70) 1 1]) rfl (by kernel_rfl)) ?_
 refine sqUE (st_stores (v := .agg #[.int .i64 1, .int .i64 2, .int .i64 1, .int .i64 1, .slice (so b70) 1 1]) (cs' := #[.int .i64 1, .int .i64 2, .int .i64 1, .int .i64 1, .slice (so b70) 1 1]) 1 hS72 rfl rfl rfl ag46 rfl (Nat.le_of_ble_eq_true rfl) (ones_of rfl) rfl) fun W73 hS74 => ?_
 show C _ _ _ _ _ _
 refine C_ret ?_
 refine done_1 (v := .agg #[.int .i64 1, .int .i64 2, .int .i64 1, .int .i64 1, .slice (so b70) 1 1]) rfl (res_row rfl (hS74.at 1 rfl) ag46 rfl) ?_
 refine hR62 _ _ ?_
 refine sqv (ex_move (v := .func (.func 49) #[] #[pt b5]) rfl) ?_
 refine sqc_in (exe_closure (args := #[.int .i64 2, .int .u64 11, pt b5]) rfl en49 (clo (args_of2 rfl rfl))) fun R75 hR76 => ?_
 refine calls_of Tryz.func49 rfl Tryz.ntmps49 (Nat.le_of_ble_eq_true rfl) ?_
 refine C_sr ?_
 refine sqE (st_alloc hS74 ze46) fun b77 W78 hS79 => ?_
 show C _ _ _ _ _ _
 refine C_sr ?_
 refine sqv (ex_move (v := .int .i64 2) rfl) ?_
 refine sqv (ex_loads (vs := (el (F1.p))) rfl (hS79.at 10 rfl) ag40 rfl rfl) ?_
 refine sqv (ex_move (v := .int .u64 11) rfl) ?_
 refine sqv (ex_build (vs := [(0, .int .u64 11)]) (cells := #[.int .u64 11, .int .u64 0, .int .u64 0, .int .u64 0]) rfl (by kernel_rfl)) ?_
 refine sqc (exe_call (args := #[elV F1.p, .agg #[.int .u64 11, .int .u64 0, .int .u64 0, .int .u64 0]]) en38 (args_of2 rfl rfl)) (c_rForm F1.p 11 W78 (f_lt (.inl rfl)) (by decide) (by decide)) ?_
 rintro _ W80 ⟨rfl, hT82⟩
 have hS81 := hS79.call hT82
 refine sqE (st_bslice (vs := [elV (rForm F1.p 11)]) hS81 sl44 ze49 rfl (by simp [Value.cells, elV, el]) rfl (by decide)) fun b84 W85 hS86 => ?_
 refine sqv (ex_build (vs := [(0, .int .i64 1), (1, .int .i64 2), (2, .int .i64 2), (3, .int .i64 1), (4, .slice (so b84) 1 1)]) (cells := #[.int .i64 1, .int .i64 2, .int .i64 2, .int .i64 1, .slice (so b84) 1 1]) rfl (by kernel_rfl)) ?_
 refine sqUE (st_stores (v := .agg #[.int .i64 1, .int .i64 2, .int .i64 2, .int .i64 1, .slice (so b84) 1 1]) (cs' := #[.int .i64 1, .int .i64 2, .int .i64 2, .int .i64 1, .slice (so b84) 1 1]) 1 hS86 rfl rfl rfl ag46 rfl (Nat.le_of_ble_eq_true rfl) (ones_of rfl) rfl) fun W87 hS88 => ?_
 show C _ _ _ _ _ _
 refine C_ret ?_
 refine done_1 (v := .agg #[.int .i64 1, .int .i64 2, .int .i64 2, .int .i64 1, .slice (so b84) 1 1]) rfl (res_row rfl (hS88.at 1 rfl) ag46 rfl) ?_
 refine hR76 _ _ ?_
 refine sqv (ex_move (v := .func (.func 49) #[] #[pt b5]) rfl) ?_
 refine sqc_in (exe_closure (args := #[.int .i64 3, .int .u64 15, pt b5]) rfl en49 (clo (args_of2 rfl rfl))) fun R89 hR90 => ?_
 refine calls_of Tryz.func49 rfl Tryz.ntmps49 (Nat.le_of_ble_eq_true rfl) ?_
 refine C_sr ?_
 refine sqE (st_alloc hS88 ze46) fun b91 W92 hS93 => ?_
 show C _ _ _ _ _ _
 refine C_sr ?_
 refine sqv (ex_move (v := .int .i64 3) rfl) ?_
 refine sqv (ex_loads (vs := (el (F1.p))) rfl (hS93.at 12 rfl) ag40 rfl rfl) ?_
 refine sqv (ex_move (v := .int .u64 15) rfl) ?_
 refine sqv (ex_build (vs := [(0, .int .u64 15)]) (cells := #[.int .u64 15, .int .u64 0, .int .u64 0, .int .u64 0]) rfl (by kernel_rfl)) ?_
 refine sqc (exe_call (args := #[elV F1.p, .agg #[.int .u64 15, .int .u64 0, .int .u64 0, .int .u64 0]]) en38 (args_of2 rfl rfl)) (c_rForm F1.p 15 W92 (f_lt (.inl rfl)) (by decide) (by decide)) ?_
 rintro _ W94 ⟨rfl, hT96⟩
 have hS95 := hS93.call hT96
 refine sqE (st_bslice (vs := [elV (rForm F1.p 15)]) hS95 sl44 ze49 rfl (by simp [Value.cells, elV, el]) rfl (by decide)) fun b98 W99 hS100 => ?_
 refine sqv (ex_build (vs := [(0, .int .i64 1), (1, .int .i64 2), (2, .int .i64 3), (3, .int .i64 1), (4, .slice (so b98) 1 1)]) (cells := #[.int .i64 1, .int .i64 2, .int .i64 3, .int .i64 1, .slice (so b98) 1 1]) rfl (by kernel_rfl)) ?_
 refine sqUE (st_stores (v := .agg #[.int .i64 1, .int .i64 2, .int .i64 3, .int .i64 1, .slice (so b98) 1 1]) (cs' := #[.int .i64 1, .int .i64 2, .int .i64 3, .int .i64 1, .slice (so b98) 1 1]) 1 hS100 rfl rfl rfl ag46 rfl (Nat.le_of_ble_eq_true rfl) (ones_of rfl) rfl) fun W101 hS102 => ?_
 show C _ _ _ _ _ _
 refine C_ret ?_
 refine done_1 (v := .agg #[.int .i64 1, .int .i64 2, .int .i64 3, .int .i64 1, .slice (so b98) 1 1]) rfl (res_row rfl (hS102.at 1 rfl) ag46 rfl) ?_
 refine hR90 _ _ ?_
 refine sqE (st_bslice (vs := [.agg #[.int .i64 1, .int .i64 2, .int .i64 1, .int .i64 1, .slice (so b70) 1 1], .agg #[.int .i64 1, .int .i64 2, .int .i64 2, .int .i64 1, .slice (so b84) 1 1], .agg #[.int .i64 1, .int .i64 2, .int .i64 3, .int .i64 1, .slice (so b98) 1 1]]) hS102 sl22 ze46 rfl (by simp [Value.cells]) rfl (by decide)) fun b103 W104 hS105 => ?_
 refine sqv (ex_assign (v := .slice (so b103) 3 3) rfl) ?_
 show C _ _ _ _ _ _
 refine C_sr ?_
 refine sqv (ex_move (v := .slice (so b103) 3 3) rfl) ?_
 refine sqc (exe_call (args := #[.pointer none, .slice (so b103) 3 3]) en23 (args_of2 rfl rfl)) (c_Consistent F1 (⟨1, 2, 1, 1, (.slice (so b70) 1 1), [rForm F1.p 8]⟩ : Sh) (.slice (so b103) 3 3) ([⟨1, 2, 1, 1, (.slice (so b70) 1 1), [rForm F1.p 8]⟩, ⟨1, 2, 2, 1, (.slice (so b84) 1 1), [rForm F1.p 11]⟩, ⟨1, 2, 3, 1, (.slice (so b98) 1 1), [rForm F1.p 15]⟩]) (((entF (some (b103, .cells #[.int .i64 1, .int .i64 2, .int .i64 1, .int .i64 1, .slice (so b70) 1 1, .int .i64 1, .int .i64 2, .int .i64 2, .int .i64 1, .slice (so b84) 1 1, .int .i64 1, .int .i64 2, .int .i64 3, .int .i64 1, .slice (so b98) 1 1] 46))) ++ ((entF (some (b70, .cells (elA (rForm F1.p 8)) 49))) ++ ((entF (some (b84, .cells (elA (rForm F1.p 11)) 49))) ++ (entF (some (b98, .cells (elA (rForm F1.p 15)) 49)))))) ++ Z0) (.pointer none) ([]) ([]) W104 (acc_alive (rForm_lt1 _) (rForm_lt1 _) (rForm_lt1 _)) (all_alive (rForm_lt1 _) (rForm_lt1 _) (rForm_lt1 _)) (by show 3 < 900; omega) (by show 0 + 2000000 * 1 < 1099511627776; omega) (Holds.app ((Holds.app (hS105.entH 0 rfl) (Holds.app (hS105.entH 5 rfl) (Holds.app (hS105.entH 3 rfl) (hS105.entH 1 rfl))))) (hS105.holds0 hZ0)) (Off.app (Off.nil _) (Off.nil _)) (((shs_lit (sl_row (f := cS) (k := 5) (t := 46) (b := b103) (n := 3) (cs := #[.int .i64 1, .int .i64 2, .int .i64 1, .int .i64 1, .slice (so b70) 1 1, .int .i64 1, .int .i64 2, .int .i64 2, .int .i64 1, .slice (so b84) 1 1, .int .i64 1, .int .i64 2, .int .i64 3, .int .i64 1, .slice (so b98) 1 1]) (ys := [⟨1, 2, 1, 1, (.slice (so b70) 1 1), [rForm F1.p 8]⟩, ⟨1, 2, 2, 1, (.slice (so b84) 1 1), [rForm F1.p 11]⟩, ⟨1, 2, 3, 1, (.slice (so b98) 1 1), [rForm F1.p 15]⟩]) (fun _ => rfl) rfl (Nat.le_of_ble_eq_true rfl) rfl) (deep_cons (Sl.mono ((sl_row (f := el) (k := 4) (t := 49) (b := b70) (n := 1) (cs := (elA (rForm F1.p 8))) (ys := [rForm F1.p 8]) (fun _ => rfl) rfl (Nat.le_of_ble_eq_true rfl) rfl)) fun _ hp => List.mem_append_right _ (List.mem_append_left _ hp)) (deep_cons (Sl.mono ((sl_row (f := el) (k := 4) (t := 49) (b := b84) (n := 1) (cs := (elA (rForm F1.p 11))) (ys := [rForm F1.p 11]) (fun _ => rfl) rfl (Nat.le_of_ble_eq_true rfl) rfl)) fun _ hp => List.mem_append_right _ (List.mem_append_right _ (List.mem_append_left _ hp))) (deep_cons (Sl.mono ((sl_row (f := el) (k := 4) (t := 49) (b := b98) (n := 1) (cs := (elA (rForm F1.p 15))) (ys := [rForm F1.p 15]) (fun _ => rfl) rfl (Nat.le_of_ble_eq_true rfl) rfl)) fun _ hp => List.mem_append_right _ (List.mem_append_right _ (List.mem_append_right _ hp))) (fun s hs => absurd hs (by simp))))))).mono fun _ hp => (List.mem_append_left _ hp)) ((hG).mono fun _ hp => (List.mem_append_right _ hp)) (Tape.nil _ _ _ _) (St.nil _)) ?_
 rintro _ W106 ⟨Lt110, rfl, hU111, hT108⟩
 obtain rfl := tape_nil hU111
 have hS107 := St.call (Ln := []) hS105 hT108
 rw [show (conB F1 ([⟨1, 2, 1, 1, (.slice (so b70) 1 1), [rForm F1.p 8]⟩, ⟨1, 2, 2, 1, (.slice (so b84) 1 1), [rForm F1.p 11]⟩, ⟨1, 2, 3, 1, (.slice (so b98) 1 1), [rForm F1.p 15]⟩]) (⟨1, 2, 1, 1, (.slice (so b70) 1 1), [rForm F1.p 8]⟩ : Sh).t (⟨1, 2, 1, 1, (.slice (so b70) 1 1), [rForm F1.p 8]⟩ : Sh).p.length) = false from con_alive2]
 refine sqv (ex_move (v := .tuple #[.bool false, .int .i64 0]) rfl) ?_
 refine sqv (ex_extract (v := .bool false) rfl rfl) ?_
 refine sqv (ex_extract (v := .int .i64 0) rfl rfl) ?_
 refine sqv (ex_assign (v := .bool false) rfl) ?_
 refine sqv (ex_assign (v := .int .i64 0) rfl) ?_
 show C _ _ _ _ _ _
 refine C_sr ?_
 refine sqv (ex_move (v := .slice (so b103) 3 3) rfl) ?_
 refine sqc (exe_call (args := #[.pointer none, .slice (so b103) 3 3]) en15 (args_of2 rfl rfl)) (c_SuspectsG (.slice (so b103) 3 3) ([⟨1, 2, 1, 1, (.slice (so b70) 1 1), [rForm F1.p 8]⟩, ⟨1, 2, 2, 1, (.slice (so b84) 1 1), [rForm F1.p 11]⟩, ⟨1, 2, 3, 1, (.slice (so b98) 1 1), [rForm F1.p 15]⟩]) (((entF (some (b103, .cells #[.int .i64 1, .int .i64 2, .int .i64 1, .int .i64 1, .slice (so b70) 1 1, .int .i64 1, .int .i64 2, .int .i64 2, .int .i64 1, .slice (so b84) 1 1, .int .i64 1, .int .i64 2, .int .i64 3, .int .i64 1, .slice (so b98) 1 1] 46))) ++ ((entF (some (b70, .cells (elA (rForm F1.p 8)) 49))) ++ ((entF (some (b84, .cells (elA (rForm F1.p 11)) 49))) ++ (entF (some (b98, .cells (elA (rForm F1.p 15)) 49)))))) ++ Z0) (.pointer none) ([]) ([]) W106 (all_alive (rForm_lt1 _) (rForm_lt1 _) (rForm_lt1 _)) small_alive (by decide) (Holds.app ((Holds.app (hS107.entH 0 rfl) (Holds.app (hS107.entH 5 rfl) (Holds.app (hS107.entH 3 rfl) (hS107.entH 1 rfl))))) (hS107.holds0 hZ0)) (Off.app (Off.nil _) (Off.nil _)) (((shs_lit (sl_row (f := cS) (k := 5) (t := 46) (b := b103) (n := 3) (cs := #[.int .i64 1, .int .i64 2, .int .i64 1, .int .i64 1, .slice (so b70) 1 1, .int .i64 1, .int .i64 2, .int .i64 2, .int .i64 1, .slice (so b84) 1 1, .int .i64 1, .int .i64 2, .int .i64 3, .int .i64 1, .slice (so b98) 1 1]) (ys := [⟨1, 2, 1, 1, (.slice (so b70) 1 1), [rForm F1.p 8]⟩, ⟨1, 2, 2, 1, (.slice (so b84) 1 1), [rForm F1.p 11]⟩, ⟨1, 2, 3, 1, (.slice (so b98) 1 1), [rForm F1.p 15]⟩]) (fun _ => rfl) rfl (Nat.le_of_ble_eq_true rfl) rfl) (deep_cons (Sl.mono ((sl_row (f := el) (k := 4) (t := 49) (b := b70) (n := 1) (cs := (elA (rForm F1.p 8))) (ys := [rForm F1.p 8]) (fun _ => rfl) rfl (Nat.le_of_ble_eq_true rfl) rfl)) fun _ hp => List.mem_append_right _ (List.mem_append_left _ hp)) (deep_cons (Sl.mono ((sl_row (f := el) (k := 4) (t := 49) (b := b84) (n := 1) (cs := (elA (rForm F1.p 11))) (ys := [rForm F1.p 11]) (fun _ => rfl) rfl (Nat.le_of_ble_eq_true rfl) rfl)) fun _ hp => List.mem_append_right _ (List.mem_append_right _ (List.mem_append_left _ hp))) (deep_cons (Sl.mono ((sl_row (f := el) (k := 4) (t := 49) (b := b98) (n := 1) (cs := (elA (rForm F1.p 15))) (ys := [rForm F1.p 15]) (fun _ => rfl) rfl (Nat.le_of_ble_eq_true rfl) rfl)) fun _ hp => List.mem_append_right _ (List.mem_append_right _ (List.mem_append_right _ hp))) (fun s hs => absurd hs (by simp))))))).mono fun _ hp => (List.mem_append_left _ hp)) ((hG).mono fun _ hp => (List.mem_append_right _ hp)) (Tape.nil _ _ _ _) (St.nil _)) ?_
 rintro _ W112 ⟨v116, en117, Lt119, rfl, hp118, hU120, hT114⟩
 obtain rfl := tape_nil hU120
 have hS113 := St.call (Ln := [en117]) hS107 hT114
 have hX121 := hp118
 rw [(sus_alive (rForm_lt1 _) (rForm_lt1 _) (rForm_lt1 _)).1] at hX121
 rw [(sus_alive (rForm_lt1 _) (rForm_lt1 _) (rForm_lt1 _)).2]
 refine sqv (ex_move (v := .tuple #[v116, .int .i64 0]) rfl) ?_
 refine sqv (ex_extract (v := v116) rfl rfl) ?_
 refine sqv (ex_extract (v := .int .i64 0) rfl rfl) ?_
 refine sqv (ex_assign (v := v116) rfl) ?_
 refine sqv (ex_assign (v := .int .i64 0) rfl) ?_
 show C _ _ _ _ _ _
 refine C_sr ?_
 refine sqv (ex_move (v := .slice (so b103) 3 3) rfl) ?_
 refine sqc (exe_call (args := #[.pointer none, .slice (so b103) 3 3]) en24 (args_of2 rfl rfl)) (c_Chunks F1 (⟨1, 2, 1, 1, (.slice (so b70) 1 1), [rForm F1.p 8]⟩ : Sh) (.slice (so b103) 3 3) ([⟨1, 2, 1, 1, (.slice (so b70) 1 1), [rForm F1.p 8]⟩, ⟨1, 2, 2, 1, (.slice (so b84) 1 1), [rForm F1.p 11]⟩, ⟨1, 2, 3, 1, (.slice (so b98) 1 1), [rForm F1.p 15]⟩]) (((entF (some (b103, .cells #[.int .i64 1, .int .i64 2, .int .i64 1, .int .i64 1, .slice (so b70) 1 1, .int .i64 1, .int .i64 2, .int .i64 2, .int .i64 1, .slice (so b84) 1 1, .int .i64 1, .int .i64 2, .int .i64 3, .int .i64 1, .slice (so b98) 1 1] 46))) ++ ((entF (some (b70, .cells (elA (rForm F1.p 8)) 49))) ++ ((entF (some (b84, .cells (elA (rForm F1.p 11)) 49))) ++ (entF (some (b98, .cells (elA (rForm F1.p 15)) 49)))))) ++ Z0) (.pointer none) ([]) ([]) W112 (acc_alive (rForm_lt1 _) (rForm_lt1 _) (rForm_lt1 _)) (all_alive (rForm_lt1 _) (rForm_lt1 _) (rForm_lt1 _)) (by show 3 < 900; omega) (by show 0 + 2000000 * 1 < 1099511627776; omega) (by show 1 < 1000000; omega) (Holds.app ((Holds.app (hS113.entH 1 rfl) (Holds.app (hS113.entH 6 rfl) (Holds.app (hS113.entH 4 rfl) (hS113.entH 2 rfl))))) (hS113.holds0 hZ0)) (Off.app (Off.nil _) (Off.nil _)) (((shs_lit (sl_row (f := cS) (k := 5) (t := 46) (b := b103) (n := 3) (cs := #[.int .i64 1, .int .i64 2, .int .i64 1, .int .i64 1, .slice (so b70) 1 1, .int .i64 1, .int .i64 2, .int .i64 2, .int .i64 1, .slice (so b84) 1 1, .int .i64 1, .int .i64 2, .int .i64 3, .int .i64 1, .slice (so b98) 1 1]) (ys := [⟨1, 2, 1, 1, (.slice (so b70) 1 1), [rForm F1.p 8]⟩, ⟨1, 2, 2, 1, (.slice (so b84) 1 1), [rForm F1.p 11]⟩, ⟨1, 2, 3, 1, (.slice (so b98) 1 1), [rForm F1.p 15]⟩]) (fun _ => rfl) rfl (Nat.le_of_ble_eq_true rfl) rfl) (deep_cons (Sl.mono ((sl_row (f := el) (k := 4) (t := 49) (b := b70) (n := 1) (cs := (elA (rForm F1.p 8))) (ys := [rForm F1.p 8]) (fun _ => rfl) rfl (Nat.le_of_ble_eq_true rfl) rfl)) fun _ hp => List.mem_append_right _ (List.mem_append_left _ hp)) (deep_cons (Sl.mono ((sl_row (f := el) (k := 4) (t := 49) (b := b84) (n := 1) (cs := (elA (rForm F1.p 11))) (ys := [rForm F1.p 11]) (fun _ => rfl) rfl (Nat.le_of_ble_eq_true rfl) rfl)) fun _ hp => List.mem_append_right _ (List.mem_append_right _ (List.mem_append_left _ hp))) (deep_cons (Sl.mono ((sl_row (f := el) (k := 4) (t := 49) (b := b98) (n := 1) (cs := (elA (rForm F1.p 15))) (ys := [rForm F1.p 15]) (fun _ => rfl) rfl (Nat.le_of_ble_eq_true rfl) rfl)) fun _ hp => List.mem_append_right _ (List.mem_append_right _ (List.mem_append_right _ hp))) (fun s hs => absurd hs (by simp))))))).mono fun _ hp => (List.mem_append_left _ hp)) ((hG).mono fun _ hp => (List.mem_append_right _ hp)) (Tape.nil _ _ _ _) (St.nil _)) ?_
 rintro _ W122 ⟨v126, en127, Lt129, rfl, hp128, hU130, hT124⟩
 obtain rfl := tape_nil hU130
 have hS123 := St.call (Ln := [en127]) hS113 hT124
 have hX131 := hp128
 rw [show chuL F1 ([⟨1, 2, 1, 1, (.slice (so b70) 1 1), [rForm F1.p 8]⟩, ⟨1, 2, 2, 1, (.slice (so b84) 1 1), [rForm F1.p 11]⟩, ⟨1, 2, 3, 1, (.slice (so b98) 1 1), [rForm F1.p 15]⟩]) (⟨1, 2, 1, 1, (.slice (so b70) 1 1), [rForm F1.p 8]⟩ : Sh).t (⟨1, 2, 1, 1, (.slice (so b70) 1 1), [rForm F1.p 8]⟩ : Sh).p.length = [false] from chu_alive2] at hX131
 refine sqv (ex_move (v := .tuple #[v126, .int .i64 0]) rfl) ?_
 refine sqv (ex_extract (v := v126) rfl rfl) ?_
 refine sqv (ex_extract (v := .int .i64 0) rfl rfl) ?_
 refine sqv (ex_assign (v := v126) rfl) ?_
 refine sqv (ex_assign (v := .int .i64 0) rfl) ?_
 show C _ _ _ _ _ _
 refine C_sr ?_
 refine sqv (ex_move (v := .bool true) rfl) ?_
 refine sqv (ex_move (v := .bool true) rfl) ?_
 refine guard_yes (b := true) rfl rfl ?_
 refine sqv (ex_move (v := .int .i64 0) rfl) ?_
 refine guard_yes (b := true) rfl rfl ?_
 refine sqv (ex_cmp (x := 0) (y := 0) (r := true) rfl rfl rfl) ?_
 refine sqv (ex_pick (t := true) (v := .bool true) rfl rfl) ?_
 refine sqv (ex_move (v := .bool true) rfl) ?_
 refine guard_yes (b := true) rfl rfl ?_
 refine sqv (ex_move (v := .bool false) rfl) ?_
 refine guard_yes (b := true) rfl rfl ?_
 refine sqv (ex_not (t := false) rfl) ?_
 refine sqv (ex_pick (t := true) (v := .bool true) rfl rfl) ?_
 refine sqv (ex_move (v := .bool true) rfl) ?_
 refine guard_yes (b := true) rfl rfl ?_
 refine sqv (ex_move (v := .int .i64 0) rfl) ?_
 refine guard_yes (b := true) rfl rfl ?_
 refine sqv (ex_cmp (x := 0) (y := 0) (r := true) rfl rfl rfl) ?_
 refine sqv (ex_pick (t := true) (v := .bool true) rfl rfl) ?_
 refine sqv (ex_move (v := .bool true) rfl) ?_
 refine guard_yes (b := true) rfl rfl ?_
 refine sqv (ex_move (v := .int .i64 0) rfl) ?_
 refine guard_yes (b := true) rfl rfl ?_
 refine sqv (ex_cmp (x := 0) (y := 0) (r := true) rfl rfl rfl) ?_
 refine sqv (ex_pick (t := true) (v := .bool true) rfl rfl) ?_
 refine sqv (ex_move (v := .bool true) rfl) ?_
 refine guard_yes (b := true) rfl rfl ?_
 refine sqv (ex_move (v := v116) rfl) ?_
 refine guard_yes (b := true) rfl rfl ?_
 refine sqE (st_bslice (vs := [.int .i64 0, .int .i64 1, .int .i64 2]) hS123 sl25 ze3 rfl (by simp [Value.cells]) rfl (by decide)) fun b132 W133 hS134 => ?_
 refine guard_yes (b := true) rfl rfl ?_
 refine sqc (exe_call (args := #[v116, .slice (so b132) 3 3]) en17 (args_of2 rfl rfl)) (c_EqualI v116 ([0, 1, 2] : List Int) (.slice (so b132) 3 3) ([0, 1, 2]) ((entF en117) ++ (entF (some (b132, .cells #[.int .i64 0, .int .i64 1, .int .i64 2] 3)))) W133 (Holds.app (hS134.entH 2 rfl) (hS134.entH 0 rfl)) (Sl.mono ((hX121).slF) fun _ hp => (List.mem_append_left _ hp)) (Sl.mono ((sl_row (f := cI) (k := 1) (t := 3) (b := b132) (n := 3) (cs := #[.int .i64 0, .int .i64 1, .int .i64 2]) (ys := [0, 1, 2]) (fun _ => rfl) rfl (Nat.le_of_ble_eq_true rfl) rfl)) fun _ hp => (List.mem_append_right _ hp))) ?_
 rintro _ W135 ⟨rfl, hT137⟩
 have hS136 := hS134.call hT137
 rw [show (decide (([0, 1, 2] : List Int) = ([0, 1, 2]))) = true from by decide]
 refine sqv (ex_pick (t := true) (v := .bool true) rfl rfl) ?_
 refine sqv (ex_move (v := .bool true) rfl) ?_
 refine guard_yes (b := true) rfl rfl ?_
 refine sqv (ex_move (v := .int .i64 0) rfl) ?_
 refine guard_yes (b := true) rfl rfl ?_
 refine sqv (ex_cmp (x := 0) (y := 0) (r := true) rfl rfl rfl) ?_
 refine sqv (ex_pick (t := true) (v := .bool true) rfl rfl) ?_
 refine sqv (ex_move (v := .bool true) rfl) ?_
 refine guard_yes (b := true) rfl rfl ?_
 refine sqv (ex_move (v := v126) rfl) ?_
 refine guard_yes (b := true) rfl rfl ?_
 refine sqE (st_bslice (vs := [.bool false]) hS136 sl53 ze4 rfl (by simp [Value.cells]) rfl (by decide)) fun b139 W140 hS141 => ?_
 refine guard_yes (b := true) rfl rfl ?_
 refine sqc (exe_call (args := #[v126, .slice (so b139) 1 1]) en50 (args_of2 rfl rfl)) (c_EqualB v126 ([false]) (.slice (so b139) 1 1) ([false]) ((entF en127) ++ (entF (some (b139, .cells #[.bool false] 4)))) W140 (Holds.app (hS141.entH 2 rfl) (hS141.entH 0 rfl)) (Sl.mono ((hX131).slF) fun _ hp => (List.mem_append_left _ hp)) (Sl.mono ((sl_row (f := cT) (k := 1) (t := 4) (b := b139) (n := 1) (cs := #[.bool false]) (ys := [false]) (fun _ => rfl) rfl (Nat.le_of_ble_eq_true rfl) rfl)) fun _ hp => (List.mem_append_right _ hp))) ?_
 rintro _ W142 ⟨rfl, hT144⟩
 have hS143 := hS141.call hT144
 rw [show (decide (([false]) = ([false]))) = true from by decide]
 refine sqv (ex_pick (t := true) (v := .bool true) rfl rfl) ?_
 refine sqv (ex_assign (v := .bool true) rfl) ?_
 show C _ _ _ _ _ _
 refine C_ret ?_
 refine done_1 (v := .bool true) rfl rfl ?_
 exact ⟨rfl, St.pick (L := [some (b139, .cells #[.bool false] 4), some (b132, .cells #[.int .i64 0, .int .i64 1, .int .i64 2] 3), en127, en117, some (b103, .cells #[.int .i64 1, .int .i64 2, .int .i64 1, .int .i64 1, .slice (so b70) 1 1, .int .i64 1, .int .i64 2, .int .i64 2, .int .i64 1, .slice (so b84) 1 1, .int .i64 1, .int .i64 2, .int .i64 3, .int .i64 1, .slice (so b98) 1 1] 46), some (b98, .cells (elA (rForm F1.p 15)) 49), some (b91, .cells #[.int .i64 1, .int .i64 2, .int .i64 3, .int .i64 1, .slice (so b98) 1 1] 46), some (b84, .cells (elA (rForm F1.p 11)) 49), some (b77, .cells #[.int .i64 1, .int .i64 2, .int .i64 2, .int .i64 1, .slice (so b84) 1 1] 46), some (b70, .cells (elA (rForm F1.p 8)) 49), some (b63, .cells #[.int .i64 1, .int .i64 2, .int .i64 1, .int .i64 1, .slice (so b70) 1 1] 46), some (b52, .cells #[.int .i64 1, .int .i64 2, .int .i64 1, .int .i64 1, .slice (so b19) 1 1, .int .i64 1, .int .i64 2, .int .i64 2, .int .i64 1, .slice (so b33) 1 1, .int .i64 1, .int .i64 2, .int .i64 3, .int .i64 1, .slice (so b47) 1 1] 46), some (b47, .cells (elA (rForm F1.p 14)) 49), some (b40, .cells #[.int .i64 1, .int .i64 2, .int .i64 3, .int .i64 1, .slice (so b47) 1 1] 46), some (b33, .cells (elA (rForm F1.p 11)) 49), some (b26, .cells #[.int .i64 1, .int .i64 2, .int .i64 2, .int .i64 1, .slice (so b33) 1 1] 46), some (b19, .cells (elA (rForm F1.p 8)) 49), some (b12, .cells #[.int .i64 1, .int .i64 2, .int .i64 1, .int .i64 1, .slice (so b19) 1 1] 46), some (b5, .cells (elA (F1.p)) 40)]) hS143 [] (by decide)⟩
end Go.Proofs
end
section
set_option linter.unusedVariables false
set_option linter.unusedSimpArgs false
set_option maxRecDepth 20000
set_option maxHeartbeats 2000000
namespace Go.Proofs
open Sc
theorem en13 : enters Tryz.prog 13 = true := by kernel_rfl
theorem en14 : enters Tryz.prog 14 = true := by kernel_rfl
theorem en16 : enters Tryz.prog 16 = true := by kernel_rfl
end Go.Proofs
end
section
set_option linter.unusedVariables false
set_option linter.unusedSimpArgs false
set_option maxRecDepth 20000
set_option maxHeartbeats 2000000
namespace Go.Proofs
open Sc
theorem sl61 : sliceOf Tryz.prog 61 = some (108, 3, 24) := by kernel_rfl
theorem ze108 : zeroOf Tryz.prog 108 = some #[.int .i64 0, .int .i64 0, .int .i64 0] := by kernel_rfl
def prRow (ot : Bool) (i : Nat) : Nat → List Ev
  | 0 => []
  | k + 1 => prRow ot i k ++ (if ot = true ∧ k = i then [] else [⟨3, (i : Int), (k : Int)⟩])
def prEv (m : Nat) (ot : Bool) : Nat → List Ev
  | 0 => []
  | i + 1 => prEv m ot i ++ prRow ot i m
theorem prRow_len (ot : Bool) (i : Nat) : ∀ k, (prRow ot i k).length ≤ k
  | 0 => Nat.le_refl _
  | k + 1 => by
    have := prRow_len ot i k
    simp only [prRow, List.length_append]; split <;> simp <;> omega
theorem prEv_len (m : Nat) (ot : Bool) : ∀ i, (prEv m ot i).length ≤ i * m
  | 0 => by simp [prEv]
  | i + 1 => by
    have h1 := prEv_len m ot i
    have h2 := prRow_len ot i m
    simp only [prEv, List.length_append, Nat.add_mul, Nat.one_mul]; omega
theorem prRow_T (i : Nat) : ∀ k, prRow true i k = rEv i k
  | 0 => rfl
  | k + 1 => by simp only [prRow, rEv, prRow_T i k, true_and]
theorem prRow_F (i : Nat) : ∀ k, prRow false i k = pEv i k
  | 0 => rfl
  | k + 1 => by simp [prRow, pEv, prRow_F i k]
theorem prEv_T (n : Nat) : ∀ i, prEv n true i = wEv0 n i
  | 0 => rfl
  | i + 1 => by rw [prEv, wEv0, prEv_T n i, prRow_T]
theorem prEv_F (n : Nat) : ∀ i, prEv n false i = ppEv n i
  | 0 => rfl
  | i + 1 => by rw [prEv, ppEv, prEv_F n i, prRow_F]
theorem pr_900 {n m i : Nat} (hn : i ≤ n) (h1 : n < 900) (h2 : m < 900) (ot : Bool) : (prEv m ot i).length ≤ 810000 :=
  Nat.le_trans (prEv_len m ot i) (Nat.le_trans (Nat.mul_le_mul (Nat.le_of_lt (Nat.lt_of_le_of_lt hn h1)) (Nat.le_of_lt h2)) (Nat.le_refl _))
theorem c_PairsT (n : Nat) (m : Nat) (w0 : World) (g0 : n < 900) (g1 : m < 900) : Calls Tryz.prog 131 #[.int .i64 (n : Int), .int .i64 (m : Int), .bool true] w0 (Ret fun uu w' => ∃ (v : Value), ∃ (en : Ent), uu = v ∧ (Own 108 3 cE v (prEv m true n) en) ∧ St [] w0 w' [en] []) := by
 refine calls_of Tryz.func131 rfl Tryz.ntmps131 (Nat.le_of_ble_eq_true rfl) ?_
 have hS0 := St.nil w0
 refine C_sr ?_
 refine sqv (ex_assign (v := .slice none 0 0) rfl) ?_
 show C _ _ _ _ _ _
 refine C_sr ?_
 refine sqv (ex_assign (v := .slice none 0 0) rfl) ?_
 show C _ _ _ _ _ _
 refine C_seq ?_
 refine C_sr ?_
 refine sqv (ex_assign (v := .int .i64 0) rfl) ?_
 show C _ _ _ _ _ _
 refine C_block ?_
 have hS1 := St.non hS0
 refine C_loop (fun nn aa ww => ∃ (m0 : Nat → Value) (i : Nat) (v : Value) (en : Ent) (o : List Ev), nn = n - i ∧ aa = act 34 (upds m0 [(0, .int .i64 (n : Int)), (1, .int .i64 (m : Int)), (2, .bool true), (6, .slice none 0 0), (7, v), (8, .int .i64 (i : Int))]) [] ∧ St [] w0 ww [en] [] ∧ (i ≤ n) ∧ (Own 108 3 cE v o en) ∧ (o = prEv m true i)) n ?_ ?_
 ·exact ⟨_, 0, (.slice none 0 0), none, [], rfl, act_upds ⟨(congrArg (Value.int .i64) (by first | rfl | omega)), (congrArg (Value.int .i64) (by first | rfl | omega)), rfl, rfl, rfl, (congrArg (Value.int .i64) (by first | rfl | omega)), trivial⟩, (St.pick (L := [none]) hS1 [0] (by decide)), (Nat.zero_le _), (Own.nil _ _ _), rfl⟩
 rintro n5 a6 W3 ⟨m2, i, v, en, o, rfl, rfl, hS4, hki, hO, ho⟩
 have hlo : o.length ≤ 810000 := by rw [ho]; exact pr_900 (n := n) (by omega) g0 g1 _
 refine C_seq ?_
 refine C_sr ?_
 refine sqv (ex_move (v := .int .i64 (i : Int)) rfl) ?_
 refine sqv (ex_move (v := .int .i64 (n : Int)) rfl) ?_
 refine sqv (ex_cmp (x := (i : Int)) (y := (n : Int)) (r := decide ((i : Int) < (n : Int))) rfl rfl rfl) ?_
 show C _ _ _ _ _ _
 refine C_dec ((i : Int) < (n : Int)) rfl (fun hc7 => ?_) (fun hc7 => ?_)
 ·refine C_skip ?_
  show C _ _ _ _ _ _
  refine C_seq ?_
  refine C_block ?_
  refine C_sr ?_
  refine sqv (ex_assign (v := .int .i64 0) rfl) ?_
  show C _ _ _ _ _ _
  refine C_block ?_
  refine C_loop (fun nn aa ww => ∃ (m0 : Nat → Value) (k : Nat) (v2 : Value) (en2 : Ent) (o2 : List Ev), nn = m - k ∧ aa = act 34 (upds m0 [(0, .int .i64 (n : Int)), (1, .int .i64 (m : Int)), (2, .bool true), (6, .slice none 0 0), (7, v2), (8, .int .i64 (i : Int)), (9, .int .i64 (k : Int))]) [] ∧ St [] w0 ww [en2] [] ∧ (k ≤ m) ∧ (Own 108 3 cE v2 o2 en2) ∧ (o2 = o ++ prRow true i k)) m ?_ ?_
  ·exact ⟨_, 0, v, en, o, rfl, act_upds ⟨(congrArg (Value.int .i64) (by first | rfl | omega)), (congrArg (Value.int .i64) (by first | rfl | omega)), rfl, rfl, rfl, (congrArg (Value.int .i64) (by first | rfl | omega)), (congrArg (Value.int .i64) (by first | rfl | omega)), trivial⟩, (St.pick (L := [en]) hS4 [0] (by decide)), (Nat.zero_le _), hO, (by simp [prRow])⟩
  rintro n11 a12 W9 ⟨m8, k, v2, en2, o2, rfl, rfl, hS10, hkk, hO2, ho2⟩
  have hlo2 : o2.length ≤ 811000 := by rw [ho2, List.length_append]; have := prRow_len true i k; omega
  refine C_seq ?_
  refine C_sr ?_
  refine sqv (ex_move (v := .int .i64 (k : Int)) rfl) ?_
  refine sqv (ex_move (v := .int .i64 (m : Int)) rfl) ?_
  refine sqv (ex_cmp (x := (k : Int)) (y := (m : Int)) (r := decide ((k : Int) < (m : Int))) rfl rfl rfl) ?_
  show C _ _ _ _ _ _
  refine C_dec ((k : Int) < (m : Int)) rfl (fun hc13 => ?_) (fun hc13 => ?_)
  ·refine C_skip ?_
   show C _ _ _ _ _ _
   refine C_seq ?_
   refine C_block ?_
   refine C_sr ?_
   refine sqv (ex_move (v := .bool true) rfl) ?_
   refine sqv (ex_not (t := true) rfl) ?_
   refine sqv (ex_move (v := .bool false) rfl) ?_
   refine guard_yes (b := false) rfl rfl ?_
   refine sqv (ex_move (v := .int .i64 (i : Int)) rfl) ?_
   refine guard_yes (b := false) rfl rfl ?_
   refine sqv (ex_move (v := .int .i64 (k : Int)) rfl) ?_
   refine guard_yes (b := false) rfl rfl ?_
   refine nm (decide ((i : Int) ≠ (k : Int))) fun t14 ht14 => ?_
   refine sqv (ex_cmp (x := (i : Int)) (y := (k : Int)) rfl rfl ht14) ?_
   refine sqv (ex_pick (t := false) (v := .bool t14) rfl rfl) ?_
   show C _ _ _ _ _ _
   refine C_if (t := t14) rfl (fun hc15 => ?_) (fun hc15 => ?_)
   ·have hc15' := of_decide_eq_true (ht14.symm.trans hc15)
    refine C_region ?_
    refine sqv (ex_move (v := v2) rfl) ?_
    refine sqv (ex_move (v := .int .i64 (i : Int)) rfl) ?_
    refine sqv (ex_move (v := .int .i64 (k : Int)) rfl) ?_
    refine sqv (ex_build (vs := [(0, .int .i64 3), (1, .int .i64 (i : Int)), (2, .int .i64 (k : Int))]) (cells := #[.int .i64 3, .int .i64 (i : Int), .int .i64 (k : Int)]) rfl (by kernel_rfl)) ?_
    refine sqE (st_bslice (vs := [.agg #[.int .i64 3, .int .i64 (i : Int), .int .i64 (k : Int)]]) hS10 sl61 ze108 rfl (by simp [Value.cells]) rfl (by decide)) fun b16 W17 hS18 => ?_
    refine sqA (st_appendM (f := cE) (k := 3) (xs := o2) (ys := [⟨3, (i : Int), (k : Int)⟩]) (fun _ => rfl) (fun _ => ones_of rfl) (by decide) 1 hS18 (hO2) ((sl_row (f := cE) (k := 3) (t := 108) (b := b16) (n := 1) (cs := #[.int .i64 3, .int .i64 (i : Int), .int .i64 (k : Int)]) (ys := [⟨3, (i : Int), (k : Int)⟩]) (fun _ => rfl) rfl (Nat.le_of_ble_eq_true rfl) rfl)) (hS18.entH 0 rfl) rfl rfl rfl sl61 ze108 rfl (by simp only [List.length_append, List.length_cons, List.length_nil, maxLen]; omega) (by simp only [List.length_append, List.length_cons, List.length_nil, maxLen]; omega)) fun u19 en20 W21 ⟨hS22, ho23⟩ => ?_
    refine sqv (ex_assign (v := u19) rfl) ?_
    refine blk_normal ?_
    show C _ _ _ _ _ _
    refine C_region ?_
    refine sqv (ex_move (v := .int .i64 (k : Int)) rfl) ?_
    refine nm ((k : Int) + 1) fun x24 hx24 => ?_
    refine sqv (ex_add (x := (k : Int)) (y := 1) rfl rfl (w64 hx24 (by omega))) ?_
    refine sqv (ex_assign (v := .int .i64 x24) rfl) ?_
    exact ⟨_, (by omega), ⟨_, (k + 1), u19, en20, (o2 ++ ([⟨3, (i : Int), (k : Int)⟩])), rfl, act_upds ⟨(congrArg (Value.int .i64) (by first | rfl | omega)), (congrArg (Value.int .i64) (by first | rfl | omega)), rfl, rfl, rfl, (congrArg (Value.int .i64) (by first | rfl | omega)), (congrArg (Value.int .i64) (by first | rfl | omega)), trivial⟩, (St.pick (L := [some (b16, .cells #[.int .i64 3, .int .i64 (i : Int), .int .i64 (k : Int)] 108), en20]) hS22 [1] (by decide)), (by omega), ho23, (by first | (rw [ho2, prRow, if_neg (fun h => absurd h.2 (by omega)), List.append_assoc]) | (rw [ho2, prRow, if_pos ⟨rfl, (by omega)⟩, List.append_nil]) | (rw [ho2, prRow, if_neg (by simp), List.append_assoc]))⟩⟩
   have hc15' := of_decide_eq_false (ht14.symm.trans hc15)
   refine C_skip ?_
   refine blk_normal ?_
   show C _ _ _ _ _ _
   refine C_region ?_
   refine sqv (ex_move (v := .int .i64 (k : Int)) rfl) ?_
   refine nm ((k : Int) + 1) fun x25 hx25 => ?_
   refine sqv (ex_add (x := (k : Int)) (y := 1) rfl rfl (w64 hx25 (by omega))) ?_
   refine sqv (ex_assign (v := .int .i64 x25) rfl) ?_
   exact ⟨_, (by omega), ⟨_, (k + 1), v2, en2, o2, rfl, act_upds ⟨(congrArg (Value.int .i64) (by first | rfl | omega)), (congrArg (Value.int .i64) (by first | rfl | omega)), rfl, rfl, rfl, (congrArg (Value.int .i64) (by first | rfl | omega)), (congrArg (Value.int .i64) (by first | rfl | omega)), trivial⟩, (St.pick (L := [en2]) hS10 [0] (by decide)), (by omega), hO2, (by first | (rw [ho2, prRow, if_neg (fun h => absurd h.2 (by omega)), List.append_assoc]) | (rw [ho2, prRow, if_pos ⟨rfl, (by omega)⟩, List.append_nil]) | (rw [ho2, prRow, if_neg (by simp), List.append_assoc]))⟩⟩
  refine C_exit ?_
  refine thn_exit ?_
  refine thn_exit ?_
  refine blk_exit ?_
  refine blk_normal ?_
  show C _ _ _ _ _ _
  refine C_region ?_
  refine sqv (ex_move (v := .int .i64 (i : Int)) rfl) ?_
  refine nm ((i : Int) + 1) fun x26 hx26 => ?_
  refine sqv (ex_add (x := (i : Int)) (y := 1) rfl rfl (w64 hx26 (by omega))) ?_
  refine sqv (ex_assign (v := .int .i64 x26) rfl) ?_
  exact ⟨_, (by omega), ⟨_, (i + 1), v2, en2, o2, rfl, act_upds ⟨(congrArg (Value.int .i64) (by first | rfl | omega)), (congrArg (Value.int .i64) (by first | rfl | omega)), rfl, rfl, rfl, (congrArg (Value.int .i64) (by first | rfl | omega)), trivial⟩, (St.pick (L := [en2]) hS10 [0] (by decide)), (by omega), hO2, (by rw [ho2, ho, show k = m from by omega, prEv])⟩⟩
 refine C_exit ?_
 refine thn_exit ?_
 refine thn_exit ?_
 refine blk_exit ?_
 show C _ _ _ _ _ _
 refine C_sr ?_
 refine sqv (ex_move (v := v) rfl) ?_
 refine sqv (ex_assign (v := v) rfl) ?_
 show C _ _ _ _ _ _
 refine C_ret ?_
 refine done_1 (v := v) rfl rfl ?_
 obtain rfl : i = n := by omega
 have he := ho.symm
 exact ⟨_, _, rfl, by rw [he]; exact hO, St.pick (L := [en]) hS4 [0] (by decide)⟩
theorem c_PairsF (n : Nat) (m : Nat) (w0 : World) (g0 : n < 900) (g1 : m < 900) : Calls Tryz.prog 131 #[.int .i64 (n : Int), .int .i64 (m : Int), .bool false] w0 (Ret fun uu w' => ∃ (v : Value), ∃ (en : Ent), uu = v ∧ (Own 108 3 cE v (prEv m false n) en) ∧ St [] w0 w' [en] []) := by
 refine calls_of Tryz.func131 rfl Tryz.ntmps131 (Nat.le_of_ble_eq_true rfl) ?_
 have hS0 := St.nil w0
 refine C_sr ?_
 refine sqv (ex_assign (v := .slice none 0 0) rfl) ?_
 show C _ _ _ _ _ _
 refine C_sr ?_
 refine sqv (ex_assign (v := .slice none 0 0) rfl) ?_
 show C _ _ _ _ _ _
 refine C_seq ?_
 refine C_sr ?_
 refine sqv (ex_assign (v := .int .i64 0) rfl) ?_
 show C _ _ _ _ _ _
 refine C_block ?_
 have hS1 := St.non hS0
 refine C_loop (fun nn aa ww => ∃ (m0 : Nat → Value) (i : Nat) (v : Value) (en : Ent) (o : List Ev), nn = n - i ∧ aa = act 34 (upds m0 [(0, .int .i64 (n : Int)), (1, .int .i64 (m : Int)), (2, .bool false), (6, .slice none 0 0), (7, v), (8, .int .i64 (i : Int))]) [] ∧ St [] w0 ww [en] [] ∧ (i ≤ n) ∧ (Own 108 3 cE v o en) ∧ (o = prEv m false i)) n ?_ ?_
 ·exact ⟨_, 0, (.slice none 0 0), none, [], rfl, act_upds ⟨(congrArg (Value.int .i64) (by first | rfl | omega)), (congrArg (Value.int .i64) (by first | rfl | omega)), rfl, rfl, rfl, (congrArg (Value.int .i64) (by first | rfl | omega)), trivial⟩, (St.pick (L := [none]) hS1 [0] (by decide)), (Nat.zero_le _), (Own.nil _ _ _), rfl⟩
 rintro n5 a6 W3 ⟨m2, i, v, en, o, rfl, rfl, hS4, hki, hO, ho⟩
 have hlo : o.length ≤ 810000 := by rw [ho]; exact pr_900 (n := n) (by omega) g0 g1 _
 refine C_seq ?_
 refine C_sr ?_
 refine sqv (ex_move (v := .int .i64 (i : Int)) rfl) ?_
 refine sqv (ex_move (v := .int .i64 (n : Int)) rfl) ?_
 refine sqv (ex_cmp (x := (i : Int)) (y := (n : Int)) (r := decide ((i : Int) < (n : Int))) rfl rfl rfl) ?_
 show C _ _ _ _ _ _
 refine C_dec ((i : Int) < (n : Int)) rfl (fun hc7 => ?_) (fun hc7 => ?_)
 ·refine C_skip ?_
  show C _ _ _ _ _ _
  refine C_seq ?_
  refine C_block ?_
  refine C_sr ?_
  refine sqv (ex_assign (v := .int .i64 0) rfl) ?_
  show C _ _ _ _ _ _
  refine C_block ?_
  refine C_loop (fun nn aa ww => ∃ (m0 : Nat → Value) (k : Nat) (v2 : Value) (en2 : Ent) (o2 : List Ev), nn = m - k ∧ aa = act 34 (upds m0 [(0, .int .i64 (n : Int)), (1, .int .i64 (m : Int)), (2, .bool false), (6, .slice none 0 0), (7, v2), (8, .int .i64 (i : Int)), (9, .int .i64 (k : Int))]) [] ∧ St [] w0 ww [en2] [] ∧ (k ≤ m) ∧ (Own 108 3 cE v2 o2 en2) ∧ (o2 = o ++ prRow false i k)) m ?_ ?_
  ·exact ⟨_, 0, v, en, o, rfl, act_upds ⟨(congrArg (Value.int .i64) (by first | rfl | omega)), (congrArg (Value.int .i64) (by first | rfl | omega)), rfl, rfl, rfl, (congrArg (Value.int .i64) (by first | rfl | omega)), (congrArg (Value.int .i64) (by first | rfl | omega)), trivial⟩, (St.pick (L := [en]) hS4 [0] (by decide)), (Nat.zero_le _), hO, (by simp [prRow])⟩
  rintro n11 a12 W9 ⟨m8, k, v2, en2, o2, rfl, rfl, hS10, hkk, hO2, ho2⟩
  have hlo2 : o2.length ≤ 811000 := by rw [ho2, List.length_append]; have := prRow_len false i k; omega
  refine C_seq ?_
  refine C_sr ?_
  refine sqv (ex_move (v := .int .i64 (k : Int)) rfl) ?_
  refine sqv (ex_move (v := .int .i64 (m : Int)) rfl) ?_
  refine sqv (ex_cmp (x := (k : Int)) (y := (m : Int)) (r := decide ((k : Int) < (m : Int))) rfl rfl rfl) ?_
  show C _ _ _ _ _ _
  refine C_dec ((k : Int) < (m : Int)) rfl (fun hc13 => ?_) (fun hc13 => ?_)
  ·refine C_skip ?_
   show C _ _ _ _ _ _
   refine C_seq ?_
   refine C_block ?_
   refine C_sr ?_
   refine sqv (ex_move (v := .bool false) rfl) ?_
   refine sqv (ex_not (t := false) rfl) ?_
   refine sqv (ex_move (v := .bool true) rfl) ?_
   refine guard_no (b' := true) rfl rfl (by decide) ?_
   refine guard_no (b' := true) rfl rfl (by decide) ?_
   refine guard_no (b' := true) rfl rfl (by decide) ?_
   refine sqv (ex_pick (t := true) (v := .bool true) rfl rfl) ?_
   show C _ _ _ _ _ _
   refine C_true rfl ?_
   refine C_region ?_
   refine sqv (ex_move (v := v2) rfl) ?_
   refine sqv (ex_move (v := .int .i64 (i : Int)) rfl) ?_
   refine sqv (ex_move (v := .int .i64 (k : Int)) rfl) ?_
   refine sqv (ex_build (vs := [(0, .int .i64 3), (1, .int .i64 (i : Int)), (2, .int .i64 (k : Int))]) (cells := #[.int .i64 3, .int .i64 (i : Int), .int .i64 (k : Int)]) rfl (by kernel_rfl)) ?_
   refine sqE (st_bslice (vs := [.agg #[.int .i64 3, .int .i64 (i : Int), .int .i64 (k : Int)]]) hS10 sl61 ze108 rfl (by simp [Value.cells]) rfl (by decide)) fun b14 W15 hS16 => ?_
   refine sqA (st_appendM (f := cE) (k := 3) (xs := o2) (ys := [⟨3, (i : Int), (k : Int)⟩]) (fun _ => rfl) (fun _ => ones_of rfl) (by decide) 1 hS16 (hO2) ((sl_row (f := cE) (k := 3) (t := 108) (b := b14) (n := 1) (cs := #[.int .i64 3, .int .i64 (i : Int), .int .i64 (k : Int)]) (ys := [⟨3, (i : Int), (k : Int)⟩]) (fun _ => rfl) rfl (Nat.le_of_ble_eq_true rfl) rfl)) (hS16.entH 0 rfl) rfl rfl rfl sl61 ze108 rfl (by simp only [List.length_append, List.length_cons, List.length_nil, maxLen]; omega) (by simp only [List.length_append, List.length_cons, List.length_nil, maxLen]; omega)) fun u17 en18 W19 ⟨hS20, ho21⟩ => ?_
   refine sqv (ex_assign (v := u17) rfl) ?_
   refine blk_normal ?_
   show C _ _ _ _ _ _
   refine C_region ?_
   refine sqv (ex_move (v := .int .i64 (k : Int)) rfl) ?_
   refine nm ((k : Int) + 1) fun x22 hx22 => ?_
   refine sqv (ex_add (x := (k : Int)) (y := 1) rfl rfl (w64 hx22 (by omega))) ?_
   refine sqv (ex_assign (v := .int .i64 x22) rfl) ?_
   exact ⟨_, (by omega), ⟨_, (k + 1), u17, en18, (o2 ++ ([⟨3, (i : Int), (k : Int)⟩])), rfl, act_upds ⟨(congrArg (Value.int .i64) (by first | rfl | omega)), (congrArg (Value.int .i64) (by first | rfl | omega)), rfl, rfl, rfl, (congrArg (Value.int .i64) (by first | rfl | omega)), (congrArg (Value.int .i64) (by first | rfl | omega)), trivial⟩, (St.pick (L := [some (b14, .cells #[.int .i64 3, .int .i64 (i : Int), .int .i64 (k : Int)] 108), en18]) hS20 [1] (by decide)), (by omega), ho21, (by first | (rw [ho2, prRow, if_neg (fun h => absurd h.2 (by omega)), List.append_assoc]) | (rw [ho2, prRow, if_pos ⟨rfl, (by omega)⟩, List.append_nil]) | (rw [ho2, prRow, if_neg (by simp), List.append_assoc]))⟩⟩
  refine C_exit ?_
  refine thn_exit ?_
  refine thn_exit ?_
  refine blk_exit ?_
  refine blk_normal ?_
  show C _ _ _ _ _ _
  refine C_region ?_
  refine sqv (ex_move (v := .int .i64 (i : Int)) rfl) ?_
  refine nm ((i : Int) + 1) fun x23 hx23 => ?_
  refine sqv (ex_add (x := (i : Int)) (y := 1) rfl rfl (w64 hx23 (by omega))) ?_
  refine sqv (ex_assign (v := .int .i64 x23) rfl) ?_
  exact ⟨_, (by omega), ⟨_, (i + 1), v2, en2, o2, rfl, act_upds ⟨(congrArg (Value.int .i64) (by first | rfl | omega)), (congrArg (Value.int .i64) (by first | rfl | omega)), rfl, rfl, rfl, (congrArg (Value.int .i64) (by first | rfl | omega)), trivial⟩, (St.pick (L := [en2]) hS10 [0] (by decide)), (by omega), hO2, (by rw [ho2, ho, show k = m from by omega, prEv])⟩⟩
 refine C_exit ?_
 refine thn_exit ?_
 refine thn_exit ?_
 refine blk_exit ?_
 show C _ _ _ _ _ _
 refine C_sr ?_
 refine sqv (ex_move (v := v) rfl) ?_
 refine sqv (ex_assign (v := v) rfl) ?_
 show C _ _ _ _ _ _
 refine C_ret ?_
 refine done_1 (v := v) rfl rfl ?_
 obtain rfl : i = n := by omega
 have he := ho.symm
 exact ⟨_, _, rfl, by rw [he]; exact hO, St.pick (L := [en]) hS4 [0] (by decide)⟩
end Go.Proofs
end
