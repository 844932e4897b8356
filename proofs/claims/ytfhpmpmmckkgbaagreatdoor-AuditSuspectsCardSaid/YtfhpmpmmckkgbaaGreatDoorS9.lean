/- AuditSuspects holds: Suspects of the audit gives the same positions, or the same error, as the reference, for all arguments that the statement admits, with no further condition. Part 9 of 12. -/
import Derived.Test.YtfhpmpmmckkgbaaGreatDoorS8
set_option linter.unusedVariables false
set_option linter.unusedSimpArgs false
set_option linter.unusedSectionVars false
section
set_option linter.unusedVariables false
set_option linter.unusedSimpArgs false
set_option maxRecDepth 20000
set_option maxHeartbeats 2000000
namespace Go.Proofs
open Sc
theorem en23 : enters Tryz.prog 23 = true := by kernel_rfl
theorem en53 : enters Tryz.prog 53 = true := by kernel_rfl
theorem addKey_len (ks : List Int) (k : Int) : (addKey ks k).length = if k ∈ ks then ks.length else ks.length + 1 := by unfold addKey; split <;> simp
theorem kf_le : ∀ (xs acc : List Int), (xs.foldl addKey acc).length ≤ acc.length + xs.length
  | [], acc => Nat.le_refl _
  | x :: xs, acc => by
    have := kf_le xs (addKey acc x)
    have := addKey_len acc x
    simp only [List.foldl_cons, List.length_cons]
    split at this <;> omega
theorem kf_eq : ∀ (xs acc : List Int), (xs.foldl addKey acc).length = acc.length + xs.length ↔ xs.Nodup ∧ ∀ x ∈ xs, x ∉ acc
  | [], acc => by simp
  | x :: xs, acc => by
    simp only [List.foldl_cons, List.length_cons, List.nodup_cons]
    by_cases h : x ∈ acc
    · have h1 := kf_le xs acc
      rw [show addKey acc x = acc from if_pos h]
      constructor
      · intro h2; omega
      · rintro ⟨_, h2⟩; exact absurd h (h2 x List.mem_cons_self)
    · rw [show addKey acc x = acc ++ [x] from if_neg h]
      have ih := kf_eq xs (acc ++ [x])
      rw [List.length_append, List.length_singleton] at ih
      rw [show acc.length + (xs.length + 1) = acc.length + 1 + xs.length from by omega, ih]
      constructor
      · rintro ⟨h1, h2⟩
        refine ⟨⟨fun hx => h2 x hx (by simp), h1⟩, fun y hy => ?_⟩
        rcases List.mem_cons.1 hy with rfl | hy
        · exact h
        · exact fun hya => h2 y hy (by simp [hya])
      · rintro ⟨⟨h1, h2⟩, h3⟩
        refine ⟨h2, fun y hy => ?_⟩
        intro hya
        rcases List.mem_append.1 hya with hya | hya
        · exact h3 y (List.mem_cons_of_mem _ hy) hya
        · simp at hya; subst hya; exact h1 hy
theorem keys_lt (xs : List Int) : (keysOf' xs).length < xs.length ↔ ¬ xs.Nodup := by
 have h1 := kf_le xs []
 have h2 := kf_eq xs []
 unfold keysOf'
 simp only [List.length_nil, Nat.zero_add, List.not_mem_nil, not_false_eq_true, implies_true, and_true] at h1 h2
 rw [← h2]; omega
theorem ckEach_0 : ∀ {l : List Sh}, (∀ s ∈ l, ckSh s = 0) → ckEach l = 0
  | [], _ => rfl
  | a :: l, h => by rw [ckEach, if_neg (by simp [h a List.mem_cons_self])]; exact ckEach_0 fun s hs => h s (List.mem_cons_of_mem _ hs)
theorem ckShs_iff {l : List Sh} : ckShs l = 0 ↔ ∃ s0, l[0]? = some s0 ∧ (∀ s ∈ l, ckSh s = 0 ∧ s.f = s0.f ∧ s.t = s0.t ∧ s.n = s0.n) ∧ (idxL l).Nodup ∧ s0.t ≤ (l.length : Int) := by
 constructor
 ·intro h
  obtain ⟨s0, ha⟩ := acc_of h
  have hE : ckEach l = 0 := by
    unfold ckShs at h
    split at h
    · contradiction
    · omega
  have hK : ¬ (keysOf' (l.map (·.i))).length < l.length := by
    unfold ckShs at h
    rw [if_neg (by omega)] at h
    split at h
    · contradiction
    · split at h
      · contradiction
      · assumption
  refine ⟨s0, ha.h0, fun s hs => ?_, ?_, ha.t1.2.2⟩
  ·have h1 := ha.hd s hs
   have h2 := ha.hd s0 (List.mem_of_getElem? ha.h0)
   exact ⟨ckEach_all hE s hs, h1.1.trans h2.1.symm, h1.2.1, h1.2.2.1⟩
  have := keys_lt (idxL l)
  rw [idxL_len] at this
  exact Classical.byContradiction fun hn => hK (this.2 hn)
 rintro ⟨s0, h0, h1, h2, h3⟩
 have hE : ckEach l = 0 := ckEach_0 fun s hs => (h1 s hs).1
 unfold ckShs
 cases l with
 | nil => simp at h0
 | cons a l =>
   simp at h0; subst h0
   have hM : mixH (a :: l) = false := by
     refine List.any_eq_false.2 fun s hs => ?_
     have := (h1 s (List.mem_cons_of_mem _ hs)).2
     simp [sameH, this]
   have hK := keys_lt (idxL (a :: l))
   rw [idxL_len] at hK; unfold idxL at hK
   rw [if_neg (by omega), if_neg (by simp [hM]), if_neg fun hlt => (hK.1 hlt) h2]
   simp only; rw [if_neg (by omega)]
theorem idx_omit (l : List Sh) (i : Nat) : (idxL (omitL l i)).Sublist (idxL l) := by
 unfold idxL omitL
 refine List.Sublist.map _ ?_
 calc (l.take i ++ l.drop (i + 1)).Sublist (l.take i ++ l.drop i) := List.Sublist.append (List.Sublist.refl _) (by rw [show i + 1 = i + 1 from rfl, ← List.drop_drop]; exact List.drop_sublist _ _)
   _ = l := List.take_append_drop i l
theorem acc_omit {F : PrF} {l : List Sh} {s0 : Sh} (h : Acc F l s0) {i : Nat} (hi : i < l.length) (ht : s0.t < l.length) : ∃ z, Acc F (omitL l i) z ∧ z.t = s0.t ∧ z.p.length = s0.p.length := by
 have hlen := omit_len hi
 have h1 := h.t1
 obtain ⟨z, hz⟩ := get_lt (omitL l i) 0 (by omega)
 have hzm := omit_sub l i z (List.mem_of_getElem? hz)
 obtain ⟨s, hs0, hs1, hs2, hs3⟩ := ckShs_iff.1 h.ck
 have hzd := h.hd z hzm
 have hck : ckShs (omitL l i) = 0 := ckShs_iff.2 ⟨z, hz, fun x hx => by
   have hxm := omit_sub l i x hx
   have h2 := h.hd x hxm
   exact ⟨(hs1 x hxm).1, h2.1.trans hzd.1.symm, h2.2.1.trans hzd.2.1.symm, h2.2.2.1.trans hzd.2.2.1.symm⟩, (idx_omit l i).nodup hs2, by rw [hzd.2.1]; omega⟩
 obtain ⟨z', ha⟩ := acc_of hck
 obtain rfl : z = z' := Option.some.inj (hz.symm.trans ha.h0)
 rw [fieldOf'_eq h.ok hzd.1] at ha
 exact ⟨z, ha, hzd.2.1, hzd.2.2.2⟩
theorem sus_step {F : PrF} {l : List Sh} {K : Int} {m i : Nat} {o : List Int} (h : o = susL F l K m i) {t : Bool} (ht : conB F (omitL l i) K m = t) {o' : List Int} (ho : o' = if t then o ++ [(i : Int)] else o) : o' = susL F l K m (i + 1) := by
 rw [ho, susL, ht, h]; cases t <;> simp
theorem len_cS (x : Sh) : (cS x).length = 5 := rfl
theorem c_Suspects (F : PrF) (s0 : Sh) (s : Value) (l : List Sh) (Z0 : List Fact) (t : Value) (ev : List Ev) (Lt : List Ent) (w0 : World) (g0 : Acc F l s0) (g1 : ∀ s ∈ l, ∀ y ∈ s.p, y < B256) (g2 : l.length < 900) (g3 : s0.t < l.length) (g4 : ev.length + l.length * (s0.p.length * 2000000 + 1) < 1099511627776) (g5 : s0.p.length < 100000) (hZ0 : Holds w0 Z0) (hO0 : Off (bks Lt) Z0) (hs_s : Shs Z0 46 49 s l) (hG : Cells Z0 0 0 gC) (hT : Tp t ev Lt) (hL0 : St (bks Lt) w0 w0 Lt []) : Calls Tryz.prog 15 #[t, s] w0 (Ret fun uu w' => ∃ (v : Value), ∃ (en : Ent), ∃ (Lt' : List Ent), uu = .tuple #[v, .int .i64 0] ∧ (Own 3 1 cI v (susL F l s0.t s0.p.length (l).length) en) ∧ Tp t (ev ++ (sEv (l).length s0.t s0.p.length (l).length)) Lt' ∧ St (bks Lt) w0 w' ([en] ++ Lt') []) := by
 have hF := g0.ok
 have hlen := sl_lt (f := cS) (k := 5) (fun _ => rfl) (by decide) hs_s.1
 have hl0 : 0 < l.length := (List.getElem?_eq_some_iff.1 g0.h0).1
 have hs0 := (List.getElem?_eq_some_iff.1 g0.h0).2
 have h0m : s0 ∈ l := List.mem_of_getElem? g0.h0
 have h0f := (g0.hd s0 h0m).1
 have hpl0 := sl_lt (f := el) (k := 4) (fun _ => rfl) (by decide) (hs_s.2 s0 h0m)
 refine calls_of Tryz.func15 rfl Tryz.ntmps15 (Nat.le_of_ble_eq_true rfl) ?_
 have hS0 := hL0
 refine C_sr ?_
 refine sqv (ex_assign (v := .slice none 0 0) rfl) ?_
 refine sqv (ex_assign (v := .int .i64 0) rfl) ?_
 show C _ _ _ _ _ _
 refine C_seq ?_
 refine C_sr ?_
 refine sqv (ex_move (v := s) rfl) ?_
 refine sqc (exe_call (args := #[s]) en51 (args_of1 rfl)) (c_CheckShares s l Z0 w0 g1 (by omega) (hS0.holdsA hZ0 hO0) (hs_s) (hG)) ?_
 rintro _ W1 ⟨rfl, hT3⟩
 have hS2 := hS0.call hT3
 refine sqv (ex_assign (v := .int .i64 (ckShs l)) rfl) ?_
 show C _ _ _ _ _ _
 refine C_sr ?_
 refine sqv (ex_move (v := .int .i64 (ckShs l)) rfl) ?_
 refine sqv (ex_cmp (x := (ckShs l)) (y := 0) (r := decide ((ckShs l) ≠ 0)) rfl rfl rfl) ?_
 show C _ _ _ _ _ _
 refine C_dec ((ckShs l) ≠ 0) rfl (fun hc5 => ?_) (fun hc5 => ?_)
 ·exact absurd g0.ck (by assumption)
 refine C_skip ?_
 show C _ _ _ _ _ _
 refine C_seq ?_
 refine C_sr ?_
 refine sqv (ex_move (v := s) rfl) ?_
 refine sqv (ex_lenO (f := cS) (k := 5) (r := (l.length : Int)) (fun _ => rfl) (by decide) ((hs_s).1) rfl sl22 rfl) ?_
 refine sqv (ex_move (v := s) rfl) ?_
 obtain ⟨b6, o7, hI8, hC9⟩ := sl_at (f := cS) (k := 5) (fun _ => rfl) (by decide) ((hs_s).1) g0.h0
 refine sqv (ex_sindexO hI8 rfl rfl sl22 (by omega)) ?_
 refine sqv (ex_field (o' := (o7 + 1)) rfl fi46_1 rfl) ?_
 refine sqv (ex_loadC (r := 1) (u := .int .i64 s0.t) hC9 (hS2.holdsA hZ0 hO0) rfl on3 rfl rfl) ?_
 refine sqv (ex_cmp (x := (l.length : Int)) (y := s0.t) (r := decide ((l.length : Int) ≤ s0.t)) rfl rfl rfl) ?_
 show C _ _ _ _ _ _
 refine C_dec ((l.length : Int) ≤ s0.t) rfl (fun hc10 => ?_) (fun hc10 => ?_)
 ·exfalso; omega
 refine C_skip ?_
 show C _ _ _ _ _ _
 refine C_sr ?_
 refine sqv (ex_assign (v := .slice none 0 0) rfl) ?_
 show C _ _ _ _ _ _
 refine C_seq ?_
 refine C_sr ?_
 refine sqv (ex_move (v := s) rfl) ?_
 refine sqv (ex_lenO (f := cS) (k := 5) (r := (l.length : Int)) (fun _ => rfl) (by decide) ((hs_s).1) rfl sl22 rfl) ?_
 refine sqv (ex_move (v := .int .i64 0) rfl) ?_
 show C _ _ _ _ _ _
 refine C_block ?_
 have hS11 := St.non hS2
 refine C_loop (fun nn aa ww => ∃ (m0 : Nat → Value) (i : Nat) (v : Value) (en : Ent) (o : List Int) (Lu : List Ent), nn = l.length - i ∧ aa = act 55 (upds m0 [(0, t), (1, s), (4, .slice none 0 0), (5, .int .i64 0), (7, v), (25, .int .i64 (l.length : Int)), (26, .int .i64 (i : Int))]) [] ∧ St (bks Lt) w0 ww ([en] ++ Lu) [] ∧ (i ≤ l.length) ∧ (Own 3 1 cI v o en) ∧ (o = susL F l s0.t s0.p.length i) ∧ (Tp t (ev ++ sEv l.length s0.t s0.p.length i) Lu)) l.length ?_ ?_
 ·exact ⟨_, 0, (.slice none 0 0), none, [], Lt, rfl, act_upds ⟨rfl, rfl, rfl, (congrArg (Value.int .i64) (by first | rfl | omega)), rfl, (congrArg (Value.int .i64) (by first | rfl | omega)), (congrArg (Value.int .i64) (by first | rfl | omega)), trivial⟩, (St.pickB (Lf := [none]) hS11 [0] (by decide) rfl), (Nat.zero_le _), (Own.nil _ _ _), rfl, (by rw [show ∀ n K m, sEv n K m 0 = [] from fun _ _ _ => rfl, List.append_nil]; exact hT)⟩
 rintro n15 a16 W13 ⟨m12, i, v, en, o, Lu, rfl, rfl, hS14, hi, hO, ho, hUu⟩
 have hol : o.length ≤ i := by rw [ho]; exact susL_len _ _ _ _ _
 refine C_sr ?_
 refine sqv (ex_cmp (x := (i : Int)) (y := (l.length : Int)) (r := decide ((i : Int) < (l.length : Int))) rfl rfl rfl) ?_
 show C _ _ _ _ _ _
 refine C_seq ?_
 refine C_dec ((i : Int) < (l.length : Int)) rfl (fun hc17 => ?_) (fun hc17 => ?_)
 ·refine C_skip ?_
  show C _ _ _ _ _ _
  refine C_seq ?_
  refine C_block ?_
  refine C_sr ?_
  refine sqv (ex_move (v := .int .i64 (i : Int)) rfl) ?_
  refine sqv (ex_assign (v := .int .i64 (i : Int)) rfl) ?_
  show C _ _ _ _ _ _
  refine C_sr ?_
  refine sqv (ex_move (v := t) rfl) ?_
  refine sqv (ex_move (v := .int .i64 (i : Int)) rfl) ?_
  refine sqc (exe_call (args := #[t, .int .i64 5, .int .i64 (i : Int), .int .i64 0]) en52 (args_of4 rfl rfl rfl rfl)) (c_Note 5 (i : Int) 0 t (ev ++ sEv l.length s0.t s0.p.length i) Lu W13 (by have := sEv_len (n := l.length) (by omega) s0.t s0.p.length i; have h4 := Nat.mul_le_mul_right (s0.p.length * 2000000 + 1) (show i + 1 ≤ l.length by omega); rw [Nat.add_mul] at h4; simp only [List.length_append, List.length_cons, List.length_nil]; omega) hUu (St.lend (Lf := [en]) hS14)) ?_
  rintro _ W18 ⟨Lt22, rfl, hU23, hT20⟩
  have hS19 := St.callS (Lf := [en]) (Ln := []) hS14 hT20
  show C _ _ _ _ _ _
  refine C_seq ?_
  have hc24 := sl_cap (f := cS) (k := 5) (fun _ => rfl) (by decide) ((hs_s).1)
  refine nm (cutv s 5 0 i i) fun v26 hv26 => ?_
  have hs25 := sl_cutM (f := cS) (k := 5) (fun _ => rfl) (by decide) ((hs_s).1) 0 i i (by first | omega | (simp only [List.length_set, List.length_replicate, List.length_append, List.length_take, List.length_drop, List.length_cons, List.length_nil]; omega)) (by first | omega | (simp only [List.length_set, List.length_replicate, List.length_append, List.length_take, List.length_drop, List.length_cons, List.length_nil]; omega)) (by first | omega | (simp only [List.length_set, List.length_replicate, List.length_append, List.length_take, List.length_drop, List.length_cons, List.length_nil]; omega)) (by first | omega | (simp only [List.length_set, List.length_replicate, List.length_append, List.length_take, List.length_drop, List.length_cons, List.length_nil]; omega))
  rw [← hv26] at hs25
  rw [List.drop_zero] at hs25
  refine nm ((i : Int) + 1) fun x28 hx28 => ?_
  have hj29 : x28 = (((i + 1) : Nat) : Int) := by omega
  have hc30 := sl_cap (f := cS) (k := 5) (fun _ => rfl) (by decide) ((hs_s).1)
  refine nm (cutv s 5 (i + 1) l.length (capv s)) fun v32 hv32 => ?_
  have hs31 := sl_cutM (f := cS) (k := 5) (fun _ => rfl) (by decide) ((hs_s).1) (i + 1) l.length (capv s) (by first | omega | (simp only [List.length_set, List.length_replicate, List.length_append, List.length_take, List.length_drop, List.length_cons, List.length_nil]; omega)) (by first | omega | (simp only [List.length_set, List.length_replicate, List.length_append, List.length_take, List.length_drop, List.length_cons, List.length_nil]; omega)) (by first | omega | (simp only [List.length_set, List.length_replicate, List.length_append, List.length_take, List.length_drop, List.length_cons, List.length_nil]; omega)) (by first | omega | (simp only [List.length_set, List.length_replicate, List.length_append, List.length_take, List.length_drop, List.length_cons, List.length_nil]; omega))
  rw [← hv32] at hs31
  rw [List.take_length] at hs31
  refine C_draw (p := 9) (l := [(some 32, s), (some 33, .int .i64 (i : Int)), (some 34, .int .i64 (i : Int)), (some 35, v26), (some 36, s), (some 37, .int .i64 (i : Int)), (some 38, .int .i64 x28), (some 39, v32), (some 40, undef)]) (G := [8]) (J := fun w => St (bks Lt) w0 w ([en] ++ Lt22) []) mixed ?_ (hS19.draw _)
  refine node1 9 [8] [] [] (by kernel_rfl) rfl rfl (nd rfl) rfl (by kernel_rfl) ?_ ?_ ?_
  ·intro S wd hSd
   refine ⟨n0 rfl rfl rfl (ex_move (v := s) rfl) rfl hSd, n0 rfl rfl rfl (ex_move (v := .int .i64 (i : Int)) rfl) rfl hSd, n0 rfl rfl rfl (ex_move (v := .int .i64 (i : Int)) rfl) rfl hSd, ?_, n0 rfl rfl rfl (ex_move (v := s) rfl) rfl hSd, n0 rfl rfl rfl (ex_move (v := .int .i64 (i : Int)) rfl) rfl hSd, n1 rfl rfl rfl rfl (fun hq5 => (ex_add (x := (i : Int)) (y := 1) (evS hq5 rfl rfl) rfl (w64 hx28 (by omega)))) rfl hSd, n2 rfl rfl rfl rfl (fun hq4 hq6 => (ex_cutE hv32 (f := cS) (k := 5) (l := (i + 1)) (hh := l.length) (m := (capv s)) (fun _ => rfl) (by decide) ((hs_s).1) (evS hq4 rfl rfl) sl22 ⟨_, _, (evS hq6 rfl rfl), (by omega)⟩ rfl rfl (by decide) (by first | omega | (simp only [List.length_set, List.length_replicate, List.length_append, List.length_take, List.length_drop, List.length_cons, List.length_nil]; omega)) (by first | omega | (simp only [List.length_set, List.length_replicate, List.length_append, List.length_take, List.length_drop, List.length_cons, List.length_nil]; omega)) (by first | omega | (simp only [List.length_set, List.length_replicate, List.length_append, List.length_take, List.length_drop, List.length_cons, List.length_nil]; omega)) (by first | omega | (simp only [List.length_set, List.length_replicate, List.length_append, List.length_take, List.length_drop, List.length_cons, List.length_nil]; omega)))) rfl hSd, sG rfl, tt⟩
   refine needG rfl ?_
   rintro ⟨hq0, hq1, hq2, _⟩ hno
   exact dx (wanted_none rfl) rfl (ex_cutE hv26 (f := cS) (k := 5) (l := 0) (hh := i) (m := i) (fun _ => rfl) (by decide) ((hs_s).1) (evS hq0 rfl rfl) sl22 rfl ⟨_, _, (evS hq1 rfl rfl), rfl⟩ ⟨_, _, (evS hq2 rfl rfl), rfl⟩ (by decide) (by first | omega | (simp only [List.length_set, List.length_replicate, List.length_append, List.length_take, List.length_drop, List.length_cons, List.length_nil]; omega)) (by first | omega | (simp only [List.length_set, List.length_replicate, List.length_append, List.length_take, List.length_drop, List.length_cons, List.length_nil]; omega)) (by first | omega | (simp only [List.length_set, List.length_replicate, List.length_append, List.length_take, List.length_drop, List.length_cons, List.length_nil]; omega)) (by first | omega | (simp only [List.length_set, List.length_replicate, List.length_append, List.length_take, List.length_drop, List.length_cons, List.length_nil]; omega))) ⟨rfl, hSd⟩
  ·intro S wd hSd
   refine ⟨tt, tt, tt, tt, tt, tt, tt, tt, ?_, tt⟩
   refine needH rfl ?_
   rintro ⟨hq3, hq7, _⟩ hno
   refine dxA (wanted_none rfl) rfl (st_appendO hSd ((hs_s).cut hs25 (fun z hz => List.mem_of_mem_take hz)).1 ((hs_s).cut hs31 (fun z hz => List.mem_of_mem_drop hz)).1 (hSd.holdsA hZ0 hO0) (fun a n c h => by have := capv_cut hs_s.1 0 i i (Nat.zero_le _) (Nat.le_refl _) (hv26.symm.trans h); omega) (evS hq3 rfl rfl) (evS hq7 rfl rfl) sl22 ze46 rfl (by decide) (l.length - 1) (by simp only [List.length_append, fm_length len_cS, List.length_take, List.length_drop]; omega) (by omega) (by simp only [maxLen]; omega)) fun u34 en35 W36 ⟨hS37, ho38⟩ => ?_
   refine ⟨fun w => St (bks Lt) w0 w ([en35, en] ++ Lt22) [], [(some 32, s), (some 33, .int .i64 (i : Int)), (some 34, .int .i64 (i : Int)), (some 35, v26), (some 36, s), (some 37, .int .i64 (i : Int)), (some 38, .int .i64 x28), (some 39, v32), (some 40, u34)], [], hS37, by kernel_rfl, ⟨rfl, rfl, rfl, rfl, rfl, rfl, rfl, rfl, rfl, rfl, rfl, rfl, rfl, rfl, rfl, rfl, rfl, True.intro, True.intro⟩, rfl, ?_⟩
   show Sc.Node _ _ _ _ _ _ _ 9 [(some 32, s), (some 33, .int .i64 (i : Int)), (some 34, .int .i64 (i : Int)), (some 35, v26), (some 36, s), (some 37, .int .i64 (i : Int)), (some 38, .int .i64 x28), (some 39, v32), (some 40, u34)] [] [8] _
   refine node1 9 [] [8] [] (by kernel_rfl) rfl rfl (nd rfl) rfl (by kernel_rfl) ?_ ?_ ?_
   ·intro S wd hSd
    refine ⟨n0 rfl rfl rfl (ex_move (v := s) rfl) rfl hSd, n0 rfl rfl rfl (ex_move (v := .int .i64 (i : Int)) rfl) rfl hSd, n0 rfl rfl rfl (ex_move (v := .int .i64 (i : Int)) rfl) rfl hSd, ?_, n0 rfl rfl rfl (ex_move (v := s) rfl) rfl hSd, n0 rfl rfl rfl (ex_move (v := .int .i64 (i : Int)) rfl) rfl hSd, n1 rfl rfl rfl rfl (fun hq5 => (ex_add (x := (i : Int)) (y := 1) (evS hq5 rfl rfl) rfl (w64 hx28 (by omega)))) rfl hSd, n2 rfl rfl rfl rfl (fun hq4 hq6 => (ex_cutE hv32 (f := cS) (k := 5) (l := (i + 1)) (hh := l.length) (m := (capv s)) (fun _ => rfl) (by decide) ((hs_s).1) (evS hq4 rfl rfl) sl22 ⟨_, _, (evS hq6 rfl rfl), (by omega)⟩ rfl rfl (by decide) (by first | omega | (simp only [List.length_set, List.length_replicate, List.length_append, List.length_take, List.length_drop, List.length_cons, List.length_nil]; omega)) (by first | omega | (simp only [List.length_set, List.length_replicate, List.length_append, List.length_take, List.length_drop, List.length_cons, List.length_nil]; omega)) (by first | omega | (simp only [List.length_set, List.length_replicate, List.length_append, List.length_take, List.length_drop, List.length_cons, List.length_nil]; omega)) (by first | omega | (simp only [List.length_set, List.length_replicate, List.length_append, List.length_take, List.length_drop, List.length_cons, List.length_nil]; omega)))) rfl hSd, sG rfl, tt⟩
    refine needG rfl ?_
    rintro ⟨hq0, hq1, hq2, _⟩ hno
    exact dx (wanted_none rfl) rfl (ex_cutE hv26 (f := cS) (k := 5) (l := 0) (hh := i) (m := i) (fun _ => rfl) (by decide) ((hs_s).1) (evS hq0 rfl rfl) sl22 rfl ⟨_, _, (evS hq1 rfl rfl), rfl⟩ ⟨_, _, (evS hq2 rfl rfl), rfl⟩ (by decide) (by first | omega | (simp only [List.length_set, List.length_replicate, List.length_append, List.length_take, List.length_drop, List.length_cons, List.length_nil]; omega)) (by first | omega | (simp only [List.length_set, List.length_replicate, List.length_append, List.length_take, List.length_drop, List.length_cons, List.length_nil]; omega)) (by first | omega | (simp only [List.length_set, List.length_replicate, List.length_append, List.length_take, List.length_drop, List.length_cons, List.length_nil]; omega)) (by first | omega | (simp only [List.length_set, List.length_replicate, List.length_append, List.length_take, List.length_drop, List.length_cons, List.length_nil]; omega))) ⟨rfl, hSd⟩
   ·exact fun S wd hSd => ⟨True.intro, True.intro, True.intro, True.intro, True.intro, True.intro, True.intro, True.intro, True.intro, True.intro⟩
   intro _ W39 hS40
   refine sqv (ex_assign (v := u34) rfl) ?_
   show C _ _ _ _ _ _
   refine C_sr ?_
   refine sqv (ex_move (v := t) rfl) ?_
   refine sqv (ex_move (v := u34) rfl) ?_
   refine sqc_in (exe_call (args := #[u34]) en53 (args_of1 rfl)) fun R41 hR42 => ?_
   refine calls_of Tryz.func53 rfl Tryz.ntmps53 (Nat.le_of_ble_eq_true rfl) ?_
   refine C_sr ?_
   refine sqv (ex_assign (v := .slice none 0 0) rfl) ?_
   show C _ _ _ _ _ _
   refine C_sr ?_
   refine sqv (ex_move (v := u34) rfl) ?_
   refine sqv (ex_move (v := u34) rfl) ?_
   refine sqv (ex_lenO (f := cS) (k := 5) (r := ((omitL l i).length : Int)) (fun _ => rfl) (by decide) (((show Shs (entF en35 ++ Z0) 46 49 u34 (omitL l i) from shs_app ((hs_s).cut hs25 (fun z hz => List.mem_of_mem_take hz)) ((hs_s).cut hs31 (fun z hz => List.mem_of_mem_drop hz)) ho38)).1) rfl sl22 rfl) ?_
   refine sqv (ex_move (v := u34) rfl) ?_
   refine sqv (ex_lenO (f := cS) (k := 5) (r := ((omitL l i).length : Int)) (fun _ => rfl) (by decide) (((show Shs (entF en35 ++ Z0) 46 49 u34 (omitL l i) from shs_app ((hs_s).cut hs25 (fun z hz => List.mem_of_mem_take hz)) ((hs_s).cut hs31 (fun z hz => List.mem_of_mem_drop hz)) ho38)).1) rfl sl22 rfl) ?_
   have hc43 := sl_cap (f := cS) (k := 5) (fun _ => rfl) (by decide) (((show Shs (entF en35 ++ Z0) 46 49 u34 (omitL l i) from shs_app ((hs_s).cut hs25 (fun z hz => List.mem_of_mem_take hz)) ((hs_s).cut hs31 (fun z hz => List.mem_of_mem_drop hz)) ho38)).1)
   refine nm (cutv u34 5 0 ((omitL l i).length) ((omitL l i).length)) fun v45 hv45 => ?_
   have hs44 := sl_cutM (f := cS) (k := 5) (fun _ => rfl) (by decide) (((show Shs (entF en35 ++ Z0) 46 49 u34 (omitL l i) from shs_app ((hs_s).cut hs25 (fun z hz => List.mem_of_mem_take hz)) ((hs_s).cut hs31 (fun z hz => List.mem_of_mem_drop hz)) ho38)).1) 0 ((omitL l i).length) ((omitL l i).length) (by first | omega | (simp only [List.length_set, List.length_replicate, List.length_append, List.length_take, List.length_drop, List.length_cons, List.length_nil]; omega)) (by first | omega | (simp only [List.length_set, List.length_replicate, List.length_append, List.length_take, List.length_drop, List.length_cons, List.length_nil]; omega)) (by first | omega | (simp only [List.length_set, List.length_replicate, List.length_append, List.length_take, List.length_drop, List.length_cons, List.length_nil]; omega)) (by first | omega | (simp only [List.length_set, List.length_replicate, List.length_append, List.length_take, List.length_drop, List.length_cons, List.length_nil]; omega))
   rw [← hv45] at hs44
   rw [List.take_length] at hs44
   rw [List.drop_zero] at hs44
   refine sqv (ex_cutE hv45 (f := cS) (k := 5) (l := 0) (hh := ((omitL l i).length)) (m := ((omitL l i).length)) (fun _ => rfl) (by decide) (((show Shs (entF en35 ++ Z0) 46 49 u34 (omitL l i) from shs_app ((hs_s).cut hs25 (fun z hz => List.mem_of_mem_take hz)) ((hs_s).cut hs31 (fun z hz => List.mem_of_mem_drop hz)) ho38)).1) rfl sl22 rfl ⟨_, _, rfl, rfl⟩ ⟨_, _, rfl, rfl⟩ (by decide) (by first | omega | (simp only [List.length_set, List.length_replicate, List.length_append, List.length_take, List.length_drop, List.length_cons, List.length_nil]; omega)) (by first | omega | (simp only [List.length_set, List.length_replicate, List.length_append, List.length_take, List.length_drop, List.length_cons, List.length_nil]; omega)) (by first | omega | (simp only [List.length_set, List.length_replicate, List.length_append, List.length_take, List.length_drop, List.length_cons, List.length_nil]; omega)) (by first | omega | (simp only [List.length_set, List.length_replicate, List.length_append, List.length_take, List.length_drop, List.length_cons, List.length_nil]; omega))) ?_
   refine sqv (ex_assign (v := v45) rfl) ?_
   show C _ _ _ _ _ _
   refine C_ret ?_
   refine done_1 (v := v45) rfl rfl ?_
   refine hR42 _ _ ?_
   obtain ⟨z, hza, hzt, hzp⟩ := acc_omit g0 (show i < l.length by omega) (by omega)
   have hom := omit_len (show i < l.length by omega)
   refine sqc (exe_call (args := #[t, v45]) en23 (args_of2 rfl rfl)) (c_Consistent F z v45 (omitL l i) ((entF en35 ++ Z0) ++ Z0) t ((ev ++ sEv l.length s0.t s0.p.length i) ++ ([⟨5, (i : Int), 0⟩])) Lt22 W39 hza (fun s hs => g1 s (omit_sub l i s hs)) (by omega) (by have := sEv_len (n := l.length) (by omega) s0.t s0.p.length i; have h4 := Nat.mul_le_mul_right (s0.p.length * 2000000 + 1) (show i + 1 ≤ l.length by omega); rw [Nat.add_mul] at h4; rw [hzp]; simp only [List.length_append, List.length_cons, List.length_nil]; omega) (Holds.app (Holds.app (hS40.entH 0 rfl) (hS40.holdsA hZ0 hO0)) (hS40.holdsA hZ0 hO0)) (Off.app (Off.app (St.offE (Lf := [en35, en]) hS40 0 rfl) (St.off0 (Lf := [en35, en]) hS40 hZ0 hO0)) (St.off0 (Lf := [en35, en]) hS40 hZ0 hO0)) ((((show Shs (entF en35 ++ Z0) 46 49 u34 (omitL l i) from shs_app ((hs_s).cut hs25 (fun z hz => List.mem_of_mem_take hz)) ((hs_s).cut hs31 (fun z hz => List.mem_of_mem_drop hz)) ho38)).cut hs44 (fun z hz => hz)).mono fun _ hp => (List.mem_append_left _ hp)) ((hG).mono fun _ hp => (List.mem_append_right _ hp)) hU23 (St.lend (Lf := [en35, en]) hS40)) ?_
   rintro _ W47 ⟨Lt51, rfl, hU52, hT49⟩
   have hS48 := St.callS (Lf := [en35, en]) (Ln := []) hS40 hT49
   refine sqv (ex_move (v := .tuple #[.bool (conB F (omitL l i) z.t z.p.length), .int .i64 0]) rfl) ?_
   refine sqv (ex_extract (v := .bool (conB F (omitL l i) z.t z.p.length)) rfl rfl) ?_
   refine sqv (ex_extract (v := .int .i64 0) rfl rfl) ?_
   refine sqv (ex_assign (v := .bool (conB F (omitL l i) z.t z.p.length)) rfl) ?_
   refine sqv (ex_assign (v := .int .i64 0) rfl) ?_
   show C _ _ _ _ _ _
   refine C_sr ?_
   refine sqv (ex_move (v := .bool (conB F (omitL l i) z.t z.p.length)) rfl) ?_
   show C _ _ _ _ _ _
   refine C_if (t := conB F (omitL l i) z.t z.p.length) rfl (fun hc53 => ?_) (fun hc53 => ?_)
   ·refine C_region ?_
    refine sqv (ex_move (v := v) rfl) ?_
    refine sqv (ex_move (v := .int .i64 (i : Int)) rfl) ?_
    refine sqE (st_bslice (vs := [.int .i64 (i : Int)]) hS48 sl25 ze3 rfl (by simp [Value.cells]) rfl (by decide)) fun b54 W55 hS56 => ?_
    refine sqA (st_appendM (f := cI) (k := 1) (xs := o) (ys := [(i : Int)]) (fun _ => rfl) (fun _ => ones_of rfl) (by decide) 2 hS56 (hO) ((sl_row (f := cI) (k := 1) (t := 3) (b := b54) (n := 1) (cs := #[.int .i64 (i : Int)]) (ys := [(i : Int)]) (fun _ => rfl) rfl (Nat.le_of_ble_eq_true rfl) rfl)) (hS56.entH 0 rfl) rfl rfl rfl sl25 ze3 rfl (by simp only [List.length_append, List.length_cons, List.length_nil, maxLen]; omega) (by simp only [List.length_append, List.length_cons, List.length_nil, maxLen]; omega)) fun u57 en58 W59 ⟨hS60, ho61⟩ => ?_
    refine sqv (ex_assign (v := u57) rfl) ?_
    refine blk_normal ?_
    show C _ _ _ _ _ _
    refine C_region ?_
    refine nm ((i : Int) + 1) fun x62 hx62 => ?_
    refine sqv (ex_add (x := (i : Int)) (y := 1) rfl rfl (w64 hx62 (by omega))) ?_
    refine sqv (ex_move (v := .int .i64 x62) rfl) ?_
    exact ⟨_, (by omega), ⟨_, (i + 1), u57, en58, (o ++ ([(i : Int)])), Lt51, rfl, act_upds ⟨rfl, rfl, rfl, (congrArg (Value.int .i64) (by first | rfl | omega)), rfl, (congrArg (Value.int .i64) (by first | rfl | omega)), (congrArg (Value.int .i64) (by first | rfl | omega)), trivial⟩, (St.pickB (Lf := [some (b54, .cells #[.int .i64 (i : Int)] 3), en35, en58]) hS60 [2] (by decide) rfl), (by omega), ho61, (sus_step ho (t := true) (by rw [← hzt, ← hzp]; assumption) rfl), (by rw [sEv, show l.length - 1 = (omitL l i).length from by omega]; simpa only [hzt, hzp, List.append_assoc, List.cons_append, List.nil_append] using hU52)⟩⟩
   refine C_skip ?_
   refine blk_normal ?_
   show C _ _ _ _ _ _
   refine C_region ?_
   refine nm ((i : Int) + 1) fun x63 hx63 => ?_
   refine sqv (ex_add (x := (i : Int)) (y := 1) rfl rfl (w64 hx63 (by omega))) ?_
   refine sqv (ex_move (v := .int .i64 x63) rfl) ?_
   exact ⟨_, (by omega), ⟨_, (i + 1), v, en, o, Lt51, rfl, act_upds ⟨rfl, rfl, rfl, (congrArg (Value.int .i64) (by first | rfl | omega)), rfl, (congrArg (Value.int .i64) (by first | rfl | omega)), (congrArg (Value.int .i64) (by first | rfl | omega)), trivial⟩, (St.pickB (Lf := [en35, en]) hS48 [1] (by decide) rfl), (by omega), hO, (sus_step ho (t := false) (by rw [← hzt, ← hzp]; assumption) rfl), (by rw [sEv, show l.length - 1 = (omitL l i).length from by omega]; simpa only [hzt, hzp, List.append_assoc, List.cons_append, List.nil_append] using hU52)⟩⟩
  exact fun h => absurd h (by decide)
 refine C_exit ?_
 refine thn_exit ?_
 refine thn_exit ?_
 refine blk_exit ?_
 show C _ _ _ _ _ _
 refine C_sr ?_
 refine sqv (ex_move (v := v) rfl) ?_
 refine sqv (ex_assign (v := v) rfl) ?_
 refine sqv (ex_assign (v := .int .i64 0) rfl) ?_
 show C _ _ _ _ _ _
 refine C_ret ?_
 refine done_2 (v1 := v) (v2 := .int .i64 0) rfl rfl rfl ?_
 obtain rfl : i = l.length := by omega
 exact ⟨_, _, _, rfl, by rw [← ho]; exact hO, hUu, (St.pickB (Lf := [en]) hS14 [0] (by decide) rfl).less (fun _ h => absurd h (by simp))⟩
end Go.Proofs
end
section
set_option linter.unusedVariables false
set_option linter.unusedSimpArgs false
set_option maxRecDepth 20000
set_option maxHeartbeats 2000000
namespace Go.Proofs
open Sc
theorem c_Bit (a : Nat) (x : Int) (w0 : World) (g0 : 0 ≤ x ∧ x ≤ 255) : Calls Tryz.prog 102 #[elV a, .int .i64 x] w0 (Ret fun uu w' => uu = .int .u64 (bitN a (x).toNat : Int) ∧ St [] w0 w' [] []) := by
 refine calls_of Tryz.func102 rfl Tryz.ntmps102 (Nat.le_of_ble_eq_true rfl) ?_
 have hS0 := St.nil w0
 refine C_sr ?_
 refine sqE (st_box (v := elV a) (cs := (elA a)) hS0 rfl rfl) fun b1 W2 hS3 => ?_
 refine sqv (ex_assign (v := .int .u64 0) rfl) ?_
 show C _ _ _ _ _ _
 refine C_seq ?_
 refine C_sr ?_
 refine sqv (ex_move (v := .int .i64 x) rfl) ?_
 refine sqv (ex_cmp (x := x) (y := 255) (r := decide (255 < x)) rfl rfl rfl) ?_
 show C _ _ _ _ _ _
 refine C_dec (255 < x) rfl (fun hc4 => ?_) (fun hc4 => ?_)
 ·exfalso; omega
 refine C_skip ?_
 show C _ _ _ _ _ _
 refine C_sr ?_
 refine sqv (ex_move (v := .int .i64 x) rfl) ?_
 refine nm (x / 64) fun x5 hx5 => ?_
 refine sqv (ex_quo (x := x) (y := 64) rfl rfl (by omega) (w64q (hx5.trans (Int.tdiv_eq_ediv_of_nonneg (by omega)).symm) (by rw [Int.tdiv_eq_ediv_of_nonneg (by omega)]; omega))) ?_
 obtain ⟨j6, hj7⟩ := ex_nat x5 (by omega)
 refine sqv (ex_index (j := x5) (o' := j6 * 1) rfl rfl ar40 (by omega) (by omega) (by omega)) ?_
 obtain ⟨y8, hy9⟩ := get_lt ([limb a 0, limb a 1, limb a 2, limb a 3]) j6 (by first | omega | (simp only [List.length_set, List.length_replicate, List.length_append, List.length_take, List.length_drop, List.length_cons, List.length_nil, List.length_map]; omega))
 refine sqv (ex_loadM (f := cU) (i := j6) (fun _ => rfl) rfl (hS3.at 0 rfl) on39 rfl hy9 rfl) ?_
 have hyr : 0 ≤ y8 ∧ y8 < 18446744073709551616 := by rw [limbs4 hy9]; exact ⟨limb_nonneg _ _, limb_lt _ _⟩
 refine sqv (ex_assign (v := .int .u64 y8) rfl) ?_
 show C _ _ _ _ _ _
 refine C_seq ?_
 refine C_sr ?_
 refine sqv (ex_assign (v := .int .i64 0) rfl) ?_
 show C _ _ _ _ _ _
 refine C_block ?_
 refine C_loop (fun nn aa ww => ∃ (m0 : Nat → Value) (k : Nat) (w : Int), nn = x.toNat % 64 - k ∧ aa = act 23 (upds m0 [(1, .int .i64 x), (4, .int .u64 0), (5, .int .u64 w), (6, .int .i64 (k : Int))]) [] ∧ St [] w0 ww [some (b1, .cells (([limb a 0, limb a 1, limb a 2, limb a 3]).flatMap cU).toArray 40)] [] ∧ (k ≤ x.toNat % 64) ∧ (0 ≤ w ∧ w < 18446744073709551616) ∧ (w = y8 / (2 : Int) ^ k)) (x.toNat % 64) ?_ ?_
 ·exact ⟨_, 0, y8, rfl, act_upds ⟨(congrArg (Value.int .i64) (by first | rfl | omega)), (congrArg (Value.int .u64) (by first | rfl | omega)), (congrArg (Value.int .u64) (by first | rfl | omega)), (congrArg (Value.int .i64) (by first | rfl | omega)), trivial⟩, (St.pick (L := [some (b1, .cells (([limb a 0, limb a 1, limb a 2, limb a 3]).flatMap cU).toArray 40)]) hS3 [0] (by decide)), (Nat.zero_le _), hyr, (by rw [Int.pow_zero, Int.ediv_one])⟩
 rintro n13 a14 W11 ⟨m10, k, w, rfl, rfl, hS12, hk, hwr, hw⟩
 refine C_seq ?_
 refine C_sr ?_
 refine sqv (ex_move (v := .int .i64 (k : Int)) rfl) ?_
 refine sqv (ex_move (v := .int .i64 x) rfl) ?_
 refine nm (x % 64) fun x15 hx15 => ?_
 refine sqv (ex_rem (x := x) (y := 64) rfl rfl (by omega) (hx15.trans (Int.tmod_eq_emod_of_nonneg (by omega)).symm)) ?_
 refine sqv (ex_cmp (x := (k : Int)) (y := x15) (r := decide ((k : Int) < x15)) rfl rfl rfl) ?_
 show C _ _ _ _ _ _
 refine C_dec ((k : Int) < x15) rfl (fun hc16 => ?_) (fun hc16 => ?_)
 ·refine C_skip ?_
  show C _ _ _ _ _ _
  refine C_seq ?_
  refine C_block ?_
  refine C_region ?_
  refine sqv (ex_move (v := .int .u64 w) rfl) ?_
  refine nm (w / 2) fun x17 hx17 => ?_
  refine sqv (ex_quo (x := w) (y := 2) rfl rfl (by omega) (wuq hx17 (by omega) (by decide))) ?_
  refine sqv (ex_assign (v := .int .u64 x17) rfl) ?_
  refine blk_normal ?_
  show C _ _ _ _ _ _
  refine C_region ?_
  refine sqv (ex_move (v := .int .i64 (k : Int)) rfl) ?_
  refine nm ((k : Int) + 1) fun x18 hx18 => ?_
  refine sqv (ex_add (x := (k : Int)) (y := 1) rfl rfl (w64 hx18 (by omega))) ?_
  refine sqv (ex_assign (v := .int .i64 x18) rfl) ?_
  exact ⟨_, (by omega), ⟨_, (k + 1), x17, rfl, act_upds ⟨(congrArg (Value.int .i64) (by first | rfl | omega)), (congrArg (Value.int .u64) (by first | rfl | omega)), (congrArg (Value.int .u64) (by first | rfl | omega)), (congrArg (Value.int .i64) (by first | rfl | omega)), trivial⟩, (St.pick (L := [some (b1, .cells (([limb a 0, limb a 1, limb a 2, limb a 3]).flatMap cU).toArray 40)]) hS12 [0] (by decide)), (by omega), (by omega), (half_step hw hx17)⟩⟩
 refine C_exit ?_
 refine thn_exit ?_
 refine thn_exit ?_
 refine blk_exit ?_
 show C _ _ _ _ _ _
 refine C_sr ?_
 refine sqv (ex_move (v := .int .u64 w) rfl) ?_
 refine nm (w % 2) fun x19 hx19 => ?_
 refine sqv (ex_rem (x := w) (y := 2) rfl rfl (by omega) (hx19.trans (Int.tmod_eq_emod_of_nonneg (by omega)).symm)) ?_
 refine sqv (ex_assign (v := .int .u64 x19) rfl) ?_
 show C _ _ _ _ _ _
 refine C_ret ?_
 refine done_1 (v := .int .u64 x19) rfl rfl ?_
 exact ⟨congrArg _ (by rw [hx19]; exact bit_done (x := x.toNat) hy9 (by omega) (by omega) hw), (St.pick (L := [some (b1, .cells (([limb a 0, limb a 1, limb a 2, limb a 3]).flatMap cU).toArray 40)]) hS12 [] (by decide))⟩
theorem c_Sum (a : Nat) (b : Nat) (w0 : World) (g0 : a < B256) (g1 : b < B256) : Calls Tryz.prog 60 #[elV a, elV b] w0 (Ret fun uu w' => uu = .tuple #[elV (addN a b), .int .u64 (bI (decide (B256 ≤ a + b)))] ∧ St [] w0 w' [] []) := by
 refine calls_of Tryz.func60 rfl Tryz.ntmps60 (Nat.le_of_ble_eq_true rfl) ?_
 have hS0 := St.nil w0
 refine C_sr ?_
 refine sqE (st_box (v := elV a) (cs := (elA a)) hS0 rfl rfl) fun b1 W2 hS3 => ?_
 refine sqE (st_box (v := elV b) (cs := (elA b)) hS3 rfl rfl) fun b4 W5 hS6 => ?_
 refine sqE (st_alloc hS6 ze40) fun b7 W8 hS9 => ?_
 refine sqv (ex_assign (v := .int .u64 0) rfl) ?_
 show C _ _ _ _ _ _
 refine C_sr ?_
 refine sqE (st_alloc hS9 ze40) fun b10 W11 hS12 => ?_
 show C _ _ _ _ _ _
 refine C_sr ?_
 refine sqv (ex_assign (v := .int .u64 0) rfl) ?_
 show C _ _ _ _ _ _
 refine C_seq ?_
 refine C_sr ?_
 refine sqv (ex_assign (v := .int .i64 0) rfl) ?_
 show C _ _ _ _ _ _
 refine C_block ?_
 refine C_loop (fun nn aa ww => ∃ (m0 : Nat → Value) (k : Nat) (c : Int) (o : List Int), nn = 4 - k ∧ aa = act 38 (upds m0 [(2, pt b1), (3, pt b4), (4, pt b7), (5, .int .u64 0), (6, pt b10), (7, .int .u64 c), (8, .int .i64 (k : Int))]) [] ∧ St [] w0 ww [some (b10, .cells (o.flatMap cU).toArray 40), some (b7, .cells #[.int .u64 0, .int .u64 0, .int .u64 0, .int .u64 0] 40), some (b4, .cells (([limb b 0, limb b 1, limb b 2, limb b 3]).flatMap cU).toArray 40), some (b1, .cells (([limb a 0, limb a 1, limb a 2, limb a 3]).flatMap cU).toArray 40)] [] ∧ (k ≤ 4) ∧ (o.length = 4) ∧ (∀ z ∈ o, 0 ≤ z ∧ z < 18446744073709551616) ∧ (c = 0 ∨ c = 1) ∧ (lo o k + c * (18446744073709551616 : Int) ^ k = lo [limb a 0, limb a 1, limb a 2, limb a 3] k + lo [limb b 0, limb b 1, limb b 2, limb b 3] k)) 4 ?_ ?_
 ·exact ⟨_, 0, 0, [0, 0, 0, 0], rfl, act_upds ⟨rfl, rfl, rfl, (congrArg (Value.int .u64) (by first | rfl | omega)), rfl, (congrArg (Value.int .u64) (by first | rfl | omega)), (congrArg (Value.int .i64) (by first | rfl | omega)), trivial⟩, (St.pick (L := [some (b10, .cells (([0, 0, 0, 0]).flatMap cU).toArray 40), some (b7, .cells #[.int .u64 0, .int .u64 0, .int .u64 0, .int .u64 0] 40), some (b4, .cells (([limb b 0, limb b 1, limb b 2, limb b 3]).flatMap cU).toArray 40), some (b1, .cells (([limb a 0, limb a 1, limb a 2, limb a 3]).flatMap cU).toArray 40)]) hS12 [0, 1, 2, 3] (by decide)), (by decide), rfl, (by intro z hz; simp at hz; rw [hz]; decide), (by decide), rfl⟩
 rintro n16 a17 W14 ⟨m13, k, c, o, rfl, rfl, hS15, hk, hol, hor, hc, hs⟩
 refine C_seq ?_
 refine C_sr ?_
 refine sqv (ex_move (v := .int .i64 (k : Int)) rfl) ?_
 refine sqv (ex_cmp (x := (k : Int)) (y := 4) (r := decide ((k : Int) < 4)) rfl rfl rfl) ?_
 show C _ _ _ _ _ _
 refine C_dec ((k : Int) < 4) rfl (fun hc18 => ?_) (fun hc18 => ?_)
 ·refine C_skip ?_
  show C _ _ _ _ _ _
  refine C_seq ?_
  refine C_block ?_
  refine C_sr ?_
  refine sqv (ex_move (v := .int .i64 (k : Int)) rfl) ?_
  refine sqv (ex_index (j := (k : Int)) (o' := k * 1) rfl rfl ar40 (by omega) (by omega) (by omega)) ?_
  obtain ⟨y19, hy20⟩ := get_lt ([limb a 0, limb a 1, limb a 2, limb a 3]) k (by first | omega | (simp only [List.length_set, List.length_replicate, List.length_append, List.length_take, List.length_drop, List.length_cons, List.length_nil, List.length_map]; omega))
  have hky19 := limb_rng hy20
  refine sqv (ex_loadM (f := cU) (i := k) (fun _ => rfl) rfl (hS15.at 3 rfl) on39 rfl hy20 rfl) ?_
  refine sqv (ex_move (v := .int .u64 c) rfl) ?_
  refine nm ((y19 + c) % 18446744073709551616) fun x21 hx21 => ?_
  refine sqv (ex_add (x := y19) (y := c) rfl rfl (wu64 hx21)) ?_
  refine sqv (ex_assign (v := .int .u64 x21) rfl) ?_
  show C _ _ _ _ _ _
  refine C_sr ?_
  refine sqv (ex_assign (v := .int .u64 0) rfl) ?_
  show C _ _ _ _ _ _
  refine C_seq ?_
  refine C_sr ?_
  refine sqv (ex_move (v := .int .u64 x21) rfl) ?_
  refine sqv (ex_move (v := .int .u64 c) rfl) ?_
  refine sqv (ex_cmp (x := x21) (y := c) (r := decide (x21 < c)) rfl rfl rfl) ?_
  show C _ _ _ _ _ _
  refine C_dec (x21 < c) rfl (fun hc22 => ?_) (fun hc22 => ?_)
  ·refine C_region ?_
   refine sqv (ex_assign (v := .int .u64 1) rfl) ?_
   show C _ _ _ _ _ _
   refine C_sr ?_
   refine sqv (ex_move (v := .int .i64 (k : Int)) rfl) ?_
   refine sqv (ex_move (v := .int .u64 x21) rfl) ?_
   refine sqv (ex_move (v := .int .i64 (k : Int)) rfl) ?_
   refine sqv (ex_index (j := (k : Int)) (o' := k * 1) rfl rfl ar40 (by omega) (by omega) (by omega)) ?_
   obtain ⟨y23, hy24⟩ := get_lt ([limb b 0, limb b 1, limb b 2, limb b 3]) k (by first | omega | (simp only [List.length_set, List.length_replicate, List.length_append, List.length_take, List.length_drop, List.length_cons, List.length_nil, List.length_map]; omega))
   have hky23 := limb_rng hy24
   refine sqv (ex_loadM (f := cU) (i := k) (fun _ => rfl) rfl (hS15.at 2 rfl) on39 rfl hy24 rfl) ?_
   refine nm ((x21 + y23) % 18446744073709551616) fun x25 hx25 => ?_
   refine sqv (ex_add (x := x21) (y := y23) rfl rfl (wu64 hx25)) ?_
   refine sqv (ex_index (j := (k : Int)) (o' := k * 1) rfl rfl ar40 (by omega) (by omega) (by omega)) ?_
   refine sqUE (st_storeM (f := cU) (z := x25) (i' := k) (fun _ => rfl) 0 hS15 rfl rfl rfl on39 rfl (by first | omega | (simp only [List.length_set, List.length_replicate, List.length_append, List.length_take, List.length_drop]; omega)) rfl rfl rfl) fun W26 hS27 => ?_
   show C _ _ _ _ _ _
   refine C_seq ?_
   refine C_sr ?_
   refine sqv (ex_move (v := .int .i64 (k : Int)) rfl) ?_
   refine sqv (ex_index (j := (k : Int)) (o' := k * 1) rfl rfl ar40 (by omega) (by omega) (by omega)) ?_
   obtain ⟨y28, hy29⟩ := get_lt (o.set k x25) k (by first | omega | (simp only [List.length_set, List.length_replicate, List.length_append, List.length_take, List.length_drop, List.length_cons, List.length_nil, List.length_map]; omega))
   have hky28 := setk_get (by omega) hy29
   refine sqv (ex_loadM (f := cU) (i := k) (fun _ => rfl) rfl (hS27.at 0 rfl) on39 rfl hy29 rfl) ?_
   refine sqv (ex_move (v := .int .u64 x21) rfl) ?_
   refine sqv (ex_cmp (x := y28) (y := x21) (r := decide (y28 < x21)) rfl rfl rfl) ?_
   show C _ _ _ _ _ _
   refine C_dec (y28 < x21) rfl (fun hc30 => ?_) (fun hc30 => ?_)
   ·refine C_region ?_
    refine sqv (ex_assign (v := .int .u64 1) rfl) ?_
    show C _ _ _ _ _ _
    refine C_region ?_
    refine sqv (ex_move (v := .int .u64 1) rfl) ?_
    refine sqv (ex_assign (v := .int .u64 1) rfl) ?_
    refine blk_normal ?_
    show C _ _ _ _ _ _
    refine C_region ?_
    refine sqv (ex_move (v := .int .i64 (k : Int)) rfl) ?_
    refine nm ((k : Int) + 1) fun x31 hx31 => ?_
    refine sqv (ex_add (x := (k : Int)) (y := 1) rfl rfl (w64 hx31 (by omega))) ?_
    refine sqv (ex_assign (v := .int .i64 x31) rfl) ?_
    exact ⟨_, (by omega), ⟨_, (k + 1), 1, (o.set k x25), rfl, act_upds ⟨rfl, rfl, rfl, (congrArg (Value.int .u64) (by first | rfl | omega)), rfl, (congrArg (Value.int .u64) (by first | rfl | omega)), (congrArg (Value.int .i64) (by first | rfl | omega)), trivial⟩, (St.pick (L := [some (b10, .cells ((o.set k x25).flatMap cU).toArray 40), some (b7, .cells #[.int .u64 0, .int .u64 0, .int .u64 0, .int .u64 0] 40), some (b4, .cells (([limb b 0, limb b 1, limb b 2, limb b 3]).flatMap cU).toArray 40), some (b1, .cells (([limb a 0, limb a 1, limb a 2, limb a 3]).flatMap cU).toArray 40)]) hS27 [0, 1, 2, 3] (by decide)), (by omega), (by rw [List.length_set]; exact hol), (all_setI hor (by omega)), (by omega), (sum_step hs hy20 hy24 (by omega) (by omega))⟩⟩
   refine C_skip ?_
   show C _ _ _ _ _ _
   refine C_region ?_
   refine sqv (ex_move (v := .int .u64 1) rfl) ?_
   refine sqv (ex_assign (v := .int .u64 1) rfl) ?_
   refine blk_normal ?_
   show C _ _ _ _ _ _
   refine C_region ?_
   refine sqv (ex_move (v := .int .i64 (k : Int)) rfl) ?_
   refine nm ((k : Int) + 1) fun x32 hx32 => ?_
   refine sqv (ex_add (x := (k : Int)) (y := 1) rfl rfl (w64 hx32 (by omega))) ?_
   refine sqv (ex_assign (v := .int .i64 x32) rfl) ?_
   exact ⟨_, (by omega), ⟨_, (k + 1), 1, (o.set k x25), rfl, act_upds ⟨rfl, rfl, rfl, (congrArg (Value.int .u64) (by first | rfl | omega)), rfl, (congrArg (Value.int .u64) (by first | rfl | omega)), (congrArg (Value.int .i64) (by first | rfl | omega)), trivial⟩, (St.pick (L := [some (b10, .cells ((o.set k x25).flatMap cU).toArray 40), some (b7, .cells #[.int .u64 0, .int .u64 0, .int .u64 0, .int .u64 0] 40), some (b4, .cells (([limb b 0, limb b 1, limb b 2, limb b 3]).flatMap cU).toArray 40), some (b1, .cells (([limb a 0, limb a 1, limb a 2, limb a 3]).flatMap cU).toArray 40)]) hS27 [0, 1, 2, 3] (by decide)), (by omega), (by rw [List.length_set]; exact hol), (all_setI hor (by omega)), (by omega), (sum_step hs hy20 hy24 (by omega) (by omega))⟩⟩
  refine C_skip ?_
  show C _ _ _ _ _ _
  refine C_sr ?_
  refine sqv (ex_move (v := .int .i64 (k : Int)) rfl) ?_
  refine sqv (ex_move (v := .int .u64 x21) rfl) ?_
  refine sqv (ex_move (v := .int .i64 (k : Int)) rfl) ?_
  refine sqv (ex_index (j := (k : Int)) (o' := k * 1) rfl rfl ar40 (by omega) (by omega) (by omega)) ?_
  obtain ⟨y33, hy34⟩ := get_lt ([limb b 0, limb b 1, limb b 2, limb b 3]) k (by first | omega | (simp only [List.length_set, List.length_replicate, List.length_append, List.length_take, List.length_drop, List.length_cons, List.length_nil, List.length_map]; omega))
  have hky33 := limb_rng hy34
  refine sqv (ex_loadM (f := cU) (i := k) (fun _ => rfl) rfl (hS15.at 2 rfl) on39 rfl hy34 rfl) ?_
  refine nm ((x21 + y33) % 18446744073709551616) fun x35 hx35 => ?_
  refine sqv (ex_add (x := x21) (y := y33) rfl rfl (wu64 hx35)) ?_
  refine sqv (ex_index (j := (k : Int)) (o' := k * 1) rfl rfl ar40 (by omega) (by omega) (by omega)) ?_
  refine sqUE (st_storeM (f := cU) (z := x35) (i' := k) (fun _ => rfl) 0 hS15 rfl rfl rfl on39 rfl (by first | omega | (simp only [List.length_set, List.length_replicate, List.length_append, List.length_take, List.length_drop]; omega)) rfl rfl rfl) fun W36 hS37 => ?_
  show C _ _ _ _ _ _
  refine C_seq ?_
  refine C_sr ?_
  refine sqv (ex_move (v := .int .i64 (k : Int)) rfl) ?_
  refine sqv (ex_index (j := (k : Int)) (o' := k * 1) rfl rfl ar40 (by omega) (by omega) (by omega)) ?_
  obtain ⟨y38, hy39⟩ := get_lt (o.set k x35) k (by first | omega | (simp only [List.length_set, List.length_replicate, List.length_append, List.length_take, List.length_drop, List.length_cons, List.length_nil, List.length_map]; omega))
  have hky38 := setk_get (by omega) hy39
  refine sqv (ex_loadM (f := cU) (i := k) (fun _ => rfl) rfl (hS37.at 0 rfl) on39 rfl hy39 rfl) ?_
  refine sqv (ex_move (v := .int .u64 x21) rfl) ?_
  refine sqv (ex_cmp (x := y38) (y := x21) (r := decide (y38 < x21)) rfl rfl rfl) ?_
  show C _ _ _ _ _ _
  refine C_dec (y38 < x21) rfl (fun hc40 => ?_) (fun hc40 => ?_)
  ·refine C_region ?_
   refine sqv (ex_assign (v := .int .u64 1) rfl) ?_
   show C _ _ _ _ _ _
   refine C_region ?_
   refine sqv (ex_move (v := .int .u64 1) rfl) ?_
   refine sqv (ex_assign (v := .int .u64 1) rfl) ?_
   refine blk_normal ?_
   show C _ _ _ _ _ _
   refine C_region ?_
   refine sqv (ex_move (v := .int .i64 (k : Int)) rfl) ?_
   refine nm ((k : Int) + 1) fun x41 hx41 => ?_
   refine sqv (ex_add (x := (k : Int)) (y := 1) rfl rfl (w64 hx41 (by omega))) ?_
   refine sqv (ex_assign (v := .int .i64 x41) rfl) ?_
   exact ⟨_, (by omega), ⟨_, (k + 1), 1, (o.set k x35), rfl, act_upds ⟨rfl, rfl, rfl, (congrArg (Value.int .u64) (by first | rfl | omega)), rfl, (congrArg (Value.int .u64) (by first | rfl | omega)), (congrArg (Value.int .i64) (by first | rfl | omega)), trivial⟩, (St.pick (L := [some (b10, .cells ((o.set k x35).flatMap cU).toArray 40), some (b7, .cells #[.int .u64 0, .int .u64 0, .int .u64 0, .int .u64 0] 40), some (b4, .cells (([limb b 0, limb b 1, limb b 2, limb b 3]).flatMap cU).toArray 40), some (b1, .cells (([limb a 0, limb a 1, limb a 2, limb a 3]).flatMap cU).toArray 40)]) hS37 [0, 1, 2, 3] (by decide)), (by omega), (by rw [List.length_set]; exact hol), (all_setI hor (by omega)), (by omega), (sum_step hs hy20 hy34 (by omega) (by omega))⟩⟩
  refine C_skip ?_
  show C _ _ _ _ _ _
  refine C_region ?_
  refine sqv (ex_move (v := .int .u64 0) rfl) ?_
  refine sqv (ex_assign (v := .int .u64 0) rfl) ?_
  refine blk_normal ?_
  show C _ _ _ _ _ _
  refine C_region ?_
  refine sqv (ex_move (v := .int .i64 (k : Int)) rfl) ?_
  refine nm ((k : Int) + 1) fun x42 hx42 => ?_
  refine sqv (ex_add (x := (k : Int)) (y := 1) rfl rfl (w64 hx42 (by omega))) ?_
  refine sqv (ex_assign (v := .int .i64 x42) rfl) ?_
  exact ⟨_, (by omega), ⟨_, (k + 1), 0, (o.set k x35), rfl, act_upds ⟨rfl, rfl, rfl, (congrArg (Value.int .u64) (by first | rfl | omega)), rfl, (congrArg (Value.int .u64) (by first | rfl | omega)), (congrArg (Value.int .i64) (by first | rfl | omega)), trivial⟩, (St.pick (L := [some (b10, .cells ((o.set k x35).flatMap cU).toArray 40), some (b7, .cells #[.int .u64 0, .int .u64 0, .int .u64 0, .int .u64 0] 40), some (b4, .cells (([limb b 0, limb b 1, limb b 2, limb b 3]).flatMap cU).toArray 40), some (b1, .cells (([limb a 0, limb a 1, limb a 2, limb a 3]).flatMap cU).toArray 40)]) hS37 [0, 1, 2, 3] (by decide)), (by omega), (by rw [List.length_set]; exact hol), (all_setI hor (by omega)), (by omega), (sum_step hs hy20 hy34 (by omega) (by omega))⟩⟩
 refine C_exit ?_
 refine thn_exit ?_
 refine thn_exit ?_
 refine blk_exit ?_
 show C _ _ _ _ _ _
 refine C_sr ?_
 obtain rfl : k = 4 := by omega
 obtain ⟨ho4, hc4⟩ := sum_done g0 g1 hol hor hc hs
 subst ho4
 subst hc4
 refine sqv (ex_loads (vs := (el (addN a b))) rfl (hS15.at 0 rfl) ag40 rfl rfl) ?_
 refine sqv (ex_move (v := .int .u64 (bI (decide (B256 ≤ a + b)))) rfl) ?_
 refine sqUE (st_stores (v := elV (addN a b)) (cs' := (elA (addN a b))) 1 hS15 rfl rfl rfl ag40 rfl (Nat.le_of_ble_eq_true rfl) (ones_of rfl) rfl) fun W43 hS44 => ?_
 refine sqv (ex_assign (v := .int .u64 (bI (decide (B256 ≤ a + b)))) rfl) ?_
 show C _ _ _ _ _ _
 refine C_ret ?_
 refine done_2 (v1 := elV (addN a b)) (v2 := .int .u64 (bI (decide (B256 ≤ a + b)))) rfl (res_row rfl (hS44.at 1 rfl) ag40 rfl) rfl ?_
 exact ⟨rfl, hS44.none⟩
theorem c_sub (a : Nat) (b : Nat) (w0 : World) (g0 : a < B256) (g1 : b < B256) : Calls Tryz.prog 103 #[elV a, elV b] w0 (Ret fun uu w' => uu = .tuple #[elV (subN a b), .int .u64 (bI (decide (a < b)))] ∧ St [] w0 w' [] []) := by
 refine calls_of Tryz.func103 rfl Tryz.ntmps103 (Nat.le_of_ble_eq_true rfl) ?_
 have hS0 := St.nil w0
 refine C_sr ?_
 refine sqE (st_box (v := elV a) (cs := (elA a)) hS0 rfl rfl) fun b1 W2 hS3 => ?_
 refine sqE (st_box (v := elV b) (cs := (elA b)) hS3 rfl rfl) fun b4 W5 hS6 => ?_
 refine sqE (st_alloc hS6 ze40) fun b7 W8 hS9 => ?_
 refine sqv (ex_assign (v := .int .u64 0) rfl) ?_
 show C _ _ _ _ _ _
 refine C_sr ?_
 refine sqE (st_alloc hS9 ze40) fun b10 W11 hS12 => ?_
 show C _ _ _ _ _ _
 refine C_sr ?_
 refine sqv (ex_assign (v := .int .u64 0) rfl) ?_
 show C _ _ _ _ _ _
 refine C_seq ?_
 refine C_sr ?_
 refine sqv (ex_assign (v := .int .i64 0) rfl) ?_
 show C _ _ _ _ _ _
 refine C_block ?_
 refine C_loop (fun nn aa ww => ∃ (m0 : Nat → Value) (k : Nat) (c : Int) (o : List Int), nn = 4 - k ∧ aa = act 46 (upds m0 [(2, pt b1), (3, pt b4), (4, pt b7), (5, .int .u64 0), (6, pt b10), (7, .int .u64 c), (8, .int .i64 (k : Int))]) [] ∧ St [] w0 ww [some (b10, .cells (o.flatMap cU).toArray 40), some (b7, .cells #[.int .u64 0, .int .u64 0, .int .u64 0, .int .u64 0] 40), some (b4, .cells (([limb b 0, limb b 1, limb b 2, limb b 3]).flatMap cU).toArray 40), some (b1, .cells (([limb a 0, limb a 1, limb a 2, limb a 3]).flatMap cU).toArray 40)] [] ∧ (k ≤ 4) ∧ (o.length = 4) ∧ (∀ z ∈ o, 0 ≤ z ∧ z < 18446744073709551616) ∧ (c = 0 ∨ c = 1) ∧ (lo o k - c * (18446744073709551616 : Int) ^ k = lo [limb a 0, limb a 1, limb a 2, limb a 3] k - lo [limb b 0, limb b 1, limb b 2, limb b 3] k)) 4 ?_ ?_
 ·exact ⟨_, 0, 0, [0, 0, 0, 0], rfl, act_upds ⟨rfl, rfl, rfl, (congrArg (Value.int .u64) (by first | rfl | omega)), rfl, (congrArg (Value.int .u64) (by first | rfl | omega)), (congrArg (Value.int .i64) (by first | rfl | omega)), trivial⟩, (St.pick (L := [some (b10, .cells (([0, 0, 0, 0]).flatMap cU).toArray 40), some (b7, .cells #[.int .u64 0, .int .u64 0, .int .u64 0, .int .u64 0] 40), some (b4, .cells (([limb b 0, limb b 1, limb b 2, limb b 3]).flatMap cU).toArray 40), some (b1, .cells (([limb a 0, limb a 1, limb a 2, limb a 3]).flatMap cU).toArray 40)]) hS12 [0, 1, 2, 3] (by decide)), (by decide), rfl, (by intro z hz; simp at hz; rw [hz]; decide), (by decide), rfl⟩
 rintro n16 a17 W14 ⟨m13, k, c, o, rfl, rfl, hS15, hk, hol, hor, hc, hs⟩
 refine C_seq ?_
 refine C_sr ?_
 refine sqv (ex_move (v := .int .i64 (k : Int)) rfl) ?_
 refine sqv (ex_cmp (x := (k : Int)) (y := 4) (r := decide ((k : Int) < 4)) rfl rfl rfl) ?_
 show C _ _ _ _ _ _
 refine C_dec ((k : Int) < 4) rfl (fun hc18 => ?_) (fun hc18 => ?_)
 ·refine C_skip ?_
  show C _ _ _ _ _ _
  refine C_seq ?_
  refine C_block ?_
  refine C_seq ?_
  obtain ⟨y19, hy20⟩ := get_lt ([limb a 0, limb a 1, limb a 2, limb a 3]) k (by first | omega | (simp only [List.length_set, List.length_replicate, List.length_append, List.length_take, List.length_drop, List.length_cons, List.length_nil, List.length_map]; omega))
  have hky19 := limb_rng hy20
  obtain ⟨y21, hy22⟩ := get_lt ([limb b 0, limb b 1, limb b 2, limb b 3]) k (by first | omega | (simp only [List.length_set, List.length_replicate, List.length_append, List.length_take, List.length_drop, List.length_cons, List.length_nil, List.length_map]; omega))
  have hky21 := limb_rng hy22
  refine nm ((y19 - y21) % 18446744073709551616) fun x23 hx23 => ?_
  refine nm ((x23 - c) % 18446744073709551616) fun x24 hx24 => ?_
  refine C_draw (p := 10) (l := [(some 13, .int .i64 (k : Int)), (some 14, .int .i64 (k : Int)), (some 15, .pointer (some ⟨b1, k * 1, none⟩)), (some 16, .int .u64 y19), (some 17, .int .i64 (k : Int)), (some 18, .pointer (some ⟨b4, k * 1, none⟩)), (some 19, .int .u64 y21), (some 20, .int .u64 x23), (some 21, .int .u64 c), (some 22, .int .u64 x24)]) (G := []) (J := fun w => St [] w0 w [some (b10, .cells (o.flatMap cU).toArray 40), some (b7, .cells #[.int .u64 0, .int .u64 0, .int .u64 0, .int .u64 0] 40), some (b4, .cells (([limb b 0, limb b 1, limb b 2, limb b 3]).flatMap cU).toArray 40), some (b1, .cells (([limb a 0, limb a 1, limb a 2, limb a 3]).flatMap cU).toArray 40)] []) mixed ?_ (hS15.draw _)
  refine node1 10 [] [] [] (by kernel_rfl) rfl rfl (nd rfl) rfl (by kernel_rfl) ?_ ?_ ?_
  ·intro S wd hSd
   refine ⟨n0 rfl rfl rfl (ex_move (v := .int .i64 (k : Int)) rfl) rfl hSd, n0 rfl rfl rfl (ex_move (v := .int .i64 (k : Int)) rfl) rfl hSd, n1 rfl rfl rfl rfl (fun hq1 => (ex_index (j := (k : Int)) (o' := k * 1) rfl (evS hq1 rfl rfl) ar40 (by omega) (by omega) (by omega))) rfl hSd, n1 rfl rfl rfl rfl (fun hq2 => (ex_loadM (f := cU) (i := k) (fun _ => rfl) (evS hq2 rfl rfl) (hSd.at 3 rfl) on39 rfl hy20 rfl)) rfl hSd, n0 rfl rfl rfl (ex_move (v := .int .i64 (k : Int)) rfl) rfl hSd, n1 rfl rfl rfl rfl (fun hq4 => (ex_index (j := (k : Int)) (o' := k * 1) rfl (evS hq4 rfl rfl) ar40 (by omega) (by omega) (by omega))) rfl hSd, n1 rfl rfl rfl rfl (fun hq5 => (ex_loadM (f := cU) (i := k) (fun _ => rfl) (evS hq5 rfl rfl) (hSd.at 2 rfl) on39 rfl hy22 rfl)) rfl hSd, n2 rfl rfl rfl rfl (fun hq3 hq6 => (ex_sub (x := y19) (y := y21) (evS hq3 rfl rfl) (evS hq6 rfl rfl) (wu64 hx23))) rfl hSd, n0 rfl rfl rfl (ex_move (v := .int .u64 c) rfl) rfl hSd, ?_, tt⟩
   refine needG rfl ?_
   rintro ⟨hq7, hq8, _⟩ hno
   exact dx (wanted_none rfl) rfl (ex_sub (x := x23) (y := c) (evS hq7 rfl rfl) (evS hq8 rfl rfl) (wu64 hx24)) ⟨rfl, hSd⟩
  ·exact fun S wd hSd => ⟨True.intro, True.intro, True.intro, True.intro, True.intro, True.intro, True.intro, True.intro, True.intro, True.intro, True.intro⟩
  intro _ W25 hS26
  refine sqv (ex_index (j := (k : Int)) (o' := k * 1) rfl rfl ar40 (by omega) (by omega) (by omega)) ?_
  refine sqUE (st_storeM (f := cU) (z := x24) (i' := k) (fun _ => rfl) 0 hS26 rfl rfl rfl on39 rfl (by first | omega | (simp only [List.length_set, List.length_replicate, List.length_append, List.length_take, List.length_drop]; omega)) rfl rfl rfl) fun W27 hS28 => ?_
  show C _ _ _ _ _ _
  refine C_seq ?_
  refine nm (decide (y19 < y21)) fun t29 ht29 => ?_
  rcases bool_cases t29 with hb30 | hb30
  ·subst hb30
   have hb30 := of_decide_eq_true ht29.symm
   refine C_draw (p := 20) (l := [(some 24, .int .i64 (k : Int)), (some 25, .pointer (some ⟨b1, k * 1, none⟩)), (some 26, .int .u64 y19), (some 27, .int .i64 (k : Int)), (some 28, .pointer (some ⟨b4, k * 1, none⟩)), (some 29, .int .u64 y21), (some 30, .bool true), (some 31, .bool true), (some 32, undef), (some 33, undef), (some 34, undef), (some 35, undef), (some 36, undef), (some 37, undef), (some 38, undef), (some 39, undef), (some 40, undef), (some 41, undef), (some 42, undef), (some 43, .bool true)]) (G := []) (J := fun w => St [] w0 w [some (b10, .cells ((o.set k x24).flatMap cU).toArray 40), some (b7, .cells #[.int .u64 0, .int .u64 0, .int .u64 0, .int .u64 0] 40), some (b4, .cells (([limb b 0, limb b 1, limb b 2, limb b 3]).flatMap cU).toArray 40), some (b1, .cells (([limb a 0, limb a 1, limb a 2, limb a 3]).flatMap cU).toArray 40)] []) mixed ?_ (hS28.draw _)
   refine node1 20 [] [] [] (by kernel_rfl) rfl rfl (nd rfl) rfl (by kernel_rfl) ?_ ?_ ?_
   ·intro S wd hSd
    refine ⟨n0 rfl rfl rfl (ex_move (v := .int .i64 (k : Int)) rfl) rfl hSd, n1 rfl rfl rfl rfl (fun hq0 => (ex_index (j := (k : Int)) (o' := k * 1) rfl (evS hq0 rfl rfl) ar40 (by omega) (by omega) (by omega))) rfl hSd, n1 rfl rfl rfl rfl (fun hq1 => (ex_loadM (f := cU) (i := k) (fun _ => rfl) (evS hq1 rfl rfl) (hSd.at 3 rfl) on39 rfl hy20 rfl)) rfl hSd, n0 rfl rfl rfl (ex_move (v := .int .i64 (k : Int)) rfl) rfl hSd, n1 rfl rfl rfl rfl (fun hq3 => (ex_index (j := (k : Int)) (o' := k * 1) rfl (evS hq3 rfl rfl) ar40 (by omega) (by omega) (by omega))) rfl hSd, n1 rfl rfl rfl rfl (fun hq4 => (ex_loadM (f := cU) (i := k) (fun _ => rfl) (evS hq4 rfl rfl) (hSd.at 2 rfl) on39 rfl hy22 rfl)) rfl hSd, n2 rfl rfl rfl rfl (fun hq2 hq5 => (ex_cmp (x := y19) (y := y21) (evS hq2 rfl rfl) (evS hq5 rfl rfl) ht29)) rfl hSd, n1 rfl rfl rfl rfl (fun hq6 => (ex_move (v := .bool true) (evS hq6 rfl rfl))) rfl hSd, ?_, ?_, ?_, ?_, ?_, ?_, ?_, ?_, ?_, ?_, ?_, ?_, tt⟩
    ·refine needG rfl ?_
     rintro ⟨hq7, _⟩ hno
     exact dxS (wanted_no (b' := true) rfl rfl (evS hq7 rfl rfl) (by decide)) ⟨rfl, hSd⟩
    ·refine needG rfl ?_
     rintro ⟨hq8, hq7, _⟩ hno
     exact dxS (wanted_no (b' := true) rfl rfl (evS hq7 rfl rfl) (by decide)) ⟨rfl, hSd⟩
    ·refine needG rfl ?_
     rintro ⟨hq9, hq7, _⟩ hno
     exact dxS (wanted_no (b' := true) rfl rfl (evS hq7 rfl rfl) (by decide)) ⟨rfl, hSd⟩
    ·refine needG rfl ?_
     rintro ⟨hq7, _⟩ hno
     exact dxS (wanted_no (b' := true) rfl rfl (evS hq7 rfl rfl) (by decide)) ⟨rfl, hSd⟩
    ·refine needG rfl ?_
     rintro ⟨hq11, hq7, _⟩ hno
     exact dxS (wanted_no (b' := true) rfl rfl (evS hq7 rfl rfl) (by decide)) ⟨rfl, hSd⟩
    ·refine needG rfl ?_
     rintro ⟨hq12, hq7, _⟩ hno
     exact dxS (wanted_no (b' := true) rfl rfl (evS hq7 rfl rfl) (by decide)) ⟨rfl, hSd⟩
    ·refine needG rfl ?_
     rintro ⟨hq10, hq13, hq7, _⟩ hno
     exact dxS (wanted_no (b' := true) rfl rfl (evS hq7 rfl rfl) (by decide)) ⟨rfl, hSd⟩
    ·refine needG rfl ?_
     rintro ⟨hq14, hq7, hq7, _⟩ hno
     exact dxS (wanted_no (b' := true) rfl rfl (evS hq7 rfl rfl) (by decide)) ⟨rfl, hSd⟩
    ·refine needG rfl ?_
     rintro ⟨hq15, _⟩ hno
     exact dxS (wanted_un rfl rfl (evS hq15 rfl rfl)) ⟨rfl, hSd⟩
    ·refine needG rfl ?_
     rintro ⟨hq16, hq15, _⟩ hno
     exact dxS (wanted_un rfl rfl (evS hq15 rfl rfl)) ⟨rfl, hSd⟩
    ·refine needG rfl ?_
     rintro ⟨hq15, hq17, hq7, _⟩ hno
     exact dxS (wanted_no (b' := true) rfl rfl (evS hq7 rfl rfl) (by decide)) ⟨rfl, hSd⟩
    refine needG rfl ?_
    rintro ⟨hq7, hq18, _⟩ hno
    exact dx (wanted_none rfl) rfl (ex_pickT (v := .bool true) (evS hq7 rfl rfl) rfl) ⟨rfl, hSd⟩
   ·exact fun S wd hSd => ⟨True.intro, True.intro, True.intro, True.intro, True.intro, True.intro, True.intro, True.intro, True.intro, True.intro, True.intro, True.intro, True.intro, True.intro, True.intro, True.intro, True.intro, True.intro, True.intro, True.intro, True.intro⟩
   intro _ W31 hS32
   show C _ _ _ _ _ _
   refine C_true rfl ?_
   refine C_region ?_
   refine sqv (ex_assign (v := .int .u64 1) rfl) ?_
   refine blk_normal ?_
   show C _ _ _ _ _ _
   refine C_region ?_
   refine sqv (ex_move (v := .int .i64 (k : Int)) rfl) ?_
   refine nm ((k : Int) + 1) fun x33 hx33 => ?_
   refine sqv (ex_add (x := (k : Int)) (y := 1) rfl rfl (w64 hx33 (by omega))) ?_
   refine sqv (ex_assign (v := .int .i64 x33) rfl) ?_
   exact ⟨_, (by omega), ⟨_, (k + 1), 1, (o.set k x24), rfl, act_upds ⟨rfl, rfl, rfl, (congrArg (Value.int .u64) (by first | rfl | omega)), rfl, (congrArg (Value.int .u64) (by first | rfl | omega)), (congrArg (Value.int .i64) (by first | rfl | omega)), trivial⟩, (St.pick (L := [some (b10, .cells ((o.set k x24).flatMap cU).toArray 40), some (b7, .cells #[.int .u64 0, .int .u64 0, .int .u64 0, .int .u64 0] 40), some (b4, .cells (([limb b 0, limb b 1, limb b 2, limb b 3]).flatMap cU).toArray 40), some (b1, .cells (([limb a 0, limb a 1, limb a 2, limb a 3]).flatMap cU).toArray 40)]) hS32 [0, 1, 2, 3] (by decide)), (by omega), (by rw [List.length_set]; exact hol), (all_setI hor (by omega)), (by omega), (dif_step hs hy20 hy22 (by omega) (by omega))⟩⟩
  subst hb30
  have hb30 := of_decide_eq_false ht29.symm
  refine nm (decide (y19 = y21)) fun t34 ht34 => ?_
  rcases bool_cases t34 with hb35 | hb35
  ·subst hb35
   have hb35 := of_decide_eq_true ht34.symm
   refine nm (decide (c = 1)) fun t36 ht36 => ?_
   refine C_draw (p := 20) (l := [(some 24, .int .i64 (k : Int)), (some 25, .pointer (some ⟨b1, k * 1, none⟩)), (some 26, .int .u64 y19), (some 27, .int .i64 (k : Int)), (some 28, .pointer (some ⟨b4, k * 1, none⟩)), (some 29, .int .u64 y21), (some 30, .bool false), (some 31, .bool false), (some 32, .int .i64 (k : Int)), (some 33, .pointer (some ⟨b1, k * 1, none⟩)), (some 34, .int .u64 y19), (some 35, .int .i64 (k : Int)), (some 36, .pointer (some ⟨b4, k * 1, none⟩)), (some 37, .int .u64 y21), (some 38, .bool true), (some 39, .bool true), (some 40, .int .u64 c), (some 41, .bool t36), (some 42, .bool t36), (some 43, .bool t36)]) (G := []) (J := fun w => St [] w0 w [some (b10, .cells ((o.set k x24).flatMap cU).toArray 40), some (b7, .cells #[.int .u64 0, .int .u64 0, .int .u64 0, .int .u64 0] 40), some (b4, .cells (([limb b 0, limb b 1, limb b 2, limb b 3]).flatMap cU).toArray 40), some (b1, .cells (([limb a 0, limb a 1, limb a 2, limb a 3]).flatMap cU).toArray 40)] []) mixed ?_ (hS28.draw _)
   refine node1 20 [] [] [] (by kernel_rfl) rfl rfl (nd rfl) rfl (by kernel_rfl) ?_ ?_ ?_
   ·intro S wd hSd
    refine ⟨n0 rfl rfl rfl (ex_move (v := .int .i64 (k : Int)) rfl) rfl hSd, n1 rfl rfl rfl rfl (fun hq0 => (ex_index (j := (k : Int)) (o' := k * 1) rfl (evS hq0 rfl rfl) ar40 (by omega) (by omega) (by omega))) rfl hSd, n1 rfl rfl rfl rfl (fun hq1 => (ex_loadM (f := cU) (i := k) (fun _ => rfl) (evS hq1 rfl rfl) (hSd.at 3 rfl) on39 rfl hy20 rfl)) rfl hSd, n0 rfl rfl rfl (ex_move (v := .int .i64 (k : Int)) rfl) rfl hSd, n1 rfl rfl rfl rfl (fun hq3 => (ex_index (j := (k : Int)) (o' := k * 1) rfl (evS hq3 rfl rfl) ar40 (by omega) (by omega) (by omega))) rfl hSd, n1 rfl rfl rfl rfl (fun hq4 => (ex_loadM (f := cU) (i := k) (fun _ => rfl) (evS hq4 rfl rfl) (hSd.at 2 rfl) on39 rfl hy22 rfl)) rfl hSd, n2 rfl rfl rfl rfl (fun hq2 hq5 => (ex_cmp (x := y19) (y := y21) (evS hq2 rfl rfl) (evS hq5 rfl rfl) ht29)) rfl hSd, n1 rfl rfl rfl rfl (fun hq6 => (ex_move (v := .bool false) (evS hq6 rfl rfl))) rfl hSd, ?_, ?_, ?_, ?_, ?_, ?_, ?_, ?_, ?_, ?_, ?_, ?_, tt⟩
    ·refine needG rfl ?_
     rintro ⟨hq7, _⟩ hno
     exact dx (wanted_yes rfl rfl (evS hq7 rfl rfl)) rfl (ex_move (v := .int .i64 (k : Int)) rfl) ⟨rfl, hSd⟩
    ·refine needG rfl ?_
     rintro ⟨hq8, hq7, _⟩ hno
     exact dx (wanted_yes rfl rfl (evS hq7 rfl rfl)) rfl (ex_index (j := (k : Int)) (o' := k * 1) rfl (evS hq8 rfl rfl) ar40 (by omega) (by omega) (by omega)) ⟨rfl, hSd⟩
    ·refine needG rfl ?_
     rintro ⟨hq9, hq7, _⟩ hno
     exact dx (wanted_yes rfl rfl (evS hq7 rfl rfl)) rfl (ex_loadM (f := cU) (i := k) (fun _ => rfl) (evS hq9 rfl rfl) (hSd.at 3 rfl) on39 rfl hy20 rfl) ⟨rfl, hSd⟩
    ·refine needG rfl ?_
     rintro ⟨hq7, _⟩ hno
     exact dx (wanted_yes rfl rfl (evS hq7 rfl rfl)) rfl (ex_move (v := .int .i64 (k : Int)) rfl) ⟨rfl, hSd⟩
    ·refine needG rfl ?_
     rintro ⟨hq11, hq7, _⟩ hno
     exact dx (wanted_yes rfl rfl (evS hq7 rfl rfl)) rfl (ex_index (j := (k : Int)) (o' := k * 1) rfl (evS hq11 rfl rfl) ar40 (by omega) (by omega) (by omega)) ⟨rfl, hSd⟩
    ·refine needG rfl ?_
     rintro ⟨hq12, hq7, _⟩ hno
     exact dx (wanted_yes rfl rfl (evS hq7 rfl rfl)) rfl (ex_loadM (f := cU) (i := k) (fun _ => rfl) (evS hq12 rfl rfl) (hSd.at 2 rfl) on39 rfl hy22 rfl) ⟨rfl, hSd⟩
    ·refine needG rfl ?_
     rintro ⟨hq10, hq13, hq7, _⟩ hno
     exact dx (wanted_yes rfl rfl (evS hq7 rfl rfl)) rfl (ex_cmp (x := y19) (y := y21) (evS hq10 rfl rfl) (evS hq13 rfl rfl) ht34) ⟨rfl, hSd⟩
    ·refine needG rfl ?_
     rintro ⟨hq14, hq7, hq7, _⟩ hno
     exact dx (wanted_yes rfl rfl (evS hq7 rfl rfl)) rfl (ex_move (v := .bool true) (evS hq14 rfl rfl)) ⟨rfl, hSd⟩
    ·refine needG rfl ?_
     rintro ⟨hq15, _⟩ hno
     exact dx (wanted_yes rfl rfl (evS hq15 rfl rfl)) rfl (ex_move (v := .int .u64 c) rfl) ⟨rfl, hSd⟩
    ·refine needG rfl ?_
     rintro ⟨hq16, hq15, _⟩ hno
     exact dx (wanted_yes rfl rfl (evS hq15 rfl rfl)) rfl (ex_cmp (x := c) (y := 1) (evS hq16 rfl rfl) rfl ht36) ⟨rfl, hSd⟩
    ·refine needG rfl ?_
     rintro ⟨hq15, hq17, hq7, _⟩ hno
     exact dx (wanted_yes rfl rfl (evS hq7 rfl rfl)) rfl (ex_pickT (v := .bool t36) (evS hq15 rfl rfl) (evS hq17 rfl rfl)) ⟨rfl, hSd⟩
    refine needG rfl ?_
    rintro ⟨hq7, hq18, _⟩ hno
    exact dx (wanted_none rfl) rfl (ex_pickF (v := .bool t36) (evS hq7 rfl rfl) (evS hq18 rfl rfl)) ⟨rfl, hSd⟩
   ·exact fun S wd hSd => ⟨True.intro, True.intro, True.intro, True.intro, True.intro, True.intro, True.intro, True.intro, True.intro, True.intro, True.intro, True.intro, True.intro, True.intro, True.intro, True.intro, True.intro, True.intro, True.intro, True.intro, True.intro⟩
   intro _ W37 hS38
   show C _ _ _ _ _ _
   refine C_if (t := t36) rfl (fun hc39 => ?_) (fun hc39 => ?_)
   ·have hc39' := of_decide_eq_true (ht36.symm.trans hc39)
    refine C_region ?_
    refine sqv (ex_assign (v := .int .u64 1) rfl) ?_
    refine blk_normal ?_
    show C _ _ _ _ _ _
    refine C_region ?_
    refine sqv (ex_move (v := .int .i64 (k : Int)) rfl) ?_
    refine nm ((k : Int) + 1) fun x40 hx40 => ?_
    refine sqv (ex_add (x := (k : Int)) (y := 1) rfl rfl (w64 hx40 (by omega))) ?_
    refine sqv (ex_assign (v := .int .i64 x40) rfl) ?_
    exact ⟨_, (by omega), ⟨_, (k + 1), 1, (o.set k x24), rfl, act_upds ⟨rfl, rfl, rfl, (congrArg (Value.int .u64) (by first | rfl | omega)), rfl, (congrArg (Value.int .u64) (by first | rfl | omega)), (congrArg (Value.int .i64) (by first | rfl | omega)), trivial⟩, (St.pick (L := [some (b10, .cells ((o.set k x24).flatMap cU).toArray 40), some (b7, .cells #[.int .u64 0, .int .u64 0, .int .u64 0, .int .u64 0] 40), some (b4, .cells (([limb b 0, limb b 1, limb b 2, limb b 3]).flatMap cU).toArray 40), some (b1, .cells (([limb a 0, limb a 1, limb a 2, limb a 3]).flatMap cU).toArray 40)]) hS38 [0, 1, 2, 3] (by decide)), (by omega), (by rw [List.length_set]; exact hol), (all_setI hor (by omega)), (by omega), (dif_step hs hy20 hy22 (by omega) (by omega))⟩⟩
   have hc39' := of_decide_eq_false (ht36.symm.trans hc39)
   refine C_region ?_
   refine sqv (ex_assign (v := .int .u64 0) rfl) ?_
   refine blk_normal ?_
   show C _ _ _ _ _ _
   refine C_region ?_
   refine sqv (ex_move (v := .int .i64 (k : Int)) rfl) ?_
   refine nm ((k : Int) + 1) fun x41 hx41 => ?_
   refine sqv (ex_add (x := (k : Int)) (y := 1) rfl rfl (w64 hx41 (by omega))) ?_
   refine sqv (ex_assign (v := .int .i64 x41) rfl) ?_
   exact ⟨_, (by omega), ⟨_, (k + 1), 0, (o.set k x24), rfl, act_upds ⟨rfl, rfl, rfl, (congrArg (Value.int .u64) (by first | rfl | omega)), rfl, (congrArg (Value.int .u64) (by first | rfl | omega)), (congrArg (Value.int .i64) (by first | rfl | omega)), trivial⟩, (St.pick (L := [some (b10, .cells ((o.set k x24).flatMap cU).toArray 40), some (b7, .cells #[.int .u64 0, .int .u64 0, .int .u64 0, .int .u64 0] 40), some (b4, .cells (([limb b 0, limb b 1, limb b 2, limb b 3]).flatMap cU).toArray 40), some (b1, .cells (([limb a 0, limb a 1, limb a 2, limb a 3]).flatMap cU).toArray 40)]) hS38 [0, 1, 2, 3] (by decide)), (by omega), (by rw [List.length_set]; exact hol), (all_setI hor (by omega)), (by omega), (dif_step hs hy20 hy22 (by omega) (by omega))⟩⟩
  subst hb35
  have hb35 := of_decide_eq_false ht34.symm
  refine C_draw (p := 20) (l := [(some 24, .int .i64 (k : Int)), (some 25, .pointer (some ⟨b1, k * 1, none⟩)), (some 26, .int .u64 y19), (some 27, .int .i64 (k : Int)), (some 28, .pointer (some ⟨b4, k * 1, none⟩)), (some 29, .int .u64 y21), (some 30, .bool false), (some 31, .bool false), (some 32, .int .i64 (k : Int)), (some 33, .pointer (some ⟨b1, k * 1, none⟩)), (some 34, .int .u64 y19), (some 35, .int .i64 (k : Int)), (some 36, .pointer (some ⟨b4, k * 1, none⟩)), (some 37, .int .u64 y21), (some 38, .bool false), (some 39, .bool false), (some 40, undef), (some 41, undef), (some 42, .bool false), (some 43, .bool false)]) (G := []) (J := fun w => St [] w0 w [some (b10, .cells ((o.set k x24).flatMap cU).toArray 40), some (b7, .cells #[.int .u64 0, .int .u64 0, .int .u64 0, .int .u64 0] 40), some (b4, .cells (([limb b 0, limb b 1, limb b 2, limb b 3]).flatMap cU).toArray 40), some (b1, .cells (([limb a 0, limb a 1, limb a 2, limb a 3]).flatMap cU).toArray 40)] []) mixed ?_ (hS28.draw _)
  refine node1 20 [] [] [] (by kernel_rfl) rfl rfl (nd rfl) rfl (by kernel_rfl) ?_ ?_ ?_
  ·intro S wd hSd
   refine ⟨n0 rfl rfl rfl (ex_move (v := .int .i64 (k : Int)) rfl) rfl hSd, n1 rfl rfl rfl rfl (fun hq0 => (ex_index (j := (k : Int)) (o' := k * 1) rfl (evS hq0 rfl rfl) ar40 (by omega) (by omega) (by omega))) rfl hSd, n1 rfl rfl rfl rfl (fun hq1 => (ex_loadM (f := cU) (i := k) (fun _ => rfl) (evS hq1 rfl rfl) (hSd.at 3 rfl) on39 rfl hy20 rfl)) rfl hSd, n0 rfl rfl rfl (ex_move (v := .int .i64 (k : Int)) rfl) rfl hSd, n1 rfl rfl rfl rfl (fun hq3 => (ex_index (j := (k : Int)) (o' := k * 1) rfl (evS hq3 rfl rfl) ar40 (by omega) (by omega) (by omega))) rfl hSd, n1 rfl rfl rfl rfl (fun hq4 => (ex_loadM (f := cU) (i := k) (fun _ => rfl) (evS hq4 rfl rfl) (hSd.at 2 rfl) on39 rfl hy22 rfl)) rfl hSd, n2 rfl rfl rfl rfl (fun hq2 hq5 => (ex_cmp (x := y19) (y := y21) (evS hq2 rfl rfl) (evS hq5 rfl rfl) ht29)) rfl hSd, n1 rfl rfl rfl rfl (fun hq6 => (ex_move (v := .bool false) (evS hq6 rfl rfl))) rfl hSd, ?_, ?_, ?_, ?_, ?_, ?_, ?_, ?_, ?_, ?_, ?_, ?_, tt⟩
   ·refine needG rfl ?_
    rintro ⟨hq7, _⟩ hno
    exact dx (wanted_yes rfl rfl (evS hq7 rfl rfl)) rfl (ex_move (v := .int .i64 (k : Int)) rfl) ⟨rfl, hSd⟩
   ·refine needG rfl ?_
    rintro ⟨hq8, hq7, _⟩ hno
    exact dx (wanted_yes rfl rfl (evS hq7 rfl rfl)) rfl (ex_index (j := (k : Int)) (o' := k * 1) rfl (evS hq8 rfl rfl) ar40 (by omega) (by omega) (by omega)) ⟨rfl, hSd⟩
   ·refine needG rfl ?_
    rintro ⟨hq9, hq7, _⟩ hno
    exact dx (wanted_yes rfl rfl (evS hq7 rfl rfl)) rfl (ex_loadM (f := cU) (i := k) (fun _ => rfl) (evS hq9 rfl rfl) (hSd.at 3 rfl) on39 rfl hy20 rfl) ⟨rfl, hSd⟩
   ·refine needG rfl ?_
    rintro ⟨hq7, _⟩ hno
    exact dx (wanted_yes rfl rfl (evS hq7 rfl rfl)) rfl (ex_move (v := .int .i64 (k : Int)) rfl) ⟨rfl, hSd⟩
   ·refine needG rfl ?_
    rintro ⟨hq11, hq7, _⟩ hno
    exact dx (wanted_yes rfl rfl (evS hq7 rfl rfl)) rfl (ex_index (j := (k : Int)) (o' := k * 1) rfl (evS hq11 rfl rfl) ar40 (by omega) (by omega) (by omega)) ⟨rfl, hSd⟩
   ·refine needG rfl ?_
    rintro ⟨hq12, hq7, _⟩ hno
    exact dx (wanted_yes rfl rfl (evS hq7 rfl rfl)) rfl (ex_loadM (f := cU) (i := k) (fun _ => rfl) (evS hq12 rfl rfl) (hSd.at 2 rfl) on39 rfl hy22 rfl) ⟨rfl, hSd⟩
   ·refine needG rfl ?_
    rintro ⟨hq10, hq13, hq7, _⟩ hno
    exact dx (wanted_yes rfl rfl (evS hq7 rfl rfl)) rfl (ex_cmp (x := y19) (y := y21) (evS hq10 rfl rfl) (evS hq13 rfl rfl) ht34) ⟨rfl, hSd⟩
   ·refine needG rfl ?_
    rintro ⟨hq14, hq7, hq7, _⟩ hno
    exact dx (wanted_yes rfl rfl (evS hq7 rfl rfl)) rfl (ex_move (v := .bool false) (evS hq14 rfl rfl)) ⟨rfl, hSd⟩
   ·refine needG rfl ?_
    rintro ⟨hq15, _⟩ hno
    exact dxS (wanted_no (b' := false) rfl rfl (evS hq15 rfl rfl) (by decide)) ⟨rfl, hSd⟩
   ·refine needG rfl ?_
    rintro ⟨hq16, hq15, _⟩ hno
    exact dxS (wanted_no (b' := false) rfl rfl (evS hq15 rfl rfl) (by decide)) ⟨rfl, hSd⟩
   ·refine needG rfl ?_
    rintro ⟨hq15, hq17, hq7, _⟩ hno
    exact dx (wanted_yes rfl rfl (evS hq7 rfl rfl)) rfl (ex_pickF (v := .bool false) (evS hq15 rfl rfl) rfl) ⟨rfl, hSd⟩
   refine needG rfl ?_
   rintro ⟨hq7, hq18, _⟩ hno
   exact dx (wanted_none rfl) rfl (ex_pickF (v := .bool false) (evS hq7 rfl rfl) (evS hq18 rfl rfl)) ⟨rfl, hSd⟩
  ·exact fun S wd hSd => ⟨True.intro, True.intro, True.intro, True.intro, True.intro, True.intro, True.intro, True.intro, True.intro, True.intro, True.intro, True.intro, True.intro, True.intro, True.intro, True.intro, True.intro, True.intro, True.intro, True.intro, True.intro⟩
  intro _ W42 hS43
  show C _ _ _ _ _ _
  refine C_false rfl ?_
  refine C_region ?_
  refine sqv (ex_assign (v := .int .u64 0) rfl) ?_
  refine blk_normal ?_
  show C _ _ _ _ _ _
  refine C_region ?_
  refine sqv (ex_move (v := .int .i64 (k : Int)) rfl) ?_
  refine nm ((k : Int) + 1) fun x44 hx44 => ?_
  refine sqv (ex_add (x := (k : Int)) (y := 1) rfl rfl (w64 hx44 (by omega))) ?_
  refine sqv (ex_assign (v := .int .i64 x44) rfl) ?_
  exact ⟨_, (by omega), ⟨_, (k + 1), 0, (o.set k x24), rfl, act_upds ⟨rfl, rfl, rfl, (congrArg (Value.int .u64) (by first | rfl | omega)), rfl, (congrArg (Value.int .u64) (by first | rfl | omega)), (congrArg (Value.int .i64) (by first | rfl | omega)), trivial⟩, (St.pick (L := [some (b10, .cells ((o.set k x24).flatMap cU).toArray 40), some (b7, .cells #[.int .u64 0, .int .u64 0, .int .u64 0, .int .u64 0] 40), some (b4, .cells (([limb b 0, limb b 1, limb b 2, limb b 3]).flatMap cU).toArray 40), some (b1, .cells (([limb a 0, limb a 1, limb a 2, limb a 3]).flatMap cU).toArray 40)]) hS43 [0, 1, 2, 3] (by decide)), (by omega), (by rw [List.length_set]; exact hol), (all_setI hor (by omega)), (by omega), (dif_step hs hy20 hy22 (by omega) (by omega))⟩⟩
 refine C_exit ?_
 refine thn_exit ?_
 refine thn_exit ?_
 refine blk_exit ?_
 show C _ _ _ _ _ _
 refine C_sr ?_
 obtain rfl : k = 4 := by omega
 obtain ⟨ho4, hc4⟩ := dif_done g0 g1 hol hor hc hs
 subst ho4
 subst hc4
 refine sqv (ex_loads (vs := (el (subN a b))) rfl (hS15.at 0 rfl) ag40 rfl rfl) ?_
 refine sqv (ex_move (v := .int .u64 (bI (decide (a < b)))) rfl) ?_
 refine sqUE (st_stores (v := elV (subN a b)) (cs' := (elA (subN a b))) 1 hS15 rfl rfl rfl ag40 rfl (Nat.le_of_ble_eq_true rfl) (ones_of rfl) rfl) fun W45 hS46 => ?_
 refine sqv (ex_assign (v := .int .u64 (bI (decide (a < b)))) rfl) ?_
 show C _ _ _ _ _ _
 refine C_ret ?_
 refine done_2 (v1 := elV (subN a b)) (v2 := .int .u64 (bI (decide (a < b)))) rfl (res_row rfl (hS46.at 1 rfl) ag40 rfl) rfl ?_
 exact ⟨rfl, hS46.none⟩
end Go.Proofs
end
section
set_option linter.unusedVariables false
set_option linter.unusedSimpArgs false
set_option maxRecDepth 20000
set_option maxHeartbeats 2000000
namespace Go.Proofs
open Sc
theorem en102 : enters Tryz.prog 102 = true := by kernel_rfl
theorem en103 : enters Tryz.prog 103 = true := by kernel_rfl
theorem en171 : enters Tryz.prog 171 = true := by kernel_rfl
theorem en22 : enters Tryz.prog 22 = true := by kernel_rfl
theorem en58 : enters Tryz.prog 58 = true := by kernel_rfl
theorem en59 : enters Tryz.prog 59 = true := by kernel_rfl
theorem en60 : enters Tryz.prog 60 = true := by kernel_rfl
theorem en61 : enters Tryz.prog 61 = true := by kernel_rfl
theorem en78 : enters Tryz.prog 78 = true := by kernel_rfl
theorem lt_256 {p a : Nat} (h : p < B256) (ha : a < p) : a < B256 := Nat.lt_trans ha h
theorem c_One  (w0 : World)  : Calls Tryz.prog 59 #[] w0 (Ret fun uu w' => uu = elV 1 ∧ St [] w0 w' [] []) := by
 refine calls_of Tryz.func59 rfl Tryz.ntmps59 (Nat.le_of_ble_eq_true rfl) ?_
 have hS0 := St.nil w0
 refine C_sr ?_
 refine sqE (st_alloc hS0 ze40) fun b1 W2 hS3 => ?_
 show C _ _ _ _ _ _
 refine C_sr ?_
 refine sqv (ex_build (vs := [(0, .int .u64 1)]) (cells := #[.int .u64 1, .int .u64 0, .int .u64 0, .int .u64 0]) rfl (by kernel_rfl)) ?_
 refine sqUE (st_stores (v := .agg #[.int .u64 1, .int .u64 0, .int .u64 0, .int .u64 0]) (cs' := #[.int .u64 1, .int .u64 0, .int .u64 0, .int .u64 0]) 0 hS3 rfl rfl rfl ag40 rfl (Nat.le_of_ble_eq_true rfl) (ones_of rfl) rfl) fun W4 hS5 => ?_
 show C _ _ _ _ _ _
 refine C_ret ?_
 refine done_1 (v := .agg #[.int .u64 1, .int .u64 0, .int .u64 0, .int .u64 0]) rfl (res_row rfl (hS5.at 0 rfl) ag40 rfl) ?_
 exact ⟨rfl, hS5.none⟩
theorem bI_eq1 {q : Prop} [Decidable q] : bI (decide q) = 1 ↔ q := by
 unfold bI; by_cases h : q <;> simp [h]
theorem c_rSubtract (m : Nat) (a : Nat) (c : Int) (w0 : World) (g0 : m < B256) (g1 : a < B256) (g2 : 0 ≤ c) : Calls Tryz.prog 61 #[elV m, elV a, .int .u64 c] w0 (Ret fun uu w' => uu = elV (sbN m a c) ∧ St [] w0 w' [] []) := by
 have hbi : bI (decide (a < m)) = 1 ↔ a < m := bI_eq1
 refine calls_of Tryz.func61 rfl Tryz.ntmps61 (Nat.le_of_ble_eq_true rfl) ?_
 have hS0 := St.nil w0
 refine C_sr ?_
 refine sqE (st_box (v := elV m) (cs := (elA m)) hS0 rfl rfl) fun b1 W2 hS3 => ?_
 refine sqE (st_box (v := elV a) (cs := (elA a)) hS3 rfl rfl) fun b4 W5 hS6 => ?_
 refine sqE (st_alloc hS6 ze40) fun b7 W8 hS9 => ?_
 show C _ _ _ _ _ _
 refine C_sr ?_
 refine sqv (ex_loads (vs := (el a)) rfl (hS9.at 1 rfl) ag40 rfl rfl) ?_
 refine sqv (ex_loads (vs := (el m)) rfl (hS9.at 2 rfl) ag40 rfl rfl) ?_
 refine sqc (exe_call (args := #[elV a, elV m]) en103 (args_of2 rfl rfl)) (c_sub a m W8 (by assumption) (by assumption)) ?_
 rintro _ W10 ⟨rfl, hT12⟩
 have hS11 := hS9.call hT12
 refine sqv (ex_move (v := .tuple #[elV (subN a m), .int .u64 (bI (decide (a < m)))]) rfl) ?_
 refine sqv (ex_extract (v := elV (subN a m)) rfl rfl) ?_
 refine sqv (ex_extract (v := .int .u64 (bI (decide (a < m)))) rfl rfl) ?_
 refine sqE (st_alloc hS11 ze40) fun b14 W15 hS16 => ?_
 refine sqUE (st_stores (v := elV (subN a m)) (cs' := (elA (subN a m))) 0 hS16 rfl rfl rfl ag40 rfl (Nat.le_of_ble_eq_true rfl) (ones_of rfl) rfl) fun W17 hS18 => ?_
 refine sqv (ex_assign (v := .int .u64 (bI (decide (a < m)))) rfl) ?_
 show C _ _ _ _ _ _
 refine C_seq ?_
 refine C_sr ?_
 refine sqv (ex_move (v := .int .u64 c) rfl) ?_
 refine nm (c % 2) fun x19 hx19 => ?_
 refine sqv (ex_rem (x := c) (y := 2) rfl rfl (by omega) (hx19.trans (Int.tmod_eq_emod_of_nonneg (by omega)).symm)) ?_
 refine nm (decide (x19 = 0)) fun t20 ht20 => ?_
 refine sqv (ex_cmp (x := x19) (y := 0) rfl rfl ht20) ?_
 refine sqv (ex_move (v := .bool t20) rfl) ?_
 rcases bool_cases t20 with hb21 | hb21
 ·subst hb21
  have hb21 := of_decide_eq_true ht20.symm
  refine guard_yes (b := true) rfl rfl ?_
  refine sqv (ex_move (v := .int .u64 (bI (decide (a < m)))) rfl) ?_
  refine guard_yes (b := true) rfl rfl ?_
  refine nm (decide ((bI (decide (a < m))) = 1)) fun t22 ht22 => ?_
  refine sqv (ex_cmp (x := (bI (decide (a < m)))) (y := 1) rfl rfl ht22) ?_
  refine sqv (ex_pick (t := true) (v := .bool t22) rfl rfl) ?_
  show C _ _ _ _ _ _
  refine C_if (t := t22) rfl (fun hc23 => ?_) (fun hc23 => ?_)
  ·have hc23' := of_decide_eq_true (ht22.symm.trans hc23)
   refine C_sr ?_
   refine sqv (ex_loads (vs := (el a)) rfl (hS18.at 2 rfl) ag40 rfl rfl) ?_
   refine sqUE (st_stores (v := elV a) (cs' := (elA a)) 1 hS18 rfl rfl rfl ag40 rfl (Nat.le_of_ble_eq_true rfl) (ones_of rfl) rfl) fun W24 hS25 => ?_
   show C _ _ _ _ _ _
   refine C_ret ?_
   refine thn_ret ?_
   refine done_1 (v := elV a) rfl (res_row rfl (hS25.at 1 rfl) ag40 rfl) ?_
   exact ⟨by rw [show sbN m a c = a from by unfold sbN; first | rw [if_pos (by omega)] | rw [if_neg (by omega)]], hS25.none⟩
  have hc23' := of_decide_eq_false (ht22.symm.trans hc23)
  refine C_skip ?_
  show C _ _ _ _ _ _
  refine C_sr ?_
  refine sqv (ex_loads (vs := (el (subN a m))) rfl (hS18.at 0 rfl) ag40 rfl rfl) ?_
  refine sqUE (st_stores (v := elV (subN a m)) (cs' := (elA (subN a m))) 1 hS18 rfl rfl rfl ag40 rfl (Nat.le_of_ble_eq_true rfl) (ones_of rfl) rfl) fun W26 hS27 => ?_
  show C _ _ _ _ _ _
  refine C_ret ?_
  refine done_1 (v := elV (subN a m)) rfl (res_row rfl (hS27.at 1 rfl) ag40 rfl) ?_
  exact ⟨by rw [show sbN m a c = subN a m from by unfold sbN; first | rw [if_pos (by omega)] | rw [if_neg (by omega)]], hS27.none⟩
 subst hb21
 have hb21 := of_decide_eq_false ht20.symm
 refine guard_no (b' := false) rfl rfl (by decide) ?_
 refine guard_no (b' := false) rfl rfl (by decide) ?_
 refine sqv (ex_pick (t := false) (v := .bool false) rfl rfl) ?_
 show C _ _ _ _ _ _
 refine C_false rfl ?_
 refine C_skip ?_
 show C _ _ _ _ _ _
 refine C_sr ?_
 refine sqv (ex_loads (vs := (el (subN a m))) rfl (hS18.at 0 rfl) ag40 rfl rfl) ?_
 refine sqUE (st_stores (v := elV (subN a m)) (cs' := (elA (subN a m))) 1 hS18 rfl rfl rfl ag40 rfl (Nat.le_of_ble_eq_true rfl) (ones_of rfl) rfl) fun W28 hS29 => ?_
 show C _ _ _ _ _ _
 refine C_ret ?_
 refine done_1 (v := elV (subN a m)) rfl (res_row rfl (hS29.at 1 rfl) ag40 rfl) ?_
 exact ⟨by rw [show sbN m a c = subN a m from by unfold sbN; first | rw [if_pos (by omega)] | rw [if_neg (by omega)]], hS29.none⟩
theorem c_rAdd (p : Nat) (a : Nat) (b : Nat) (w0 : World) (g0 : p < B256) (g1 : a < p) (g2 : b < p) : Calls Tryz.prog 22 #[elV p, elV a, elV b] w0 (Ret fun uu w' => uu = elV (rAdd p a b) ∧ St [] w0 w' [] []) := by
 have ha := lt_256 g0 g1
 have hb := lt_256 g0 g2
 refine calls_of Tryz.func22 rfl Tryz.ntmps22 (Nat.le_of_ble_eq_true rfl) ?_
 have hS0 := St.nil w0
 refine C_sr ?_
 refine sqE (st_box (v := elV p) (cs := (elA p)) hS0 rfl rfl) fun b1 W2 hS3 => ?_
 refine sqE (st_box (v := elV a) (cs := (elA a)) hS3 rfl rfl) fun b4 W5 hS6 => ?_
 refine sqE (st_box (v := elV b) (cs := (elA b)) hS6 rfl rfl) fun b7 W8 hS9 => ?_
 refine sqE (st_alloc hS9 ze40) fun b10 W11 hS12 => ?_
 show C _ _ _ _ _ _
 refine C_sr ?_
 refine sqv (ex_loads (vs := (el a)) rfl (hS12.at 2 rfl) ag40 rfl rfl) ?_
 refine sqv (ex_loads (vs := (el b)) rfl (hS12.at 1 rfl) ag40 rfl rfl) ?_
 refine sqc (exe_call (args := #[elV a, elV b]) en60 (args_of2 rfl rfl)) (c_Sum a b W11 (by assumption) (by assumption)) ?_
 rintro _ W13 ⟨rfl, hT15⟩
 have hS14 := hS12.call hT15
 refine sqv (ex_move (v := .tuple #[elV (addN a b), .int .u64 (bI (decide (B256 ≤ a + b)))]) rfl) ?_
 refine sqv (ex_extract (v := elV (addN a b)) rfl rfl) ?_
 refine sqv (ex_extract (v := .int .u64 (bI (decide (B256 ≤ a + b)))) rfl rfl) ?_
 refine sqE (st_alloc hS14 ze40) fun b17 W18 hS19 => ?_
 refine sqUE (st_stores (v := elV (addN a b)) (cs' := (elA (addN a b))) 0 hS19 rfl rfl rfl ag40 rfl (Nat.le_of_ble_eq_true rfl) (ones_of rfl) rfl) fun W20 hS21 => ?_
 refine sqv (ex_assign (v := .int .u64 (bI (decide (B256 ≤ a + b)))) rfl) ?_
 show C _ _ _ _ _ _
 refine C_sr ?_
 refine sqv (ex_loads (vs := (el p)) rfl (hS21.at 4 rfl) ag40 rfl rfl) ?_
 refine sqv (ex_loads (vs := (el (addN a b))) rfl (hS21.at 0 rfl) ag40 rfl rfl) ?_
 refine sqv (ex_move (v := .int .u64 (bI (decide (B256 ≤ a + b)))) rfl) ?_
 refine sqc (exe_call (args := #[elV p, elV (addN a b), .int .u64 (bI (decide (B256 ≤ a + b)))]) en61 (args_of3 rfl rfl rfl)) (c_rSubtract p (addN a b) (bI (decide (B256 ≤ a + b))) W20 (by assumption) (by first | assumption | exact addN_lt _ _) (by first | omega | exact (bI_range _).1)) ?_
 rintro _ W22 ⟨rfl, hT24⟩
 have hS23 := hS21.call hT24
 refine sqUE (st_stores (v := elV (sbN p (addN a b) (bI (decide (B256 ≤ a + b))))) (cs' := (elA (sbN p (addN a b) (bI (decide (B256 ≤ a + b)))))) 1 hS23 rfl rfl rfl ag40 rfl (Nat.le_of_ble_eq_true rfl) (ones_of rfl) rfl) fun W26 hS27 => ?_
 show C _ _ _ _ _ _
 refine C_ret ?_
 refine done_1 (v := elV (sbN p (addN a b) (bI (decide (B256 ≤ a + b))))) rfl (res_row rfl (hS27.at 1 rfl) ag40 rfl) ?_
 exact ⟨by rw [rAdd_eq g0 g1 g2], hS27.none⟩
theorem c_rSub (p : Nat) (a : Nat) (b : Nat) (w0 : World) (g0 : p < B256) (g1 : a < p) (g2 : b < p) : Calls Tryz.prog 128 #[elV p, elV a, elV b] w0 (Ret fun uu w' => uu = elV (rSub p a b) ∧ St [] w0 w' [] []) := by
 have ha := lt_256 g0 g1
 have hb := lt_256 g0 g2
 refine calls_of Tryz.func128 rfl Tryz.ntmps128 (Nat.le_of_ble_eq_true rfl) ?_
 have hS0 := St.nil w0
 refine C_sr ?_
 refine sqE (st_box (v := elV p) (cs := (elA p)) hS0 rfl rfl) fun b1 W2 hS3 => ?_
 refine sqE (st_box (v := elV a) (cs := (elA a)) hS3 rfl rfl) fun b4 W5 hS6 => ?_
 refine sqE (st_box (v := elV b) (cs := (elA b)) hS6 rfl rfl) fun b7 W8 hS9 => ?_
 refine sqE (st_alloc hS9 ze40) fun b10 W11 hS12 => ?_
 show C _ _ _ _ _ _
 refine C_sr ?_
 refine sqv (ex_loads (vs := (el a)) rfl (hS12.at 2 rfl) ag40 rfl rfl) ?_
 refine sqv (ex_loads (vs := (el b)) rfl (hS12.at 1 rfl) ag40 rfl rfl) ?_
 refine sqc (exe_call (args := #[elV a, elV b]) en103 (args_of2 rfl rfl)) (c_sub a b W11 (by assumption) (by assumption)) ?_
 rintro _ W13 ⟨rfl, hT15⟩
 have hS14 := hS12.call hT15
 refine sqv (ex_move (v := .tuple #[elV (subN a b), .int .u64 (bI (decide (a < b)))]) rfl) ?_
 refine sqv (ex_extract (v := elV (subN a b)) rfl rfl) ?_
 refine sqv (ex_extract (v := .int .u64 (bI (decide (a < b)))) rfl rfl) ?_
 refine sqE (st_alloc hS14 ze40) fun b17 W18 hS19 => ?_
 refine sqUE (st_stores (v := elV (subN a b)) (cs' := (elA (subN a b))) 0 hS19 rfl rfl rfl ag40 rfl (Nat.le_of_ble_eq_true rfl) (ones_of rfl) rfl) fun W20 hS21 => ?_
 refine sqv (ex_assign (v := .int .u64 (bI (decide (a < b)))) rfl) ?_
 show C _ _ _ _ _ _
 refine C_seq ?_
 refine C_sr ?_
 refine sqv (ex_move (v := .int .u64 (bI (decide (a < b)))) rfl) ?_
 refine sqv (ex_cmp (x := (bI (decide (a < b)))) (y := 1) (r := decide ((bI (decide (a < b))) = 1)) rfl rfl rfl) ?_
 show C _ _ _ _ _ _
 refine C_dec ((bI (decide (a < b))) = 1) rfl (fun hc22 => ?_) (fun hc22 => ?_)
 ·refine C_region ?_
  refine sqv (ex_loads (vs := (el (subN a b))) rfl (hS21.at 0 rfl) ag40 rfl rfl) ?_
  refine sqv (ex_loads (vs := (el p)) rfl (hS21.at 4 rfl) ag40 rfl rfl) ?_
  refine sqc (exe_call (args := #[elV (subN a b), elV p]) en60 (args_of2 rfl rfl)) (c_Sum (subN a b) p W20 (subN_lt _ _) (by assumption)) ?_
  rintro _ W23 ⟨rfl, hT25⟩
  have hS24 := hS21.call hT25
  refine sqv (ex_move (v := .tuple #[elV (addN (subN a b) p), .int .u64 (bI (decide (B256 ≤ (subN a b) + p)))]) rfl) ?_
  refine sqv (ex_extract (v := elV (addN (subN a b) p)) rfl rfl) ?_
  refine sqv (ex_extract (v := .int .u64 (bI (decide (B256 ≤ (subN a b) + p)))) rfl rfl) ?_
  refine sqUE (st_stores (v := elV (addN (subN a b) p)) (cs' := (elA (addN (subN a b) p))) 0 hS24 rfl rfl rfl ag40 rfl (Nat.le_of_ble_eq_true rfl) (ones_of rfl) rfl) fun W27 hS28 => ?_
  show C _ _ _ _ _ _
  refine C_sr ?_
  refine sqv (ex_loads (vs := (el (addN (subN a b) p))) rfl (hS28.at 0 rfl) ag40 rfl rfl) ?_
  refine sqUE (st_stores (v := elV (addN (subN a b) p)) (cs' := (elA (addN (subN a b) p))) 1 hS28 rfl rfl rfl ag40 rfl (Nat.le_of_ble_eq_true rfl) (ones_of rfl) rfl) fun W29 hS30 => ?_
  show C _ _ _ _ _ _
  refine C_ret ?_
  refine done_1 (v := elV (addN (subN a b) p)) rfl (res_row rfl (hS30.at 1 rfl) ag40 rfl) ?_
  exact ⟨by rw [show addN (subN a b) p = rSub p a b from rSub_lo g0 g1 g2 (bI_eq1.1 (by assumption))], hS30.none⟩
 refine C_skip ?_
 show C _ _ _ _ _ _
 refine C_sr ?_
 refine sqv (ex_loads (vs := (el (subN a b))) rfl (hS21.at 0 rfl) ag40 rfl rfl) ?_
 refine sqUE (st_stores (v := elV (subN a b)) (cs' := (elA (subN a b))) 1 hS21 rfl rfl rfl ag40 rfl (Nat.le_of_ble_eq_true rfl) (ones_of rfl) rfl) fun W31 hS32 => ?_
 show C _ _ _ _ _ _
 refine C_ret ?_
 refine done_1 (v := elV (subN a b)) rfl (res_row rfl (hS32.at 1 rfl) ag40 rfl) ?_
 exact ⟨by rw [show subN a b = rSub p a b from rSub_hi g0 g1 g2 (fun h => absurd (bI_eq1.2 h) (by assumption))], hS32.none⟩
theorem c_rMul (p : Nat) (a : Nat) (b : Nat) (w0 : World) (g0 : p < B256) (g1 : a < p) (g2 : b < B256) : Calls Tryz.prog 58 #[elV p, elV a, elV b] w0 (Ret fun uu w' => uu = elV (rMul p a b) ∧ St [] w0 w' [] []) := by
 have hp0 : 0 < p := by omega
 refine calls_of Tryz.func58 rfl Tryz.ntmps58 (Nat.le_of_ble_eq_true rfl) ?_
 have hS0 := St.nil w0
 refine C_sr ?_
 refine sqE (st_box (v := elV p) (cs := (elA p)) hS0 rfl rfl) fun b1 W2 hS3 => ?_
 refine sqE (st_box (v := elV a) (cs := (elA a)) hS3 rfl rfl) fun b4 W5 hS6 => ?_
 refine sqE (st_box (v := elV b) (cs := (elA b)) hS6 rfl rfl) fun b7 W8 hS9 => ?_
 refine sqE (st_alloc hS9 ze40) fun b10 W11 hS12 => ?_
 show C _ _ _ _ _ _
 refine C_sr ?_
 refine sqE (st_alloc hS12 ze40) fun b13 W14 hS15 => ?_
 show C _ _ _ _ _ _
 refine C_seq ?_
 refine C_sr ?_
 refine sqv (ex_assign (v := .int .i64 255) rfl) ?_
 show C _ _ _ _ _ _
 refine C_block ?_
 refine C_loop (fun nn aa ww => ∃ (m0 : Nat → Value) (k o : Nat), nn = 256 - k ∧ aa = act 26 (upds m0 [(3, pt b1), (4, pt b4), (5, pt b7), (6, pt b10), (7, pt b13), (8, .int .i64 (255 - (k : Int)))]) [] ∧ St [] w0 ww [some (b13, .cells (elA o) 40), some (b10, .cells #[.int .u64 0, .int .u64 0, .int .u64 0, .int .u64 0] 40), some (b7, .cells (elA b) 40), some (b4, .cells (elA a) 40), some (b1, .cells (elA p) 40)] [] ∧ (k ≤ 256) ∧ (o = rMul p a (b / 2 ^ (256 - k))) ∧ (o < p)) 256 ?_ ?_
 ·exact ⟨_, 0, 0, rfl, act_upds ⟨rfl, rfl, rfl, rfl, rfl, (congrArg (Value.int .i64) (by first | rfl | omega)), trivial⟩, (St.pick (L := [some (b13, .cells #[.int .u64 0, .int .u64 0, .int .u64 0, .int .u64 0] 40), some (b10, .cells #[.int .u64 0, .int .u64 0, .int .u64 0, .int .u64 0] 40), some (b7, .cells (elA b) 40), some (b4, .cells (elA a) 40), some (b1, .cells (elA p) 40)]) hS15 [0, 1, 2, 3, 4] (by decide)), (by decide), (mul_init g2), hp0⟩
 rintro n19 a20 W17 ⟨m16, k, o, rfl, rfl, hS18, hk, ho, hop⟩
 refine C_seq ?_
 refine C_sr ?_
 refine sqv (ex_move (v := .int .i64 (255 - (k : Int))) rfl) ?_
 refine sqv (ex_cmp (x := (255 - (k : Int))) (y := 0) (r := decide (0 ≤ (255 - (k : Int)))) rfl rfl rfl) ?_
 show C _ _ _ _ _ _
 refine C_dec (0 ≤ (255 - (k : Int))) rfl (fun hc21 => ?_) (fun hc21 => ?_)
 ·refine C_skip ?_
  show C _ _ _ _ _ _
  refine C_seq ?_
  refine C_block ?_
  refine C_sr ?_
  refine sqv (ex_loads (vs := (el p)) rfl (hS18.at 4 rfl) ag40 rfl rfl) ?_
  refine sqv (ex_loads (vs := (el o)) rfl (hS18.at 0 rfl) ag40 rfl rfl) ?_
  refine sqv (ex_loads (vs := (el o)) rfl (hS18.at 0 rfl) ag40 rfl rfl) ?_
  refine sqc (exe_call (args := #[elV p, elV o, elV o]) en22 (args_of3 rfl rfl rfl)) (c_rAdd p o o W17 (by assumption) (by first | assumption | exact rAdd_lt hp0) (by assumption)) ?_
  rintro _ W22 ⟨rfl, hT24⟩
  have hS23 := hS18.call hT24
  refine sqUE (st_stores (v := elV (rAdd p o o)) (cs' := (elA (rAdd p o o))) 0 hS23 rfl rfl rfl ag40 rfl (Nat.le_of_ble_eq_true rfl) (ones_of rfl) rfl) fun W26 hS27 => ?_
  show C _ _ _ _ _ _
  refine C_sr ?_
  refine sqv (ex_loads (vs := (el b)) rfl (hS27.at 2 rfl) ag40 rfl rfl) ?_
  refine sqv (ex_move (v := .int .i64 (255 - (k : Int))) rfl) ?_
  refine sqc (exe_call (args := #[elV b, .int .i64 (255 - (k : Int))]) en102 (args_of2 rfl rfl)) (c_Bit b (255 - (k : Int)) W26 (by omega)) ?_
  rintro _ W28 ⟨rfl, hT30⟩
  have hS29 := hS27.call hT30
  refine sqv (ex_cmp (x := (bitN b ((255 - (k : Int))).toNat : Int)) (y := 1) (r := decide ((bitN b ((255 - (k : Int))).toNat : Int) = 1)) rfl rfl rfl) ?_
  show C _ _ _ _ _ _
  refine C_dec ((bitN b ((255 - (k : Int))).toNat : Int) = 1) rfl (fun hc32 => ?_) (fun hc32 => ?_)
  ·refine C_region ?_
   refine sqv (ex_loads (vs := (el p)) rfl (hS29.at 4 rfl) ag40 rfl rfl) ?_
   refine sqv (ex_loads (vs := (el (rAdd p o o))) rfl (hS29.at 0 rfl) ag40 rfl rfl) ?_
   refine sqv (ex_loads (vs := (el a)) rfl (hS29.at 3 rfl) ag40 rfl rfl) ?_
   refine sqc (exe_call (args := #[elV p, elV (rAdd p o o), elV a]) en22 (args_of3 rfl rfl rfl)) (c_rAdd p (rAdd p o o) a W28 (by assumption) (by first | assumption | exact rAdd_lt hp0) (by assumption)) ?_
   rintro _ W33 ⟨rfl, hT35⟩
   have hS34 := hS29.call hT35
   refine sqUE (st_stores (v := elV (rAdd p (rAdd p o o) a)) (cs' := (elA (rAdd p (rAdd p o o) a))) 0 hS34 rfl rfl rfl ag40 rfl (Nat.le_of_ble_eq_true rfl) (ones_of rfl) rfl) fun W37 hS38 => ?_
   refine blk_normal ?_
   show C _ _ _ _ _ _
   refine C_region ?_
   refine sqv (ex_move (v := .int .i64 (255 - (k : Int))) rfl) ?_
   refine nm ((255 - (k : Int)) - 1) fun x39 hx39 => ?_
   refine sqv (ex_sub (x := (255 - (k : Int))) (y := 1) rfl rfl (w64 hx39 (by omega))) ?_
   refine sqv (ex_assign (v := .int .i64 x39) rfl) ?_
   exact ⟨_, (by omega), ⟨_, (k + 1), (rAdd p (rAdd p o o) a), rfl, act_upds ⟨rfl, rfl, rfl, rfl, rfl, (congrArg (Value.int .i64) (by first | rfl | omega)), trivial⟩, (St.pick (L := [some (b13, .cells (elA (rAdd p (rAdd p o o) a)) 40), some (b10, .cells #[.int .u64 0, .int .u64 0, .int .u64 0, .int .u64 0] 40), some (b7, .cells (elA b) 40), some (b4, .cells (elA a) 40), some (b1, .cells (elA p) 40)]) hS38 [0, 1, 2, 3, 4] (by decide)), (by omega), (mul_step1 (by omega) ho (by have hb := hc32; rw [show (255 - (k : Int)).toNat = 255 - k from by omega] at hb; omega)), (rAdd_lt hp0)⟩⟩
  refine C_skip ?_
  refine blk_normal ?_
  show C _ _ _ _ _ _
  refine C_region ?_
  refine sqv (ex_move (v := .int .i64 (255 - (k : Int))) rfl) ?_
  refine nm ((255 - (k : Int)) - 1) fun x40 hx40 => ?_
  refine sqv (ex_sub (x := (255 - (k : Int))) (y := 1) rfl rfl (w64 hx40 (by omega))) ?_
  refine sqv (ex_assign (v := .int .i64 x40) rfl) ?_
  exact ⟨_, (by omega), ⟨_, (k + 1), (rAdd p o o), rfl, act_upds ⟨rfl, rfl, rfl, rfl, rfl, (congrArg (Value.int .i64) (by first | rfl | omega)), trivial⟩, (St.pick (L := [some (b13, .cells (elA (rAdd p o o)) 40), some (b10, .cells #[.int .u64 0, .int .u64 0, .int .u64 0, .int .u64 0] 40), some (b7, .cells (elA b) 40), some (b4, .cells (elA a) 40), some (b1, .cells (elA p) 40)]) hS29 [0, 1, 2, 3, 4] (by decide)), (by omega), (mul_step0 (by omega) ho (by have hb := hc32; rw [show (255 - (k : Int)).toNat = 255 - k from by omega] at hb; omega)), (rAdd_lt hp0)⟩⟩
 refine C_exit ?_
 refine thn_exit ?_
 refine thn_exit ?_
 refine blk_exit ?_
 show C _ _ _ _ _ _
 refine C_sr ?_
 refine sqv (ex_loads (vs := (el o)) rfl (hS18.at 0 rfl) ag40 rfl rfl) ?_
 refine sqUE (st_stores (v := elV o) (cs' := (elA o)) 1 hS18 rfl rfl rfl ag40 rfl (Nat.le_of_ble_eq_true rfl) (ones_of rfl) rfl) fun W41 hS42 => ?_
 show C _ _ _ _ _ _
 refine C_ret ?_
 refine done_1 (v := elV o) rfl (res_row rfl (hS42.at 1 rfl) ag40 rfl) ?_
 obtain rfl : k = 256 := by omega
 exact ⟨by rw [ho, show 256 - 256 = 0 from rfl, Nat.pow_zero, Nat.div_one], hS42.none⟩
theorem c_rMod (p : Nat) (a : Nat) (w0 : World) (g0 : p < B256) (g1 : 1 < p) (g2 : a < B256) : Calls Tryz.prog 21 #[elV p, elV a] w0 (Ret fun uu w' => uu = elV (rMul p 1 a) ∧ St [] w0 w' [] []) := by
 refine calls_of Tryz.func21 rfl Tryz.ntmps21 (Nat.le_of_ble_eq_true rfl) ?_
 have hS0 := St.nil w0
 refine C_sr ?_
 refine sqE (st_box (v := elV p) (cs := (elA p)) hS0 rfl rfl) fun b1 W2 hS3 => ?_
 refine sqE (st_box (v := elV a) (cs := (elA a)) hS3 rfl rfl) fun b4 W5 hS6 => ?_
 refine sqE (st_alloc hS6 ze40) fun b7 W8 hS9 => ?_
 show C _ _ _ _ _ _
 refine C_seq ?_
 refine C_draw (p := 3) (l := [(some 5, elV p), (some 6, elV 1), (some 7, elV a)]) (G := []) (J := fun w => St [] w0 w [some (b7, .cells #[.int .u64 0, .int .u64 0, .int .u64 0, .int .u64 0] 40), some (b4, .cells (elA a) 40), some (b1, .cells (elA p) 40)] []) mixed ?_ (hS9.draw _)
 refine node1 3 [] [] [] (by kernel_rfl) rfl rfl (nd rfl) rfl (by kernel_rfl) ?_ ?_ ?_
 ·intro S wd hSd
  refine ⟨n0 rfl rfl rfl (ex_loads (vs := (el p)) rfl (hSd.at 2 rfl) ag40 rfl rfl) rfl hSd, ?_, ?_, tt⟩
  ·refine needG rfl ?_
   rintro ⟨_⟩ hno
   refine dxC (wanted_none rfl) rfl (exe_call (args := #[]) en59 args_of0) (c_One wd) ?_
   rintro _ W10 ⟨rfl, hT12⟩
   have hS11 := hSd.call hT12
   exact ⟨rfl, hS11⟩
  refine needG rfl ?_
  rintro ⟨_⟩ hno
  exact dx (wanted_none rfl) rfl (ex_loads (vs := (el a)) rfl (hSd.at 1 rfl) ag40 rfl rfl) ⟨rfl, hSd⟩
 ·exact fun S wd hSd => ⟨True.intro, True.intro, True.intro, True.intro⟩
 intro _ W14 hS15
 refine sqc (exe_call (args := #[elV p, elV 1, elV a]) en58 (args_of3 rfl rfl rfl)) (c_rMul p 1 a W14 (by assumption) (by assumption) (by first | assumption | exact lt_256 (by assumption) (by assumption))) ?_
 rintro _ W16 ⟨rfl, hT18⟩
 have hS17 := hS15.call hT18
 refine sqUE (st_stores (v := elV (rMul p 1 a)) (cs' := (elA (rMul p 1 a))) 0 hS17 rfl rfl rfl ag40 rfl (Nat.le_of_ble_eq_true rfl) (ones_of rfl) rfl) fun W20 hS21 => ?_
 show C _ _ _ _ _ _
 refine C_ret ?_
 refine done_1 (v := elV (rMul p 1 a)) rfl (res_row rfl (hS21.at 0 rfl) ag40 rfl) ?_
 exact ⟨rfl, hS21.none⟩
theorem c_rRadix (p : Nat) (w0 : World) (g0 : p < B256) (g1 : 1 < p) : Calls Tryz.prog 78 #[elV p] w0 (Ret fun uu w' => uu = elV (rRad p) ∧ St [] w0 w' [] []) := by
 refine calls_of Tryz.func78 rfl Tryz.ntmps78 (Nat.le_of_ble_eq_true rfl) ?_
 have hS0 := St.nil w0
 refine C_sr ?_
 refine sqE (st_box (v := elV p) (cs := (elA p)) hS0 rfl rfl) fun b1 W2 hS3 => ?_
 refine sqE (st_alloc hS3 ze40) fun b4 W5 hS6 => ?_
 show C _ _ _ _ _ _
 refine C_sr ?_
 refine sqc (exe_call (args := #[]) en59 args_of0) (c_One W5) ?_
 rintro _ W7 ⟨rfl, hT9⟩
 have hS8 := hS6.call hT9
 refine sqE (st_alloc hS8 ze40) fun b11 W12 hS13 => ?_
 refine sqUE (st_stores (v := elV 1) (cs' := (elA 1)) 0 hS13 rfl rfl rfl ag40 rfl (Nat.le_of_ble_eq_true rfl) (ones_of rfl) rfl) fun W14 hS15 => ?_
 show C _ _ _ _ _ _
 refine C_seq ?_
 refine C_sr ?_
 refine sqv (ex_assign (v := .int .i64 0) rfl) ?_
 show C _ _ _ _ _ _
 refine C_block ?_
 refine C_loop (fun nn aa ww => ∃ (m0 : Nat → Value) (k : Nat), nn = 256 - k ∧ aa = act 15 (upds m0 [(1, pt b1), (2, pt b4), (3, pt b11), (4, .int .i64 (k : Int))]) [] ∧ St [] w0 ww [some (b11, .cells (elA (dblN p k)) 40), some (b4, .cells #[.int .u64 0, .int .u64 0, .int .u64 0, .int .u64 0] 40), some (b1, .cells (elA p) 40)] [] ∧ (k ≤ 256) ∧ (dblN p k < p)) 256 ?_ ?_
 ·exact ⟨_, 0, rfl, act_upds ⟨rfl, rfl, rfl, (congrArg (Value.int .i64) (by first | rfl | omega)), trivial⟩, (St.pick (L := [some (b11, .cells (elA 1) 40), some (b4, .cells #[.int .u64 0, .int .u64 0, .int .u64 0, .int .u64 0] 40), some (b1, .cells (elA p) 40)]) hS15 [0, 1, 2] (by decide)), (by decide), g1⟩
 rintro n19 a20 W17 ⟨m16, k, rfl, rfl, hS18, hk, hop⟩
 refine C_seq ?_
 refine C_sr ?_
 refine sqv (ex_move (v := .int .i64 (k : Int)) rfl) ?_
 refine sqv (ex_cmp (x := (k : Int)) (y := 256) (r := decide ((k : Int) < 256)) rfl rfl rfl) ?_
 show C _ _ _ _ _ _
 refine C_dec ((k : Int) < 256) rfl (fun hc21 => ?_) (fun hc21 => ?_)
 ·refine C_skip ?_
  show C _ _ _ _ _ _
  refine C_seq ?_
  refine C_block ?_
  refine C_region ?_
  refine sqv (ex_loads (vs := (el p)) rfl (hS18.at 2 rfl) ag40 rfl rfl) ?_
  refine sqv (ex_loads (vs := (el (dblN p k))) rfl (hS18.at 0 rfl) ag40 rfl rfl) ?_
  refine sqv (ex_loads (vs := (el (dblN p k))) rfl (hS18.at 0 rfl) ag40 rfl rfl) ?_
  refine sqc (exe_call (args := #[elV p, elV (dblN p k), elV (dblN p k)]) en22 (args_of3 rfl rfl rfl)) (c_rAdd p (dblN p k) (dblN p k) W17 (by assumption) (by assumption) (by assumption)) ?_
  rintro _ W22 ⟨rfl, hT24⟩
  have hS23 := hS18.call hT24
  refine sqUE (st_stores (v := elV (rAdd p (dblN p k) (dblN p k))) (cs' := (elA (rAdd p (dblN p k) (dblN p k)))) 0 hS23 rfl rfl rfl ag40 rfl (Nat.le_of_ble_eq_true rfl) (ones_of rfl) rfl) fun W26 hS27 => ?_
  refine blk_normal ?_
  show C _ _ _ _ _ _
  refine C_region ?_
  refine sqv (ex_move (v := .int .i64 (k : Int)) rfl) ?_
  refine nm ((k : Int) + 1) fun x28 hx28 => ?_
  refine sqv (ex_add (x := (k : Int)) (y := 1) rfl rfl (w64 hx28 (by omega))) ?_
  refine sqv (ex_assign (v := .int .i64 x28) rfl) ?_
  exact ⟨_, (by omega), ⟨_, (k + 1), rfl, act_upds ⟨rfl, rfl, rfl, (congrArg (Value.int .i64) (by first | rfl | omega)), trivial⟩, (St.pick (L := [some (b11, .cells (elA (rAdd p (dblN p k) (dblN p k))) 40), some (b4, .cells #[.int .u64 0, .int .u64 0, .int .u64 0, .int .u64 0] 40), some (b1, .cells (elA p) 40)]) hS27 [0, 1, 2] (by decide)), (by omega), (rAdd_lt (by omega))⟩⟩
 refine C_exit ?_
 refine thn_exit ?_
 refine thn_exit ?_
 refine blk_exit ?_
 show C _ _ _ _ _ _
 refine C_sr ?_
 refine sqv (ex_loads (vs := (el (dblN p k))) rfl (hS18.at 0 rfl) ag40 rfl rfl) ?_
 refine sqUE (st_stores (v := elV (dblN p k)) (cs' := (elA (dblN p k))) 1 hS18 rfl rfl rfl ag40 rfl (Nat.le_of_ble_eq_true rfl) (ones_of rfl) rfl) fun W29 hS30 => ?_
 show C _ _ _ _ _ _
 refine C_ret ?_
 refine done_1 (v := elV (dblN p k)) rfl (res_row rfl (hS30.at 1 rfl) ag40 rfl) ?_
 obtain rfl : k = 256 := by omega
 exact ⟨by rw [dblN_rad g1], hS30.none⟩
theorem c_rPow (p : Nat) (a : Nat) (b : Nat) (w0 : World) (g0 : p < B256) (g1 : a < p) (g2 : b < B256) (g3 : 1 < p) : Calls Tryz.prog 171 #[elV p, elV a, elV b] w0 (Ret fun uu w' => uu = elV (rPow p a b) ∧ St [] w0 w' [] []) := by
 have hp0 : 0 < p := by omega
 refine calls_of Tryz.func171 rfl Tryz.ntmps171 (Nat.le_of_ble_eq_true rfl) ?_
 have hS0 := St.nil w0
 refine C_sr ?_
 refine sqE (st_box (v := elV p) (cs := (elA p)) hS0 rfl rfl) fun b1 W2 hS3 => ?_
 refine sqE (st_box (v := elV a) (cs := (elA a)) hS3 rfl rfl) fun b4 W5 hS6 => ?_
 refine sqE (st_box (v := elV b) (cs := (elA b)) hS6 rfl rfl) fun b7 W8 hS9 => ?_
 refine sqE (st_alloc hS9 ze40) fun b10 W11 hS12 => ?_
 show C _ _ _ _ _ _
 refine C_sr ?_
 refine sqc (exe_call (args := #[]) en59 args_of0) (c_One W11) ?_
 rintro _ W13 ⟨rfl, hT15⟩
 have hS14 := hS12.call hT15
 refine sqE (st_alloc hS14 ze40) fun b17 W18 hS19 => ?_
 refine sqUE (st_stores (v := elV 1) (cs' := (elA 1)) 0 hS19 rfl rfl rfl ag40 rfl (Nat.le_of_ble_eq_true rfl) (ones_of rfl) rfl) fun W20 hS21 => ?_
 show C _ _ _ _ _ _
 refine C_seq ?_
 refine C_sr ?_
 refine sqv (ex_assign (v := .int .i64 255) rfl) ?_
 show C _ _ _ _ _ _
 refine C_block ?_
 refine C_loop (fun nn aa ww => ∃ (m0 : Nat → Value) (k o : Nat), nn = 256 - k ∧ aa = act 27 (upds m0 [(3, pt b1), (4, pt b4), (5, pt b7), (6, pt b10), (7, pt b17), (8, .int .i64 (255 - (k : Int)))]) [] ∧ St [] w0 ww [some (b17, .cells (elA o) 40), some (b10, .cells #[.int .u64 0, .int .u64 0, .int .u64 0, .int .u64 0] 40), some (b7, .cells (elA b) 40), some (b4, .cells (elA a) 40), some (b1, .cells (elA p) 40)] [] ∧ (k ≤ 256) ∧ (o = rPow p a (b / 2 ^ (256 - k))) ∧ (o < p)) 256 ?_ ?_
 ·exact ⟨_, 0, 1, rfl, act_upds ⟨rfl, rfl, rfl, rfl, rfl, (congrArg (Value.int .i64) (by first | rfl | omega)), trivial⟩, (St.pick (L := [some (b17, .cells (elA 1) 40), some (b10, .cells #[.int .u64 0, .int .u64 0, .int .u64 0, .int .u64 0] 40), some (b7, .cells (elA b) 40), some (b4, .cells (elA a) 40), some (b1, .cells (elA p) 40)]) hS21 [0, 1, 2, 3, 4] (by decide)), (by decide), (pow_init g3 g2), g3⟩
 rintro n25 a26 W23 ⟨m22, k, o, rfl, rfl, hS24, hk, ho, hop⟩
 refine C_seq ?_
 refine C_sr ?_
 refine sqv (ex_move (v := .int .i64 (255 - (k : Int))) rfl) ?_
 refine sqv (ex_cmp (x := (255 - (k : Int))) (y := 0) (r := decide (0 ≤ (255 - (k : Int)))) rfl rfl rfl) ?_
 show C _ _ _ _ _ _
 refine C_dec (0 ≤ (255 - (k : Int))) rfl (fun hc27 => ?_) (fun hc27 => ?_)
 ·refine C_skip ?_
  show C _ _ _ _ _ _
  refine C_seq ?_
  refine C_block ?_
  refine C_sr ?_
  refine sqv (ex_loads (vs := (el p)) rfl (hS24.at 4 rfl) ag40 rfl rfl) ?_
  refine sqv (ex_loads (vs := (el o)) rfl (hS24.at 0 rfl) ag40 rfl rfl) ?_
  refine sqv (ex_loads (vs := (el o)) rfl (hS24.at 0 rfl) ag40 rfl rfl) ?_
  refine sqc (exe_call (args := #[elV p, elV o, elV o]) en58 (args_of3 rfl rfl rfl)) (c_rMul p o o W23 (by assumption) (by first | assumption | exact rMul_lt hp0) (lt_256 g0 (by first | assumption | exact rMul_lt hp0))) ?_
  rintro _ W28 ⟨rfl, hT30⟩
  have hS29 := hS24.call hT30
  refine sqUE (st_stores (v := elV (rMul p o o)) (cs' := (elA (rMul p o o))) 0 hS29 rfl rfl rfl ag40 rfl (Nat.le_of_ble_eq_true rfl) (ones_of rfl) rfl) fun W32 hS33 => ?_
  show C _ _ _ _ _ _
  refine C_sr ?_
  refine sqv (ex_loads (vs := (el b)) rfl (hS33.at 2 rfl) ag40 rfl rfl) ?_
  refine sqv (ex_move (v := .int .i64 (255 - (k : Int))) rfl) ?_
  refine sqc (exe_call (args := #[elV b, .int .i64 (255 - (k : Int))]) en102 (args_of2 rfl rfl)) (c_Bit b (255 - (k : Int)) W32 (by omega)) ?_
  rintro _ W34 ⟨rfl, hT36⟩
  have hS35 := hS33.call hT36
  refine sqv (ex_cmp (x := (bitN b ((255 - (k : Int))).toNat : Int)) (y := 1) (r := decide ((bitN b ((255 - (k : Int))).toNat : Int) = 1)) rfl rfl rfl) ?_
  show C _ _ _ _ _ _
  refine C_dec ((bitN b ((255 - (k : Int))).toNat : Int) = 1) rfl (fun hc38 => ?_) (fun hc38 => ?_)
  ·refine C_region ?_
   refine sqv (ex_loads (vs := (el p)) rfl (hS35.at 4 rfl) ag40 rfl rfl) ?_
   refine sqv (ex_loads (vs := (el (rMul p o o))) rfl (hS35.at 0 rfl) ag40 rfl rfl) ?_
   refine sqv (ex_loads (vs := (el a)) rfl (hS35.at 3 rfl) ag40 rfl rfl) ?_
   refine sqc (exe_call (args := #[elV p, elV (rMul p o o), elV a]) en58 (args_of3 rfl rfl rfl)) (c_rMul p (rMul p o o) a W34 (by assumption) (by first | assumption | exact rMul_lt hp0) (lt_256 g0 (by first | assumption | exact rMul_lt hp0))) ?_
   rintro _ W39 ⟨rfl, hT41⟩
   have hS40 := hS35.call hT41
   refine sqUE (st_stores (v := elV (rMul p (rMul p o o) a)) (cs' := (elA (rMul p (rMul p o o) a))) 0 hS40 rfl rfl rfl ag40 rfl (Nat.le_of_ble_eq_true rfl) (ones_of rfl) rfl) fun W43 hS44 => ?_
   refine blk_normal ?_
   show C _ _ _ _ _ _
   refine C_region ?_
   refine sqv (ex_move (v := .int .i64 (255 - (k : Int))) rfl) ?_
   refine nm ((255 - (k : Int)) - 1) fun x45 hx45 => ?_
   refine sqv (ex_sub (x := (255 - (k : Int))) (y := 1) rfl rfl (w64 hx45 (by omega))) ?_
   refine sqv (ex_assign (v := .int .i64 x45) rfl) ?_
   exact ⟨_, (by omega), ⟨_, (k + 1), (rMul p (rMul p o o) a), rfl, act_upds ⟨rfl, rfl, rfl, rfl, rfl, (congrArg (Value.int .i64) (by first | rfl | omega)), trivial⟩, (St.pick (L := [some (b17, .cells (elA (rMul p (rMul p o o) a)) 40), some (b10, .cells #[.int .u64 0, .int .u64 0, .int .u64 0, .int .u64 0] 40), some (b7, .cells (elA b) 40), some (b4, .cells (elA a) 40), some (b1, .cells (elA p) 40)]) hS44 [0, 1, 2, 3, 4] (by decide)), (by omega), (pow_step1 (by omega) ho (by have hb := hc38; rw [show (255 - (k : Int)).toNat = 255 - k from by omega] at hb; omega)), (rMul_lt hp0)⟩⟩
  refine C_skip ?_
  refine blk_normal ?_
  show C _ _ _ _ _ _
  refine C_region ?_
  refine sqv (ex_move (v := .int .i64 (255 - (k : Int))) rfl) ?_
  refine nm ((255 - (k : Int)) - 1) fun x46 hx46 => ?_
  refine sqv (ex_sub (x := (255 - (k : Int))) (y := 1) rfl rfl (w64 hx46 (by omega))) ?_
  refine sqv (ex_assign (v := .int .i64 x46) rfl) ?_
  exact ⟨_, (by omega), ⟨_, (k + 1), (rMul p o o), rfl, act_upds ⟨rfl, rfl, rfl, rfl, rfl, (congrArg (Value.int .i64) (by first | rfl | omega)), trivial⟩, (St.pick (L := [some (b17, .cells (elA (rMul p o o)) 40), some (b10, .cells #[.int .u64 0, .int .u64 0, .int .u64 0, .int .u64 0] 40), some (b7, .cells (elA b) 40), some (b4, .cells (elA a) 40), some (b1, .cells (elA p) 40)]) hS35 [0, 1, 2, 3, 4] (by decide)), (by omega), (pow_step0 (by omega) ho (by have hb := hc38; rw [show (255 - (k : Int)).toNat = 255 - k from by omega] at hb; omega)), (rMul_lt hp0)⟩⟩
 refine C_exit ?_
 refine thn_exit ?_
 refine thn_exit ?_
 refine blk_exit ?_
 show C _ _ _ _ _ _
 refine C_sr ?_
 refine sqv (ex_loads (vs := (el o)) rfl (hS24.at 0 rfl) ag40 rfl rfl) ?_
 refine sqUE (st_stores (v := elV o) (cs' := (elA o)) 1 hS24 rfl rfl rfl ag40 rfl (Nat.le_of_ble_eq_true rfl) (ones_of rfl) rfl) fun W47 hS48 => ?_
 show C _ _ _ _ _ _
 refine C_ret ?_
 refine done_1 (v := elV o) rfl (res_row rfl (hS48.at 1 rfl) ag40 rfl) ?_
 obtain rfl : k = 256 := by omega
 exact ⟨by rw [ho, show 256 - 256 = 0 from rfl, Nat.pow_zero, Nat.div_one], hS48.none⟩
theorem c_rInv (p : Nat) (a : Nat) (w0 : World) (g0 : p < B256) (g1 : a < p) (g2 : 2 < p) : Calls Tryz.prog 155 #[elV p, elV a] w0 (Ret fun uu w' => uu = elV (rInv p a) ∧ St [] w0 w' [] []) := by
 refine calls_of Tryz.func155 rfl Tryz.ntmps155 (Nat.le_of_ble_eq_true rfl) ?_
 have hS0 := St.nil w0
 refine C_sr ?_
 refine sqE (st_box (v := elV p) (cs := (elA p)) hS0 rfl rfl) fun b1 W2 hS3 => ?_
 refine sqE (st_box (v := elV a) (cs := (elA a)) hS3 rfl rfl) fun b4 W5 hS6 => ?_
 refine sqE (st_alloc hS6 ze40) fun b7 W8 hS9 => ?_
 show C _ _ _ _ _ _
 refine C_sr ?_
 refine sqv (ex_loads (vs := (el p)) rfl (hS9.at 2 rfl) ag40 rfl rfl) ?_
 refine sqv (ex_build (vs := [(0, .int .u64 2)]) (cells := #[.int .u64 2, .int .u64 0, .int .u64 0, .int .u64 0]) rfl (by kernel_rfl)) ?_
 refine sqc (exe_call (args := #[elV p, .agg #[.int .u64 2, .int .u64 0, .int .u64 0, .int .u64 0]]) en103 (args_of2 rfl rfl)) (c_sub p 2 W8 (by assumption) (by decide)) ?_
 rintro _ W10 ⟨rfl, hT12⟩
 have hS11 := hS9.call hT12
 refine sqv (ex_move (v := .tuple #[elV (subN p 2), .int .u64 (bI (decide (p < 2)))]) rfl) ?_
 refine sqv (ex_extract (v := elV (subN p 2)) rfl rfl) ?_
 refine sqv (ex_extract (v := .int .u64 (bI (decide (p < 2)))) rfl rfl) ?_
 refine sqE (st_alloc hS11 ze40) fun b14 W15 hS16 => ?_
 refine sqUE (st_stores (v := elV (subN p 2)) (cs' := (elA (subN p 2))) 0 hS16 rfl rfl rfl ag40 rfl (Nat.le_of_ble_eq_true rfl) (ones_of rfl) rfl) fun W17 hS18 => ?_
 refine sqv (ex_assign (v := .int .u64 (bI (decide (p < 2)))) rfl) ?_
 show C _ _ _ _ _ _
 refine C_sr ?_
 refine sqv (ex_loads (vs := (el p)) rfl (hS18.at 3 rfl) ag40 rfl rfl) ?_
 refine sqv (ex_loads (vs := (el a)) rfl (hS18.at 2 rfl) ag40 rfl rfl) ?_
 refine sqv (ex_loads (vs := (el (subN p 2))) rfl (hS18.at 0 rfl) ag40 rfl rfl) ?_
 refine sqc (exe_call (args := #[elV p, elV a, elV (subN p 2)]) en171 (args_of3 rfl rfl rfl)) (c_rPow p a (subN p 2) W17 (by assumption) (by assumption) (subN_lt _ _) (by omega)) ?_
 rintro _ W19 ⟨rfl, hT21⟩
 have hS20 := hS18.call hT21
 refine sqUE (st_stores (v := elV (rPow p a (subN p 2))) (cs' := (elA (rPow p a (subN p 2)))) 1 hS20 rfl rfl rfl ag40 rfl (Nat.le_of_ble_eq_true rfl) (ones_of rfl) rfl) fun W23 hS24 => ?_
 show C _ _ _ _ _ _
 refine C_ret ?_
 refine done_1 (v := elV (rPow p a (subN p 2))) rfl (res_row rfl (hS24.at 1 rfl) ag40 rfl) ?_
 exact ⟨by rw [rInv, subN_ge (by omega) g0], hS24.none⟩
theorem c_rForm (p : Nat) (v : Nat) (w0 : World) (g0 : p < B256) (g1 : 1 < p) (g2 : v < B256) : Calls Tryz.prog 38 #[elV p, elV v] w0 (Ret fun uu w' => uu = elV (rForm p v) ∧ St [] w0 w' [] []) := by
 refine calls_of Tryz.func38 rfl Tryz.ntmps38 (Nat.le_of_ble_eq_true rfl) ?_
 have hS0 := St.nil w0
 refine C_sr ?_
 refine sqE (st_box (v := elV p) (cs := (elA p)) hS0 rfl rfl) fun b1 W2 hS3 => ?_
 refine sqE (st_box (v := elV v) (cs := (elA v)) hS3 rfl rfl) fun b4 W5 hS6 => ?_
 refine sqE (st_alloc hS6 ze40) fun b7 W8 hS9 => ?_
 show C _ _ _ _ _ _
 refine C_seq ?_
 refine C_draw (p := 5) (l := [(some 5, elV p), (some 6, elV p), (some 7, elV (rRad p)), (some 8, elV v), (some 9, elV (rMul p (rRad p) v))]) (G := []) (J := fun w => St [] w0 w [some (b7, .cells #[.int .u64 0, .int .u64 0, .int .u64 0, .int .u64 0] 40), some (b4, .cells (elA v) 40), some (b1, .cells (elA p) 40)] []) mixed ?_ (hS9.draw _)
 refine node1 5 [] [] [] (by kernel_rfl) rfl rfl (nd rfl) rfl (by kernel_rfl) ?_ ?_ ?_
 ·intro S wd hSd
  refine ⟨n0 rfl rfl rfl (ex_loads (vs := (el p)) rfl (hSd.at 2 rfl) ag40 rfl rfl) rfl hSd, n0 rfl rfl rfl (ex_loads (vs := (el p)) rfl (hSd.at 2 rfl) ag40 rfl rfl) rfl hSd, ?_, n0 rfl rfl rfl (ex_loads (vs := (el v)) rfl (hSd.at 1 rfl) ag40 rfl rfl) rfl hSd, ?_, tt⟩
  ·refine needG rfl ?_
   rintro ⟨hq1, _⟩ hno
   refine dxC (wanted_none rfl) rfl (exe_call (args := #[elV p]) en78 (args_of1 (evS hq1 rfl rfl))) (c_rRadix p wd (by assumption) (by assumption)) ?_
   rintro _ W10 ⟨rfl, hT12⟩
   have hS11 := hSd.call hT12
   exact ⟨rfl, hS11⟩
  refine needG rfl ?_
  rintro ⟨hq0, hq2, hq3, hq2, _⟩ hno
  refine dxC (wanted_none rfl) rfl (exe_call (args := #[elV p, elV (rRad p), elV v]) en58 (args_of3 (evS hq0 rfl rfl) (evS hq2 rfl rfl) (evS hq3 rfl rfl))) (c_rMul p (rRad p) v wd (by assumption) (Nat.mod_lt _ (by omega)) (by first | assumption | exact lt_256 (by assumption) (by assumption))) ?_
  rintro _ W14 ⟨rfl, hT16⟩
  have hS15 := hSd.call hT16
  exact ⟨rfl, hS15⟩
 ·exact fun S wd hSd => ⟨True.intro, True.intro, True.intro, True.intro, True.intro, True.intro⟩
 intro _ W18 hS19
 refine sqUE (st_stores (v := elV (rMul p (rRad p) v)) (cs' := (elA (rMul p (rRad p) v))) 0 hS19 rfl rfl rfl ag40 rfl (Nat.le_of_ble_eq_true rfl) (ones_of rfl) rfl) fun W20 hS21 => ?_
 show C _ _ _ _ _ _
 refine C_ret ?_
 refine done_1 (v := elV (rMul p (rRad p) v)) rfl (res_row rfl (hS21.at 0 rfl) ag40 rfl) ?_
 exact ⟨rfl, hS21.none⟩
end Go.Proofs
end
