/- AuditEvents holds: the events that the audit records are those of the reference, for all arguments that the statement admits, with no further condition. Part 9 of 12. -/
import Derived.Test.YtfhpmpmmckkgbaaGreatDoorE8
set_option linter.unusedVariables false
set_option linter.unusedSimpArgs false
set_option linter.unusedSectionVars false
section
set_option linter.unusedVariables false
set_option linter.unusedSimpArgs false
set_option maxRecDepth 20000
set_option maxHeartbeats 2000000
namespace Go.Proofs
open Sc
theorem en23 : enters Tryz.prog 23 = true := by kernel_rfl
theorem en53 : enters Tryz.prog 53 = true := by kernel_rfl
theorem addKey_len (ks : List Int) (k : Int) : (addKey ks k).length = if k ∈ ks then ks.length else ks.length + 1 := by unfold addKey; split <;> simp
theorem kf_le : ∀ (xs acc : List Int), (xs.foldl addKey acc).length ≤ acc.length + xs.length
  | [], acc => Nat.le_refl _
  | x :: xs, acc => by
    have := kf_le xs (addKey acc x)
    have := addKey_len acc x
    simp only [List.foldl_cons, List.length_cons]
    split at this <;> omega
theorem kf_eq : ∀ (xs acc : List Int), (xs.foldl addKey acc).length = acc.length + xs.length ↔ xs.Nodup ∧ ∀ x ∈ xs, x ∉ acc
  | [], acc => by simp
  | x :: xs, acc => by
    simp only [List.foldl_cons, List.length_cons, List.nodup_cons]
    by_cases h : x ∈ acc
    · have h1 := kf_le xs acc
      rw [show addKey acc x = acc from if_pos h]
      constructor
      · intro h2; omega
      · rintro ⟨_, h2⟩; exact absurd h (h2 x List.mem_cons_self)
    · rw [show addKey acc x = acc ++ [x] from if_neg h]
      have ih := kf_eq xs (acc ++ [x])
      rw [List.length_append, List.length_singleton] at ih
      rw [show acc.length + (xs.length + 1) = acc.length + 1 + xs.length from by omega, ih]
      constructor
      · rintro ⟨h1, h2⟩
        refine ⟨⟨fun hx => h2 x hx (by simp), h1⟩, fun y hy => ?_⟩
        rcases List.mem_cons.1 hy with rfl | hy
        · exact h
        · exact fun hya => h2 y hy (by simp [hya])
      · rintro ⟨⟨h1, h2⟩, h3⟩
        refine ⟨h2, fun y hy => ?_⟩
        intro hya
        rcases List.mem_append.1 hya with hya | hya
        · exact h3 y (List.mem_cons_of_mem _ hy) hya
        · simp at hya; subst hya; exact h1 hy
theorem keys_lt (xs : List Int) : (keysOf' xs).length < xs.length ↔ ¬ xs.Nodup := by
 have h1 := kf_le xs []
 have h2 := kf_eq xs []
 unfold keysOf'
 simp only [List.length_nil, Nat.zero_add, List.not_mem_nil, not_false_eq_true, implies_true, and_true] at h1 h2
 rw [← h2]; omega
theorem ckEach_0 : ∀ {l : List Sh}, (∀ s ∈ l, ckSh s = 0) → ckEach l = 0
  | [], _ => rfl
  | a :: l, h => by rw [ckEach, if_neg (by simp [h a List.mem_cons_self])]; exact ckEach_0 fun s hs => h s (List.mem_cons_of_mem _ hs)
theorem ckShs_iff {l : List Sh} : ckShs l = 0 ↔ ∃ s0, l[0]? = some s0 ∧ (∀ s ∈ l, ckSh s = 0 ∧ s.f = s0.f ∧ s.t = s0.t ∧ s.n = s0.n) ∧ (idxL l).Nodup ∧ s0.t ≤ (l.length : Int) := by
 constructor
 ·intro h
  obtain ⟨s0, ha⟩ := acc_of h
  have hE : ckEach l = 0 := by
    unfold ckShs at h
    split at h
    · contradiction
    · omega
  have hK : ¬ (keysOf' (l.map (·.i))).length < l.length := by
    unfold ckShs at h
    rw [if_neg (by omega)] at h
    split at h
    · contradiction
    · split at h
      · contradiction
      · assumption
  refine ⟨s0, ha.h0, fun s hs => ?_, ?_, ha.t1.2.2⟩
  ·have h1 := ha.hd s hs
   have h2 := ha.hd s0 (List.mem_of_getElem? ha.h0)
   exact ⟨ckEach_all hE s hs, h1.1.trans h2.1.symm, h1.2.1, h1.2.2.1⟩
  have := keys_lt (idxL l)
  rw [idxL_len] at this
  exact Classical.byContradiction fun hn => hK (this.2 hn)
 rintro ⟨s0, h0, h1, h2, h3⟩
 have hE : ckEach l = 0 := ckEach_0 fun s hs => (h1 s hs).1
 unfold ckShs
 cases l with
 | nil => simp at h0
 | cons a l =>
   simp at h0; subst h0
   have hM : mixH (a :: l) = false := by
     refine List.any_eq_false.2 fun s hs => ?_
     have := (h1 s (List.mem_cons_of_mem _ hs)).2
     simp [sameH, this]
   have hK := keys_lt (idxL (a :: l))
   rw [idxL_len] at hK; unfold idxL at hK
   rw [if_neg (by omega), if_neg (by simp [hM]), if_neg fun hlt => (hK.1 hlt) h2]
   simp only; rw [if_neg (by omega)]
theorem idx_omit (l : List Sh) (i : Nat) : (idxL (omitL l i)).Sublist (idxL l) := by
 unfold idxL omitL
 refine List.Sublist.map _ ?_
 calc (l.take i ++ l.drop (i + 1)).Sublist (l.take i ++ l.drop i) := List.Sublist.append (List.Sublist.refl _) (by rw [show i + 1 = i + 1 from rfl, ← List.drop_drop]; exact List.drop_sublist _ _)
   _ = l := List.take_append_drop i l
theorem acc_omit {F : PrF} {l : List Sh} {s0 : Sh} (h : Acc F l s0) {i : Nat} (hi : i < l.length) (ht : s0.t < l.length) : ∃ z, Acc F (omitL l i) z ∧ z.t = s0.t ∧ z.p.length = s0.p.length := by
 have hlen := omit_len hi
 have h1 := h.t1
 obtain ⟨z, hz⟩ := get_lt (omitL l i) 0 (by omega)
 have hzm := omit_sub l i z (List.mem_of_getElem? hz)
 obtain ⟨s, hs0, hs1, hs2, hs3⟩ := ckShs_iff.1 h.ck
 have hzd := h.hd z hzm
 have hck : ckShs (omitL l i) = 0 := ckShs_iff.2 ⟨z, hz, fun x hx => by
   have hxm := omit_sub l i x hx
   have h2 := h.hd x hxm
   exact ⟨(hs1 x hxm).1, h2.1.trans hzd.1.symm, h2.2.1.trans hzd.2.1.symm, h2.2.2.1.trans hzd.2.2.1.symm⟩, (idx_omit l i).nodup hs2, by rw [hzd.2.1]; omega⟩
 obtain ⟨z', ha⟩ := acc_of hck
 obtain rfl : z = z' := Option.some.inj (hz.symm.trans ha.h0)
 rw [fieldOf'_eq h.ok hzd.1] at ha
 exact ⟨z, ha, hzd.2.1, hzd.2.2.2⟩
theorem sus_step {F : PrF} {l : List Sh} {K : Int} {m i : Nat} {o : List Int} (h : o = susL F l K m i) {t : Bool} (ht : conB F (omitL l i) K m = t) {o' : List Int} (ho : o' = if t then o ++ [(i : Int)] else o) : o' = susL F l K m (i + 1) := by
 rw [ho, susL, ht, h]; cases t <;> simp
theorem len_cS (x : Sh) : (cS x).length = 5 := rfl
theorem c_Suspects (F : PrF) (s0 : Sh) (s : Value) (l : List Sh) (Z0 : List Fact) (t : Value) (ev : List Ev) (Lt : List Ent) (w0 : World) (g0 : Acc F l s0) (g1 : ∀ s ∈ l, ∀ y ∈ s.p, y < B256) (g2 : l.length < 900) (g3 : s0.t < l.length) (g4 : ev.length + l.length * (s0.p.length * 2000000 + 1) < 1099511627776) (g5 : s0.p.length < 100000) (hZ0 : Holds w0 Z0) (hO0 : Off (bks Lt) Z0) (hs_s : Shs Z0 46 49 s l) (hG : Cells Z0 0 0 gC) (hT : Tp t ev Lt) (hL0 : St (bks Lt) w0 w0 Lt []) : Calls Tryz.prog 15 #[t, s] w0 (Ret fun uu w' => ∃ (v : Value), ∃ (en : Ent), ∃ (Lt' : List Ent), uu = .tuple #[v, .int .i64 0] ∧ (Own 3 1 cI v (susL F l s0.t s0.p.length (l).length) en) ∧ Tp t (ev ++ (sEv (l).length s0.t s0.p.length (l).length)) Lt' ∧ St (bks Lt) w0 w' ([en] ++ Lt') []) := by
 have hF := g0.ok
 have hlen := sl_lt (f := cS) (k := 5) (fun _ => rfl) (by decide) hs_s.1
 have hl0 : 0 < l.length := (List.getElem?_eq_some_iff.1 g0.h0).1
 have hs0 := (List.getElem?_eq_some_iff.1 g0.h0).2
 have h0m : s0 ∈ l := List.mem_of_getElem? g0.h0
 have h0f := (g0.hd s0 h0m).1
 have hpl0 := sl_lt (f := el) (k := 4) (fun _ => rfl) (by decide) (hs_s.2 s0 h0m)
 refine calls_of Tryz.func15 rfl Tryz.ntmps15 (Nat.le_of_ble_eq_true rfl) ?_
 have hS0 := hL0
 refine C_sr ?_
 refine sqv (ex_assign (v := .slice none 0 0) rfl) ?_
 refine sqv (ex_assign (v := .int .i64 0) rfl) ?_
 show C _ _ _ _ _ _
 refine C_seq ?_
 refine C_sr ?_
 refine sqv (ex_move (v := s) rfl) ?_
 refine sqc (exe_call (args := #[s]) en51 (args_of1 rfl)) (c_CheckShares s l Z0 w0 g1 (by omega) (hS0.holdsA hZ0 hO0) (hs_s) (hG)) ?_
 rintro _ W1 ⟨rfl, hT3⟩
 have hS2 := hS0.call hT3
 refine sqv (ex_assign (v := .int .i64 (ckShs l)) rfl) ?_
 show C _ _ _ _ _ _
 refine C_sr ?_
 refine sqv (ex_move (v := .int .i64 (ckShs l)) rfl) ?_
 refine sqv (ex_cmp (x := (ckShs l)) (y := 0) (r := decide ((ckShs l) ≠ 0)) rfl rfl rfl) ?_
 show C _ _ _ _ _ _
 refine C_dec ((ckShs l) ≠ 0) rfl (fun hc5 => ?_) (fun hc5 => ?_)
 ·exact absurd g0.ck (by assumption)
 refine C_skip ?_
 show C _ _ _ _ _ _
 refine C_seq ?_
 refine C_sr ?_
 refine sqv (ex_move (v := s) rfl) ?_
 refine sqv (ex_lenO (f := cS) (k := 5) (r := (l.length : Int)) (fun _ => rfl) (by decide) ((hs_s).1) rfl sl22 rfl) ?_
 refine sqv (ex_move (v := s) rfl) ?_
 obtain ⟨b6, o7, hI8, hC9⟩ := sl_at (f := cS) (k := 5) (fun _ => rfl) (by decide) ((hs_s).1) g0.h0
 refine sqv (ex_sindexO hI8 rfl rfl sl22 (by omega)) ?_
 refine sqv (ex_field (o' := (o7 + 1)) rfl fi46_1 rfl) ?_
 refine sqv (ex_loadC (r := 1) (u := .int .i64 s0.t) hC9 (hS2.holdsA hZ0 hO0) rfl on3 rfl rfl) ?_
 refine sqv (ex_cmp (x := (l.length : Int)) (y := s0.t) (r := decide ((l.length : Int) ≤ s0.t)) rfl rfl rfl) ?_
 show C _ _ _ _ _ _
 refine C_dec ((l.length : Int) ≤ s0.t) rfl (fun hc10 => ?_) (fun hc10 => ?_)
 ·exfalso; omega
 refine C_skip ?_
 show C _ _ _ _ _ _
 refine C_sr ?_
 refine sqv (ex_assign (v := .slice none 0 0) rfl) ?_
 show C _ _ _ _ _ _
 refine C_seq ?_
 refine C_sr ?_
 refine sqv (ex_move (v := s) rfl) ?_
 refine sqv (ex_lenO (f := cS) (k := 5) (r := (l.length : Int)) (fun _ => rfl) (by decide) ((hs_s).1) rfl sl22 rfl) ?_
 refine sqv (ex_move (v := .int .i64 0) rfl) ?_
 show C _ _ _ _ _ _
 refine C_block ?_
 have hS11 := St.non hS2
 refine C_loop (fun nn aa ww => ∃ (m0 : Nat → Value) (i : Nat) (v : Value) (en : Ent) (o : List Int) (Lu : List Ent), nn = l.length - i ∧ aa = act 55 (upds m0 [(0, t), (1, s), (4, .slice none 0 0), (5, .int .i64 0), (7, v), (25, .int .i64 (l.length : Int)), (26, .int .i64 (i : Int))]) [] ∧ St (bks Lt) w0 ww ([en] ++ Lu) [] ∧ (i ≤ l.length) ∧ (Own 3 1 cI v o en) ∧ (o = susL F l s0.t s0.p.length i) ∧ (Tp t (ev ++ sEv l.length s0.t s0.p.length i) Lu)) l.length ?_ ?_
 ·exact ⟨_, 0, (.slice none 0 0), none, [], Lt, rfl, act_upds ⟨rfl, rfl, rfl, (congrArg (Value.int .i64) (by first | rfl | omega)), rfl, (congrArg (Value.int .i64) (by first | rfl | omega)), (congrArg (Value.int .i64) (by first | rfl | omega)), trivial⟩, (St.pickB (Lf := [none]) hS11 [0] (by decide) rfl), (Nat.zero_le _), (Own.nil _ _ _), rfl, (by rw [show ∀ n K m, sEv n K m 0 = [] from fun _ _ _ => rfl, List.append_nil]; exact hT)⟩
 rintro n15 a16 W13 ⟨m12, i, v, en, o, Lu, rfl, rfl, hS14, hi, hO, ho, hUu⟩
 have hol : o.length ≤ i := by rw [ho]; exact susL_len _ _ _ _ _
 refine C_sr ?_
 refine sqv (ex_cmp (x := (i : Int)) (y := (l.length : Int)) (r := decide ((i : Int) < (l.length : Int))) rfl rfl rfl) ?_
 show C _ _ _ _ _ _
 refine C_seq ?_
 refine C_dec ((i : Int) < (l.length : Int)) rfl (fun hc17 => ?_) (fun hc17 => ?_)
 ·refine C_skip ?_
  show C _ _ _ _ _ _
  refine C_seq ?_
  refine C_block ?_
  refine C_sr ?_
  refine sqv (ex_move (v := .int .i64 (i : Int)) rfl) ?_
  refine sqv (ex_assign (v := .int .i64 (i : Int)) rfl) ?_
  show C _ _ _ _ _ _
  refine C_sr ?_
  refine sqv (ex_move (v := t) rfl) ?_
  refine sqv (ex_move (v := .int .i64 (i : Int)) rfl) ?_
  refine sqc (exe_call (args := #[t, .int .i64 5, .int .i64 (i : Int), .int .i64 0]) en52 (args_of4 rfl rfl rfl rfl)) (c_Note 5 (i : Int) 0 t (ev ++ sEv l.length s0.t s0.p.length i) Lu W13 (by have := sEv_len (n := l.length) (by omega) s0.t s0.p.length i; have h4 := Nat.mul_le_mul_right (s0.p.length * 2000000 + 1) (show i + 1 ≤ l.length by omega); rw [Nat.add_mul] at h4; simp only [List.length_append, List.length_cons, List.length_nil]; omega) hUu (St.lend (Lf := [en]) hS14)) ?_
  rintro _ W18 ⟨Lt22, rfl, hU23, hT20⟩
  have hS19 := St.callS (Lf := [en]) (Ln := []) hS14 hT20
  show C _ _ _ _ _ _
  refine C_seq ?_
  have hc24 := sl_cap (f := cS) (k := 5) (fun _ => rfl) (by decide) ((hs_s).1)
  refine nm (cutv s 5 0 i i) fun v26 hv26 => ?_
  have hs25 := sl_cutM (f := cS) (k := 5) (fun _ => rfl) (by decide) ((hs_s).1) 0 i i (by first | omega | (simp only [List.length_set, List.length_replicate, List.length_append, List.length_take, List.length_drop, List.length_cons, List.length_nil]; omega)) (by first | omega | (simp only [List.length_set, List.length_replicate, List.length_append, List.length_take, List.length_drop, List.length_cons, List.length_nil]; omega)) (by first | omega | (simp only [List.length_set, List.length_replicate, List.length_append, List.length_take, List.length_drop, List.length_cons, List.length_nil]; omega)) (by first | omega | (simp only [List.length_set, List.length_replicate, List.length_append, List.length_take, List.length_drop, List.length_cons, List.length_nil]; omega))
  rw [← hv26] at hs25
  rw [List.drop_zero] at hs25
  refine nm ((i : Int) + 1) fun x28 hx28 => ?_
  have hj29 : x28 = (((i + 1) : Nat) : Int) := by omega
  have hc30 := sl_cap (f := cS) (k := 5) (fun _ => rfl) (by decide) ((hs_s).1)
  refine nm (cutv s 5 (i + 1) l.length (capv s)) fun v32 hv32 => ?_
  have hs31 := sl_cutM (f := cS) (k := 5) (fun _ => rfl) (by decide) ((hs_s).1) (i + 1) l.length (capv s) (by first | omega | (simp only [List.length_set, List.length_replicate, List.length_append, List.length_take, List.length_drop, List.length_cons, List.length_nil]; omega)) (by first | omega | (simp only [List.length_set, List.length_replicate, List.length_append, List.length_take, List.length_drop, List.length_cons, List.length_nil]; omega)) (by first | omega | (simp only [List.length_set, List.length_replicate, List.length_append, List.length_take, List.length_drop, List.length_cons, List.length_nil]; omega)) (by first | omega | (simp only [List.length_set, List.length_replicate, List.length_append, List.length_take, List.length_drop, List.length_cons, List.length_nil]; omega))
  rw [← hv32] at hs31
  rw [List.take_length] at hs31
  refine C_draw (p := 9) (l := [(some 32, s), (some 33, .int .i64 (i : Int)), (some 34, .int .i64 (i : Int)), (some 35, v26), (some 36, s), (some 37, .int .i64 (i : Int)), (some 38, .int .i64 x28), (some 39, v32), (some 40, undef)]) (G := [8]) (J := fun w => St (bks Lt) w0 w ([en] ++ Lt22) []) mixed ?_ (hS19.draw _)
  refine node1 9 [8] [] [] (by kernel_rfl) rfl rfl (nd rfl) rfl (by kernel_rfl) ?_ ?_ ?_
  ·intro S wd hSd
   refine ⟨n0 rfl rfl rfl (ex_move (v := s) rfl) rfl hSd, n0 rfl rfl rfl (ex_move (v := .int .i64 (i : Int)) rfl) rfl hSd, n0 rfl rfl rfl (ex_move (v := .int .i64 (i : Int)) rfl) rfl hSd, ?_, n0 rfl rfl rfl (ex_move (v := s) rfl) rfl hSd, n0 rfl rfl rfl (ex_move (v := .int .i64 (i : Int)) rfl) rfl hSd, n1 rfl rfl rfl rfl (fun hq5 => (ex_add (x := (i : Int)) (y := 1) (evS hq5 rfl rfl) rfl (w64 hx28 (by omega)))) rfl hSd, n2 rfl rfl rfl rfl (fun hq4 hq6 => (ex_cutE hv32 (f := cS) (k := 5) (l := (i + 1)) (hh := l.length) (m := (capv s)) (fun _ => rfl) (by decide) ((hs_s).1) (evS hq4 rfl rfl) sl22 ⟨_, _, (evS hq6 rfl rfl), (by omega)⟩ rfl rfl (by decide) (by first | omega | (simp only [List.length_set, List.length_replicate, List.length_append, List.length_take, List.length_drop, List.length_cons, List.length_nil]; omega)) (by first | omega | (simp only [List.length_set, List.length_replicate, List.length_append, List.length_take, List.length_drop, List.length_cons, List.length_nil]; omega)) (by first | omega | (simp only [List.length_set, List.length_replicate, List.length_append, List.length_take, List.length_drop, List.length_cons, List.length_nil]; omega)) (by first | omega | (simp only [List.length_set, List.length_replicate, List.length_append, List.length_take, List.length_drop, List.length_cons, List.length_nil]; omega)))) rfl hSd, sG rfl, tt⟩
   refine needG rfl ?_
   rintro ⟨hq0, hq1, hq2, _⟩ hno
   exact dx (wanted_none rfl) rfl (ex_cutE hv26 (f := cS) (k := 5) (l := 0) (hh := i) (m := i) (fun _ => rfl) (by decide) ((hs_s).1) (evS hq0 rfl rfl) sl22 rfl ⟨_, _, (evS hq1 rfl rfl), rfl⟩ ⟨_, _, (evS hq2 rfl rfl), rfl⟩ (by decide) (by first | omega | (simp only [List.length_set, List.length_replicate, List.length_append, List.length_take, List.length_drop, List.length_cons, List.length_nil]; omega)) (by first | omega | (simp only [List.length_set, List.length_replicate, List.length_append, List.length_take, List.length_drop, List.length_cons, List.length_nil]; omega)) (by first | omega | (simp only [List.length_set, List.length_replicate, List.length_append, List.length_take, List.length_drop, List.length_cons, List.length_nil]; omega)) (by first | omega | (simp only [List.length_set, List.length_replicate, List.length_append, List.length_take, List.length_drop, List.length_cons, List.length_nil]; omega))) ⟨rfl, hSd⟩
  ·intro S wd hSd
   refine ⟨tt, tt, tt, tt, tt, tt, tt, tt, ?_, tt⟩
   refine needH rfl ?_
   rintro ⟨hq3, hq7, _⟩ hno
   refine dxA (wanted_none rfl) rfl (st_appendO hSd ((hs_s).cut hs25 (fun z hz => List.mem_of_mem_take hz)).1 ((hs_s).cut hs31 (fun z hz => List.mem_of_mem_drop hz)).1 (hSd.holdsA hZ0 hO0) (fun a n c h => by have := capv_cut hs_s.1 0 i i (Nat.zero_le _) (Nat.le_refl _) (hv26.symm.trans h); omega) (evS hq3 rfl rfl) (evS hq7 rfl rfl) sl22 ze46 rfl (by decide) (l.length - 1) (by simp only [List.length_append, fm_length len_cS, List.length_take, List.length_drop]; omega) (by omega) (by simp only [maxLen]; omega)) fun u34 en35 W36 ⟨hS37, ho38⟩ => ?_
   refine ⟨fun w => St (bks Lt) w0 w ([en35, en] ++ Lt22) [], [(some 32, s), (some 33, .int .i64 (i : Int)), (some 34, .int .i64 (i : Int)), (some 35, v26), (some 36, s), (some 37, .int .i64 (i : Int)), (some 38, .int .i64 x28), (some 39, v32), (some 40, u34)], [], hS37, by kernel_rfl, ⟨rfl, rfl, rfl, rfl, rfl, rfl, rfl, rfl, rfl, rfl, rfl, rfl, rfl, rfl, rfl, rfl, rfl, True.intro, True.intro⟩, rfl, ?_⟩
   show Sc.Node _ _ _ _ _ _ _ 9 [(some 32, s), (some 33, .int .i64 (i : Int)), (some 34, .int .i64 (i : Int)), (some 35, v26), (some 36, s), (some 37, .int .i64 (i : Int)), (some 38, .int .i64 x28), (some 39, v32), (some 40, u34)] [] [8] _
   refine node1 9 [] [8] [] (by kernel_rfl) rfl rfl (nd rfl) rfl (by kernel_rfl) ?_ ?_ ?_
   ·intro S wd hSd
    refine ⟨n0 rfl rfl rfl (ex_move (v := s) rfl) rfl hSd, n0 rfl rfl rfl (ex_move (v := .int .i64 (i : Int)) rfl) rfl hSd, n0 rfl rfl rfl (ex_move (v := .int .i64 (i : Int)) rfl) rfl hSd, ?_, n0 rfl rfl rfl (ex_move (v := s) rfl) rfl hSd, n0 rfl rfl rfl (ex_move (v := .int .i64 (i : Int)) rfl) rfl hSd, n1 rfl rfl rfl rfl (fun hq5 => (ex_add (x := (i : Int)) (y := 1) (evS hq5 rfl rfl) rfl (w64 hx28 (by omega)))) rfl hSd, n2 rfl rfl rfl rfl (fun hq4 hq6 => (ex_cutE hv32 (f := cS) (k := 5) (l := (i + 1)) (hh := l.length) (m := (capv s)) (fun _ => rfl) (by decide) ((hs_s).1) (evS hq4 rfl rfl) sl22 ⟨_, _, (evS hq6 rfl rfl), (by omega)⟩ rfl rfl (by decide) (by first | omega | (simp only [List.length_set, List.length_replicate, List.length_append, List.length_take, List.length_drop, List.length_cons, List.length_nil]; omega)) (by first | omega | (simp only [List.length_set, List.length_replicate, List.length_append, List.length_take, List.length_drop, List.length_cons, List.length_nil]; omega)) (by first | omega | (simp only [List.length_set, List.length_replicate, List.length_append, List.length_take, List.length_drop, List.length_cons, List.length_nil]; omega)) (by first | omega | (simp only [List.length_set, List.length_replicate, List.length_append, List.length_take, List.length_drop, List.length_cons, List.length_nil]; omega)))) rfl hSd, sG rfl, tt⟩
    refine needG rfl ?_
    rintro ⟨hq0, hq1, hq2, _⟩ hno
    exact dx (wanted_none rfl) rfl (ex_cutE hv26 (f := cS) (k := 5) (l := 0) (hh := i) (m := i) (fun _ => rfl) (by decide) ((hs_s).1) (evS hq0 rfl rfl) sl22 rfl ⟨_, _, (evS hq1 rfl rfl), rfl⟩ ⟨_, _, (evS hq2 rfl rfl), rfl⟩ (by decide) (by first | omega | (simp only [List.length_set, List.length_replicate, List.length_append, List.length_take, List.length_drop, List.length_cons, List.length_nil]; omega)) (by first | omega | (simp only [List.length_set, List.length_replicate, List.length_append, List.length_take, List.length_drop, List.length_cons, List.length_nil]; omega)) (by first | omega | (simp only [List.length_set, List.length_replicate, List.length_append, List.length_take, List.length_drop, List.length_cons, List.length_nil]; omega)) (by first | omega | (simp only [List.length_set, List.length_replicate, List.length_append, List.length_take, List.length_drop, List.length_cons, List.length_nil]; omega))) ⟨rfl, hSd⟩
   ·exact fun S wd hSd => ⟨True.intro, True.intro, True.intro, True.intro, True.intro, True.intro, True.intro, True.intro, True.intro, True.intro⟩
   intro _ W39 hS40
   refine sqv (ex_assign (v := u34) rfl) ?_
   show C _ _ _ _ _ _
   refine C_sr ?_
   refine sqv (ex_move (v := t) rfl) ?_
   refine sqv (ex_move (v := u34) rfl) ?_
   refine sqc_in (exe_call (args := #[u34]) en53 (args_of1 rfl)) fun R41 hR42 => ?_
   refine calls_of Tryz.func53 rfl Tryz.ntmps53 (Nat.le_of_ble_eq_true rfl) ?_
   refine C_sr ?_
   refine sqv (ex_assign (v := .slice none 0 0) rfl) ?_
   show C _ _ _ _ _ _
   refine C_sr ?_
   refine sqv (ex_move (v := u34) rfl) ?_
   refine sqv (ex_move (v := u34) rfl) ?_
   refine sqv (ex_lenO (f := cS) (k := 5) (r := ((omitL l i).length : Int)) (fun _ => rfl) (by decide) (((show Shs (entF en35 ++ Z0) 46 49 u34 (omitL l i) from shs_app ((hs_s).cut hs25 (fun z hz => List.mem_of_mem_take hz)) ((hs_s).cut hs31 (fun z hz => List.mem_of_mem_drop hz)) ho38)).1) rfl sl22 rfl) ?_
   refine sqv (ex_move (v := u34) rfl) ?_
   refine sqv (ex_lenO (f := cS) (k := 5) (r := ((omitL l i).length : Int)) (fun _ => rfl) (by decide) (((show Shs (entF en35 ++ Z0) 46 49 u34 (omitL l i) from shs_app ((hs_s).cut hs25 (fun z hz => List.mem_of_mem_take hz)) ((hs_s).cut hs31 (fun z hz => List.mem_of_mem_drop hz)) ho38)).1) rfl sl22 rfl) ?_
   have hc43 := sl_cap (f := cS) (k := 5) (fun _ => rfl) (by decide) (((show Shs (entF en35 ++ Z0) 46 49 u34 (omitL l i) from shs_app ((hs_s).cut hs25 (fun z hz => List.mem_of_mem_take hz)) ((hs_s).cut hs31 (fun z hz => List.mem_of_mem_drop hz)) ho38)).1)
   refine nm (cutv u34 5 0 ((omitL l i).length) ((omitL l i).length)) fun v45 hv45 => ?_
   have hs44 := sl_cutM (f := cS) (k := 5) (fun _ => rfl) (by decide) (((show Shs (entF en35 ++ Z0) 46 49 u34 (omitL l i) from shs_app ((hs_s).cut hs25 (fun z hz => List.mem_of_mem_take hz)) ((hs_s).cut hs31 (fun z hz => List.mem_of_mem_drop hz)) ho38)).1) 0 ((omitL l i).length) ((omitL l i).length) (by first | omega | (simp only [List.length_set, List.length_replicate, List.length_append, List.length_take, List.length_drop, List.length_cons, List.length_nil]; omega)) (by first | omega | (simp only [List.length_set, List.length_replicate, List.length_append, List.length_take, List.length_drop, List.length_cons, List.length_nil]; omega)) (by first | omega | (simp only [List.length_set, List.length_replicate, List.length_append, List.length_take, List.length_drop, List.length_cons, List.length_nil]; omega)) (by first | omega | (simp only [List.length_set, List.length_replicate, List.length_append, List.length_take, List.length_drop, List.length_cons, List.length_nil]; omega))
   rw [← hv45] at hs44
   rw [List.take_length] at hs44
   rw [List.drop_zero] at hs44
   refine sqv (ex_cutE hv45 (f := cS) (k := 5) (l := 0) (hh := ((omitL l i).length)) (m := ((omitL l i).length)) (fun _ => rfl) (by decide) (((show Shs (entF en35 ++ Z0) 46 49 u34 (omitL l i) from shs_app ((hs_s).cut hs25 (fun z hz => List.mem_of_mem_take hz)) ((hs_s).cut hs31 (fun z hz => List.mem_of_mem_drop hz)) ho38)).1) rfl sl22 rfl ⟨_, _, rfl, rfl⟩ ⟨_, _, rfl, rfl⟩ (by decide) (by first | omega | (simp only [List.length_set, List.length_replicate, List.length_append, List.length_take, List.length_drop, List.length_cons, List.length_nil]; omega)) (by first | omega | (simp only [List.length_set, List.length_replicate, List.length_append, List.length_take, List.length_drop, List.length_cons, List.length_nil]; omega)) (by first | omega | (simp only [List.length_set, List.length_replicate, List.length_append, List.length_take, List.length_drop, List.length_cons, List.length_nil]; omega)) (by first | omega | (simp only [List.length_set, List.length_replicate, List.length_append, List.length_take, List.length_drop, List.length_cons, List.length_nil]; omega))) ?_
   refine sqv (ex_assign (v := v45) rfl) ?_
   show C _ _ _ _ _ _
   refine C_ret ?_
   refine done_1 (v := v45) rfl rfl ?_
   refine hR42 _ _ ?_
   obtain ⟨z, hza, hzt, hzp⟩ := acc_omit g0 (show i < l.length by omega) (by omega)
   have hom := omit_len (show i < l.length by omega)
   refine sqc (exe_call (args := #[t, v45]) en23 (args_of2 rfl rfl)) (c_Consistent F z v45 (omitL l i) ((entF en35 ++ Z0) ++ Z0) t ((ev ++ sEv l.length s0.t s0.p.length i) ++ ([⟨5, (i : Int), 0⟩])) Lt22 W39 hza (fun s hs => g1 s (omit_sub l i s hs)) (by omega) (by have := sEv_len (n := l.length) (by omega) s0.t s0.p.length i; have h4 := Nat.mul_le_mul_right (s0.p.length * 2000000 + 1) (show i + 1 ≤ l.length by omega); rw [Nat.add_mul] at h4; rw [hzp]; simp only [List.length_append, List.length_cons, List.length_nil]; omega) (Holds.app (Holds.app (hS40.entH 0 rfl) (hS40.holdsA hZ0 hO0)) (hS40.holdsA hZ0 hO0)) (Off.app (Off.app (St.offE (Lf := [en35, en]) hS40 0 rfl) (St.off0 (Lf := [en35, en]) hS40 hZ0 hO0)) (St.off0 (Lf := [en35, en]) hS40 hZ0 hO0)) ((((show Shs (entF en35 ++ Z0) 46 49 u34 (omitL l i) from shs_app ((hs_s).cut hs25 (fun z hz => List.mem_of_mem_take hz)) ((hs_s).cut hs31 (fun z hz => List.mem_of_mem_drop hz)) ho38)).cut hs44 (fun z hz => hz)).mono fun _ hp => (List.mem_append_left _ hp)) ((hG).mono fun _ hp => (List.mem_append_right _ hp)) hU23 (St.lend (Lf := [en35, en]) hS40)) ?_
   rintro _ W47 ⟨Lt51, rfl, hU52, hT49⟩
   have hS48 := St.callS (Lf := [en35, en]) (Ln := []) hS40 hT49
   refine sqv (ex_move (v := .tuple #[.bool (conB F (omitL l i) z.t z.p.length), .int .i64 0]) rfl) ?_
   refine sqv (ex_extract (v := .bool (conB F (omitL l i) z.t z.p.length)) rfl rfl) ?_
   refine sqv (ex_extract (v := .int .i64 0) rfl rfl) ?_
   refine sqv (ex_assign (v := .bool (conB F (omitL l i) z.t z.p.length)) rfl) ?_
   refine sqv (ex_assign (v := .int .i64 0) rfl) ?_
   show C _ _ _ _ _ _
   refine C_sr ?_
   refine sqv (ex_move (v := .bool (conB F (omitL l i) z.t z.p.length)) rfl) ?_
   show C _ _ _ _ _ _
   refine C_if (t := conB F (omitL l i) z.t z.p.length) rfl (fun hc53 => ?_) (fun hc53 => ?_)
   ·refine C_region ?_
    refine sqv (ex_move (v := v) rfl) ?_
    refine sqv (ex_move (v := .int .i64 (i : Int)) rfl) ?_
    refine sqE (st_bslice (vs := [.int .i64 (i : Int)]) hS48 sl25 ze3 rfl (by simp [Value.cells]) rfl (by decide)) fun b54 W55 hS56 => ?_
    refine sqA (st_appendM (f := cI) (k := 1) (xs := o) (ys := [(i : Int)]) (fun _ => rfl) (fun _ => ones_of rfl) (by decide) 2 hS56 (hO) ((sl_row (f := cI) (k := 1) (t := 3) (b := b54) (n := 1) (cs := #[.int .i64 (i : Int)]) (ys := [(i : Int)]) (fun _ => rfl) rfl (Nat.le_of_ble_eq_true rfl) rfl)) (hS56.entH 0 rfl) rfl rfl rfl sl25 ze3 rfl (by simp only [List.length_append, List.length_cons, List.length_nil, maxLen]; omega) (by simp only [List.length_append, List.length_cons, List.length_nil, maxLen]; omega)) fun u57 en58 W59 ⟨hS60, ho61⟩ => ?_
    refine sqv (ex_assign (v := u57) rfl) ?_
    refine blk_normal ?_
    show C _ _ _ _ _ _
    refine C_region ?_
    refine nm ((i : Int) + 1) fun x62 hx62 => ?_
    refine sqv (ex_add (x := (i : Int)) (y := 1) rfl rfl (w64 hx62 (by omega))) ?_
    refine sqv (ex_move (v := .int .i64 x62) rfl) ?_
    exact ⟨_, (by omega), ⟨_, (i + 1), u57, en58, (o ++ ([(i : Int)])), Lt51, rfl, act_upds ⟨rfl, rfl, rfl, (congrArg (Value.int .i64) (by first | rfl | omega)), rfl, (congrArg (Value.int .i64) (by first | rfl | omega)), (congrArg (Value.int .i64) (by first | rfl | omega)), trivial⟩, (St.pickB (Lf := [some (b54, .cells #[.int .i64 (i : Int)] 3), en35, en58]) hS60 [2] (by decide) rfl), (by omega), ho61, (sus_step ho (t := true) (by rw [← hzt, ← hzp]; assumption) rfl), (by rw [sEv, show l.length - 1 = (omitL l i).length from by omega]; simpa only [hzt, hzp, List.append_assoc, List.cons_append, List.nil_append] using hU52)⟩⟩
   refine C_skip ?_
   refine blk_normal ?_
   show C _ _ _ _ _ _
   refine C_region ?_
   refine nm ((i : Int) + 1) fun x63 hx63 => ?_
   refine sqv (ex_add (x := (i : Int)) (y := 1) rfl rfl (w64 hx63 (by omega))) ?_
   refine sqv (ex_move (v := .int .i64 x63) rfl) ?_
   exact ⟨_, (by omega), ⟨_, (i + 1), v, en, o, Lt51, rfl, act_upds ⟨rfl, rfl, rfl, (congrArg (Value.int .i64) (by first | rfl | omega)), rfl, (congrArg (Value.int .i64) (by first | rfl | omega)), (congrArg (Value.int .i64) (by first | rfl | omega)), trivial⟩, (St.pickB (Lf := [en35, en]) hS48 [1] (by decide) rfl), (by omega), hO, (sus_step ho (t := false) (by rw [← hzt, ← hzp]; assumption) rfl), (by rw [sEv, show l.length - 1 = (omitL l i).length from by omega]; simpa only [hzt, hzp, List.append_assoc, List.cons_append, List.nil_append] using hU52)⟩⟩
  exact fun h => absurd h (by decide)
 refine C_exit ?_
 refine thn_exit ?_
 refine thn_exit ?_
 refine blk_exit ?_
 show C _ _ _ _ _ _
 refine C_sr ?_
 refine sqv (ex_move (v := v) rfl) ?_
 refine sqv (ex_assign (v := v) rfl) ?_
 refine sqv (ex_assign (v := .int .i64 0) rfl) ?_
 show C _ _ _ _ _ _
 refine C_ret ?_
 refine done_2 (v1 := v) (v2 := .int .i64 0) rfl rfl rfl ?_
 obtain rfl : i = l.length := by omega
 exact ⟨_, _, _, rfl, by rw [← ho]; exact hO, hUu, (St.pickB (Lf := [en]) hS14 [0] (by decide) rfl).less (fun _ h => absurd h (by simp))⟩
end Go.Proofs
end
section
set_option linter.unusedVariables false
set_option linter.unusedSimpArgs false
set_option maxRecDepth 20000
set_option maxHeartbeats 2000000
namespace Go.Proofs
open Sc
theorem c_Bit (a : Nat) (x : Int) (w0 : World) (g0 : 0 ≤ x ∧ x ≤ 255) : Calls Tryz.prog 102 #[elV a, .int .i64 x] w0 (Ret fun uu w' => uu = .int .u64 (bitN a (x).toNat : Int) ∧ St [] w0 w' [] []) := by
 refine calls_of Tryz.func102 rfl Tryz.ntmps102 (Nat.le_of_ble_eq_true rfl) ?_
 have hS0 := St.nil w0
 refine C_sr ?_
 refine sqE (st_box (v := elV a) (cs := (elA a)) hS0 rfl rfl) fun b1 W2 hS3 => ?_
 refine sqv (ex_assign (v := .int .u64 0) rfl) ?_
 show C _ _ _ _ _ _
 refine C_seq ?_
 refine C_sr ?_
 refine sqv (ex_move (v := .int .i64 x) rfl) ?_
 refine sqv (ex_cmp (x := x) (y := 255) (r := decide (255 < x)) rfl rfl rfl) ?_
 show C _ _ _ _ _ _
 refine C_dec (255 < x) rfl (fun hc4 => ?_) (fun hc4 => ?_)
 ·exfalso; omega
 refine C_skip ?_
 show C _ _ _ _ _ _
 refine C_sr ?_
 refine sqv (ex_move (v := .int .i64 x) rfl) ?_
 refine nm (x / 64) fun x5 hx5 => ?_
 refine sqv (ex_quo (x := x) (y := 64) rfl rfl (by omega) (w64q (hx5.trans (Int.tdiv_eq_ediv_of_nonneg (by omega)).symm) (by rw [Int.tdiv_eq_ediv_of_nonneg (by omega)]; omega))) ?_
 obtain ⟨j6, hj7⟩ := ex_nat x5 (by omega)
 refine sqv (ex_index (j := x5) (o' := j6 * 1) rfl rfl ar40 (by omega) (by omega) (by omega)) ?_
 obtain ⟨y8, hy9⟩ := get_lt ([limb a 0, limb a 1, limb a 2, limb a 3]) j6 (by first | omega | (simp only [List.length_set, List.length_replicate, List.length_append, List.length_take, List.length_drop, List.length_cons, List.length_nil, List.length_map]; omega))
 refine sqv (ex_loadM (f := cU) (i := j6) (fun _ => rfl) rfl (hS3.at 0 rfl) on39 rfl hy9 rfl) ?_
 have hyr : 0 ≤ y8 ∧ y8 < 18446744073709551616 := by rw [limbs4 hy9]; exact ⟨limb_nonneg _ _, limb_lt _ _⟩
 refine sqv (ex_assign (v := .int .u64 y8) rfl) ?_
 show C _ _ _ _ _ _
 refine C_seq ?_
 refine C_sr ?_
 refine sqv (ex_assign (v := .int .i64 0) rfl) ?_
 show C _ _ _ _ _ _
 refine C_block ?_
 refine C_loop (fun nn aa ww => ∃ (m0 : Nat → Value) (k : Nat) (w : Int), nn = x.toNat % 64 - k ∧ aa = act 23 (upds m0 [(1, .int .i64 x), (4, .int .u64 0), (5, .int .u64 w), (6, .int .i64 (k : Int))]) [] ∧ St [] w0 ww [some (b1, .cells (([limb a 0, limb a 1, limb a 2, limb a 3]).flatMap cU).toArray 40)] [] ∧ (k ≤ x.toNat % 64) ∧ (0 ≤ w ∧ w < 18446744073709551616) ∧ (w = y8 / (2 : Int) ^ k)) (x.toNat % 64) ?_ ?_
 ·exact ⟨_, 0, y8, rfl, act_upds ⟨(congrArg (Value.int .i64) (by first | rfl | omega)), (congrArg (Value.int .u64) (by first | rfl | omega)), (congrArg (Value.int .u64) (by first | rfl | omega)), (congrArg (Value.int .i64) (by first | rfl | omega)), trivial⟩, (St.pick (L := [some (b1, .cells (([limb a 0, limb a 1, limb a 2, limb a 3]).flatMap cU).toArray 40)]) hS3 [0] (by decide)), (Nat.zero_le _), hyr, (by rw [Int.pow_zero, Int.ediv_one])⟩
 rintro n13 a14 W11 ⟨m10, k, w, rfl, rfl, hS12, hk, hwr, hw⟩
 refine C_seq ?_
 refine C_sr ?_
 refine sqv (ex_move (v := .int .i64 (k : Int)) rfl) ?_
 refine sqv (ex_move (v := .int .i64 x) rfl) ?_
 refine nm (x % 64) fun x15 hx15 => ?_
 refine sqv (ex_rem (x := x) (y := 64) rfl rfl (by omega) (hx15.trans (Int.tmod_eq_emod_of_nonneg (by omega)).symm)) ?_
 refine sqv (ex_cmp (x := (k : Int)) (y := x15) (r := decide ((k : Int) < x15)) rfl rfl rfl) ?_
 show C _ _ _ _ _ _
 refine C_dec ((k : Int) < x15) rfl (fun hc16 => ?_) (fun hc16 => ?_)
 ·refine C_skip ?_
  show C _ _ _ _ _ _
  refine C_seq ?_
  refine C_block ?_
  refine C_region ?_
  refine sqv (ex_move (v := .int .u64 w) rfl) ?_
  refine nm (w / 2) fun x17 hx17 => ?_
  refine sqv (ex_quo (x := w) (y := 2) rfl rfl (by omega) (wuq hx17 (by omega) (by decide))) ?_
  refine sqv (ex_assign (v := .int .u64 x17) rfl) ?_
  refine blk_normal ?_
  show C _ _ _ _ _ _
  refine C_region ?_
  refine sqv (ex_move (v := .int .i64 (k : Int)) rfl) ?_
  refine nm ((k : Int) + 1) fun x18 hx18 => ?_
  refine sqv (ex_add (x := (k : Int)) (y := 1) rfl rfl (w64 hx18 (by omega))) ?_
  refine sqv (ex_assign (v := .int .i64 x18) rfl) ?_
  exact ⟨_, (by omega), ⟨_, (k + 1), x17, rfl, act_upds ⟨(congrArg (Value.int .i64) (by first | rfl | omega)), (congrArg (Value.int .u64) (by first | rfl | omega)), (congrArg (Value.int .u64) (by first | rfl | omega)), (congrArg (Value.int .i64) (by first | rfl | omega)), trivial⟩, (St.pick (L := [some (b1, .cells (([limb a 0, limb a 1, limb a 2, limb a 3]).flatMap cU).toArray 40)]) hS12 [0] (by decide)), (by omega), (by omega), (half_step hw hx17)⟩⟩
 refine C_exit ?_
 refine thn_exit ?_
 refine thn_exit ?_
 refine blk_exit ?_
 show C _ _ _ _ _ _
 refine C_sr ?_
 refine sqv (ex_move (v := .int .u64 w) rfl) ?_
 refine nm (w % 2) fun x19 hx19 => ?_
 refine sqv (ex_rem (x := w) (y := 2) rfl rfl (by omega) (hx19.trans (Int.tmod_eq_emod_of_nonneg (by omega)).symm)) ?_
 refine sqv (ex_assign (v := .int .u64 x19) rfl) ?_
 show C _ _ _ _ _ _
 refine C_ret ?_
 refine done_1 (v := .int .u64 x19) rfl rfl ?_
 exact ⟨congrArg _ (by rw [hx19]; exact bit_done (x := x.toNat) hy9 (by omega) (by omega) hw), (St.pick (L := [some (b1, .cells (([limb a 0, limb a 1, limb a 2, limb a 3]).flatMap cU).toArray 40)]) hS12 [] (by decide))⟩
theorem c_Sum (a : Nat) (b : Nat) (w0 : World) (g0 : a < B256) (g1 : b < B256) : Calls Tryz.prog 60 #[elV a, elV b] w0 (Ret fun uu w' => uu = .tuple #[elV (addN a b), .int .u64 (bI (decide (B256 ≤ a + b)))] ∧ St [] w0 w' [] []) := by
 refine calls_of Tryz.func60 rfl Tryz.ntmps60 (Nat.le_of_ble_eq_true rfl) ?_
 have hS0 := St.nil w0
 refine C_sr ?_
 refine sqE (st_box (v := elV a) (cs := (elA a)) hS0 rfl rfl) fun b1 W2 hS3 => ?_
 refine sqE (st_box (v := elV b) (cs := (elA b)) hS3 rfl rfl) fun b4 W5 hS6 => ?_
 refine sqE (st_alloc hS6 ze40) fun b7 W8 hS9 => ?_
 refine sqv (ex_assign (v := .int .u64 0) rfl) ?_
 show C _ _ _ _ _ _
 refine C_sr ?_
 refine sqE (st_alloc hS9 ze40) fun b10 W11 hS12 => ?_
 show C _ _ _ _ _ _
 refine C_sr ?_
 refine sqv (ex_assign (v := .int .u64 0) rfl) ?_
 show C _ _ _ _ _ _
 refine C_seq ?_
 refine C_sr ?_
 refine sqv (ex_assign (v := .int .i64 0) rfl) ?_
 show C _ _ _ _ _ _
 refine C_block ?_
 refine C_loop (fun nn aa ww => ∃ (m0 : Nat → Value) (k : Nat) (c : Int) (o : List Int), nn = 4 - k ∧ aa = act 38 (upds m0 [(2, pt b1), (3, pt b4), (4, pt b7), (5, .int .u64 0), (6, pt b10), (7, .int .u64 c), (8, .int .i64 (k : Int))]) [] ∧ St [] w0 ww [some (b10, .cells (o.flatMap cU).toArray 40), some (b7, .cells #[.int .u64 0, .int .u64 0, .int .u64 0, .int .u64 0] 40), some (b4, .cells (([limb b 0, limb b 1, limb b 2, limb b 3]).flatMap cU).toArray 40), some (b1, .cells (([limb a 0, limb a 1, limb a 2, limb a 3]).flatMap cU).toArray 40)] [] ∧ (k ≤ 4) ∧ (o.length = 4) ∧ (∀ z ∈ o, 0 ≤ z ∧ z < 18446744073709551616) ∧ (c = 0 ∨ c = 1) ∧ (lo o k + c * (18446744073709551616 : Int) ^ k = lo [limb a 0, limb a 1, limb a 2, limb a 3] k + lo [limb b 0, limb b 1, limb b 2, limb b 3] k)) 4 ?_ ?_
 ·exact ⟨_, 0, 0, [0, 0, 0, 0], rfl, act_upds ⟨rfl, rfl, rfl, (congrArg (Value.int .u64) (by first | rfl | omega)), rfl, (congrArg (Value.int .u64) (by first | rfl | omega)), (congrArg (Value.int .i64) (by first | rfl | omega)), trivial⟩, (St.pick (L := [some (b10, .cells (([0, 0, 0, 0]).flatMap cU).toArray 40), some (b7, .cells #[.int .u64 0, .int .u64 0, .int .u64 0, .int .u64 0] 40), some (b4, .cells (([limb b 0, limb b 1, limb b 2, limb b 3]).flatMap cU).toArray 40), some (b1, .cells (([limb a 0, limb a 1, limb a 2, limb a 3]).flatMap cU).toArray 40)]) hS12 [0, 1, 2, 3] (by decide)), (by decide), rfl, (by intro z hz; simp at hz; rw [hz]; decide), (by decide), rfl⟩
 rintro n16 a17 W14 ⟨m13, k, c, o, rfl, rfl, hS15, hk, hol, hor, hc, hs⟩
 refine C_seq ?_
 refine C_sr ?_
 refine sqv (ex_move (v := .int .i64 (k : Int)) rfl) ?_
 refine sqv (ex_cmp (x := (k : Int)) (y := 4) (r := decide ((k : Int) < 4)) rfl rfl rfl) ?_
 show C _ _ _ _ _ _
 refine C_dec ((k : Int) < 4) rfl (fun hc18 => ?_) (fun hc18 => ?_)
 ·refine C_skip ?_
  show C _ _ _ _ _ _
  refine C_seq ?_
  refine C_block ?_
  refine C_sr ?_
  refine sqv (ex_move (v := .int .i64 (k : Int)) rfl) ?_
  refine sqv (ex_index (j := (k : Int)) (o' := k * 1) rfl rfl ar40 (by omega) (by omega) (by omega)) ?_
  obtain ⟨y19, hy20⟩ := get_lt ([limb a 0, limb a 1, limb a 2, limb a 3]) k (by first | omega | (simp only [List.length_set, List.length_replicate, List.length_append, List.length_take, List.length_drop, List.length_cons, List.length_nil, List.length_map]; omega))
  have hky19 := limb_rng hy20
  refine sqv (ex_loadM (f := cU) (i := k) (fun _ => rfl) rfl (hS15.at 3 rfl) on39 rfl hy20 rfl) ?_
  refine sqv (ex_move (v := .int .u64 c) rfl) ?_
  refine nm ((y19 + c) % 18446744073709551616) fun x21 hx21 => ?_
  refine sqv (ex_add (x := y19) (y := c) rfl rfl (wu64 hx21)) ?_
  refine sqv (ex_assign (v := .int .u64 x21) rfl) ?_
  show C _ _ _ _ _ _
  refine C_sr ?_
  refine sqv (ex_assign (v := .int .u64 0) rfl) ?_
  show C _ _ _ _ _ _
  refine C_seq ?_
  refine C_sr ?_
  refine sqv (ex_move (v := .int .u64 x21) rfl) ?_
  refine sqv (ex_move (v := .int .u64 c) rfl) ?_
  refine sqv (ex_cmp (x := x21) (y := c) (r := decide (x21 < c)) rfl rfl rfl) ?_
  show C _ _ _ _ _ _
  refine C_dec (x21 < c) rfl (fun hc22 => ?_) (fun hc22 => ?_)
  ·refine C_region ?_
   refine sqv (ex_assign (v := .int .u64 1) rfl) ?_
   show C _ _ _ _ _ _
   refine C_sr ?_
   refine sqv (ex_move (v := .int .i64 (k : Int)) rfl) ?_
   refine sqv (ex_move (v := .int .u64 x21) rfl) ?_
   refine sqv (ex_move (v := .int .i64 (k : Int)) rfl) ?_
   refine sqv (ex_index (j := (k : Int)) (o' := k * 1) rfl rfl ar40 (by omega) (by omega) (by omega)) ?_
   obtain ⟨y23, hy24⟩ := get_lt ([limb b 0, limb b 1, limb b 2, limb b 3]) k (by first | omega | (simp only [List.length_set, List.length_replicate, List.length_append, List.length_take, List.length_drop, List.length_cons, List.length_nil, List.length_map]; omega))
   have hky23 := limb_rng hy24
   refine sqv (ex_loadM (f := cU) (i := k) (fun _ => rfl) rfl (hS15.at 2 rfl) on39 rfl hy24 rfl) ?_
   refine nm ((x21 + y23) % 18446744073709551616) fun x25 hx25 => ?_
   refine sqv (ex_add (x := x21) (y := y23) rfl rfl (wu64 hx25)) ?_
   refine sqv (ex_index (j := (k : Int)) (o' := k * 1) rfl rfl ar40 (by omega) (by omega) (by omega)) ?_
   refine sqUE (st_storeM (f := cU) (z := x25) (i' := k) (fun _ => rfl) 0 hS15 rfl rfl rfl on39 rfl (by first | omega | (simp only [List.length_set, List.length_replicate, List.length_append, List.length_take, List.length_drop]; omega)) rfl rfl rfl) fun W26 hS27 => ?_
   show C _ _ _ _ _ _
   refine C_seq ?_
   refine C_sr ?_
   refine sqv (ex_move (v := .int .i64 (k : Int)) rfl) ?_
   refine sqv (ex_index (j := (k : Int)) (o' := k * 1) rfl rfl ar40 (by omega) (by omega) (by omega)) ?_
   obtain ⟨y28, hy29⟩ := get_lt (o.set k x25) k (by first | omega | (simp only [List.length_set, List.length_replicate, List.length_append, List.length_take, List.length_drop, List.length_cons, List.length_nil, List.length_map]; omega))
   have hky28 := setk_get (by omega) hy29
   refine sqv (ex_loadM (f := cU) (i := k) (fun _ => rfl) rfl (hS27.at 0 rfl) on39 rfl hy29 rfl) ?_
   refine sqv (ex_move (v := .int .u64 x21) rfl) ?_
   refine sqv (ex_cmp (x := y28) (y := x21) (r := decide (y28 < x21)) rfl rfl rfl) ?_
   show C _ _ _ _ _ _
   refine C_dec (y28 < x21) rfl (fun hc30 => ?_) (fun hc30 => ?_)
   ·refine C_region ?_
    refine sqv (ex_assign (v := .int .u64 1) rfl) ?_
    show C _ _ _ _ _ _
    refine C_region ?_
    refine sqv (ex_move (v := .int .u64 1) rfl) ?_
    refine sqv (ex_assign (v := .int .u64 1) rfl) ?_
    refine blk_normal ?_
    show C _ _ _ _ _ _
    refine C_region ?_
    refine sqv (ex_move (v := .int .i64 (k : Int)) rfl) ?_
    refine nm ((k : Int) + 1) fun x31 hx31 => ?_
    refine sqv (ex_add (x := (k : Int)) (y := 1) rfl rfl (w64 hx31 (by omega))) ?_
    refine sqv (ex_assign (v := .int .i64 x31) rfl) ?_
    exact ⟨_, (by omega), ⟨_, (k + 1), 1, (o.set k x25), rfl, act_upds ⟨rfl, rfl, rfl, (congrArg (Value.int .u64) (by first | rfl | omega)), rfl, (congrArg (Value.int .u64) (by first | rfl | omega)), (congrArg (Value.int .i64) (by first | rfl | omega)), trivial⟩, (St.pick (L := [some (b10, .cells ((o.set k x25).flatMap cU).toArray 40), some (b7, .cells #[.int .u64 0, .int .u64 0, .int .u64 0, .int .u64 0] 40), some (b4, .cells (([limb b 0, limb b 1, limb b 2, limb b 3]).flatMap cU).toArray 40), some (b1, .cells (([limb a 0, limb a 1, limb a 2, limb a 3]).flatMap cU).toArray 40)]) hS27 [0, 1, 2, 3] (by decide)), (by omega), (by rw [List.length_set]; exact hol), (all_setI hor (by omega)), (by omega), (sum_step hs hy20 hy24 (by omega) (by omega))⟩⟩
   refine C_skip ?_
   show C _ _ _ _ _ _
   refine C_region ?_
   refine sqv (ex_move (v := .int .u64 1) rfl) ?_
   refine sqv (ex_assign (v := .int .u64 1) rfl) ?_
   refine blk_normal ?_
   show C _ _ _ _ _ _
   refine C_region ?_
   refine sqv (ex_move (v := .int .i64 (k : Int)) rfl) ?_
   refine nm ((k : Int) + 1) fun x32 hx32 => ?_
   refine sqv (ex_add (x := (k : Int)) (y := 1) rfl rfl (w64 hx32 (by omega))) ?_
   refine sqv (ex_assign (v := .int .i64 x32) rfl) ?_
   exact ⟨_, (by omega), ⟨_, (k + 1), 1, (o.set k x25), rfl, act_upds ⟨rfl, rfl, rfl, (congrArg (Value.int .u64) (by first | rfl | omega)), rfl, (congrArg (Value.int .u64) (by first | rfl | omega)), (congrArg (Value.int .i64) (by first | rfl | omega)), trivial⟩, (St.pick (L := [some (b10, .cells ((o.set k x25).flatMap cU).toArray 40), some (b7, .cells #[.int .u64 0, .int .u64 0, .int .u64 0, .int .u64 0] 40), some (b4, .cells (([limb b 0, limb b 1, limb b 2, limb b 3]).flatMap cU).toArray 40), some (b1, .cells (([limb a 0, limb a 1, limb a 2, limb a 3]).flatMap cU).toArray 40)]) hS27 [0, 1, 2, 3] (by decide)), (by omega), (by rw [List.length_set]; exact hol), (all_setI hor (by omega)), (by omega), (sum_step hs hy20 hy24 (by omega) (by omega))⟩⟩
  refine C_skip ?_
  show C _ _ _ _ _ _
  refine C_sr ?_
  refine sqv (ex_move (v := .int .i64 (k : Int)) rfl) ?_
  refine sqv (ex_move (v := .int .u64 x21) rfl) ?_
  refine sqv (ex_move (v := .int .i64 (k : Int)) rfl) ?_
  refine sqv (ex_index (j := (k : Int)) (o' := k * 1) rfl rfl ar40 (by omega) (by omega) (by omega)) ?_
  obtain ⟨y33, hy34⟩ := get_lt ([limb b 0, limb b 1, limb b 2, limb b 3]) k (by first | omega | (simp only [List.length_set, List.length_replicate, List.length_append, List.length_take, List.length_drop, List.length_cons, List.length_nil, List.length_map]; omega))
  have hky33 := limb_rng hy34
  refine sqv (ex_loadM (f := cU) (i := k) (fun _ => rfl) rfl (hS15.at 2 rfl) on39 rfl hy34 rfl) ?_
  refine nm ((x21 + y33) % 18446744073709551616) fun x35 hx35 => ?_
  refine sqv (ex_add (x := x21) (y := y33) rfl rfl (wu64 hx35)) ?_
  refine sqv (ex_index (j := (k : Int)) (o' := k * 1) rfl rfl ar40 (by omega) (by omega) (by omega)) ?_
  refine sqUE (st_storeM (f := cU) (z := x35) (i' := k) (fun _ => rfl) 0 hS15 rfl rfl rfl on39 rfl (by first | omega | (simp only [List.length_set, List.length_replicate, List.length_append, List.length_take, List.length_drop]; omega)) rfl rfl rfl) fun W36 hS37 => ?_
  show C _ _ _ _ _ _
  refine C_seq ?_
  refine C_sr ?_
  refine sqv (ex_move (v := .int .i64 (k : Int)) rfl) ?_
  refine sqv (ex_index (j := (k : Int)) (o' := k * 1) rfl rfl ar40 (by omega) (by omega) (by omega)) ?_
  obtain ⟨y38, hy39⟩ := get_lt (o.set k x35) k (by first | omega | (simp only [List.length_set, List.length_replicate, List.length_append, List.length_take, List.length_drop, List.length_cons, List.length_nil, List.length_map]; omega))
  have hky38 := setk_get (by omega) hy39
  refine sqv (ex_loadM (f := cU) (i := k) (fun _ => rfl) rfl (hS37.at 0 rfl) on39 rfl hy39 rfl) ?_
  refine sqv (ex_move (v := .int .u64 x21) rfl) ?_
  refine sqv (ex_cmp (x := y38) (y := x21) (r := decide (y38 < x21)) rfl rfl rfl) ?_
  show C _ _ _ _ _ _
  refine C_dec (y38 < x21) rfl (fun hc40 => ?_) (fun hc40 => ?_)
  ·refine C_region ?_
   refine sqv (ex_assign (v := .int .u64 1) rfl) ?_
   show C _ _ _ _ _ _
   refine C_region ?_
   refine sqv (ex_move (v := .int .u64 1) rfl) ?_
   refine sqv (ex_assign (v := .int .u64 1) rfl) ?_
   refine blk_normal ?_
   show C _ _ _ _ _ _
   refine C_region ?_
   refine sqv (ex_move (v := .int .i64 (k : Int)) rfl) ?_
   refine nm ((k : Int) + 1) fun x41 hx41 => ?_
   refine sqv (ex_add (x := (k : Int)) (y := 1) rfl rfl (w64 hx41 (by omega))) ?_
   refine sqv (ex_assign (v := .int .i64 x41) rfl) ?_
   exact ⟨_, (by omega), ⟨_, (k + 1), 1, (o.set k x35), rfl, act_upds ⟨rfl, rfl, rfl, (congrArg (Value.int .u64) (by first | rfl | omega)), rfl, (congrArg (Value.int .u64) (by first | rfl | omega)), (congrArg (Value.int .i64) (by first | rfl | omega)), trivial⟩, (St.pick (L := [some (b10, .cells ((o.set k x35).flatMap cU).toArray 40), some (b7, .cells #[.int .u64 0, .int .u64 0, .int .u64 0, .int .u64 0] 40), some (b4, .cells (([limb b 0, limb b 1, limb b 2, limb b 3]).flatMap cU).toArray 40), some (b1, .cells (([limb a 0, limb a 1, limb a 2, limb a 3]).flatMap cU).toArray 40)]) hS37 [0, 1, 2, 3] (by decide)), (by omega), (by rw [List.length_set]; exact hol), (all_setI hor (by omega)), (by omega), (sum_step hs hy20 hy34 (by omega) (by omega))⟩⟩
  refine C_skip ?_
  show C _ _ _ _ _ _
  refine C_region ?_
  refine sqv (ex_move (v := .int .u64 0) rfl) ?_
  refine sqv (ex_assign (v := .int .u64 0) rfl) ?_
  refine blk_normal ?_
  show C _ _ _ _ _ _
  refine C_region ?_
  refine sqv (ex_move (v := .int .i64 (k : Int)) rfl) ?_
  refine nm ((k : Int) + 1) fun x42 hx42 => ?_
  refine sqv (ex_add (x := (k : Int)) (y := 1) rfl rfl (w64 hx42 (by omega))) ?_
  refine sqv (ex_assign (v := .int .i64 x42) rfl) ?_
  exact ⟨_, (by omega), ⟨_, (k + 1), 0, (o.set k x35), rfl, act_upds ⟨rfl, rfl, rfl, (congrArg (Value.int .u64) (by first | rfl | omega)), rfl, (congrArg (Value.int .u64) (by first | rfl | omega)), (congrArg (Value.int .i64) (by first | rfl | omega)), trivial⟩, (St.pick (L := [some (b10, .cells ((o.set k x35).flatMap cU).toArray 40), some (b7, .cells #[.int .u64 0, .int .u64 0, .int .u64 0, .int .u64 0] 40), some (b4, .cells (([limb b 0, limb b 1, limb b 2, limb b 3]).flatMap cU).toArray 40), some (b1, .cells (([limb a 0, limb a 1, limb a 2, limb a 3]).flatMap cU).toArray 40)]) hS37 [0, 1, 2, 3] (by decide)), (by omega), (by rw [List.length_set]; exact hol), (all_setI hor (by omega)), (by omega), (sum_step hs hy20 hy34 (by omega) (by omega))⟩⟩
 refine C_exit ?_
 refine thn_exit ?_
 refine thn_exit ?_
 refine blk_exit ?_
 show C _ _ _ _ _ _
 refine C_sr ?_
 obtain rfl : k = 4 := by omega
 obtain ⟨ho4, hc4⟩ := sum_done g0 g1 hol hor hc hs
 subst ho4
 subst hc4
 refine sqv (ex_loads (vs := (el (addN a b))) rfl (hS15.at 0 rfl) ag40 rfl rfl) ?_
 refine sqv (ex_move (v := .int .u64 (bI (decide (B256 ≤ a + b)))) rfl) ?_
 refine sqUE (st_stores (v := elV (addN a b)) (cs' := (elA (addN a b))) 1 hS15 rfl rfl rfl ag40 rfl (Nat.le_of_ble_eq_true rfl) (ones_of rfl) rfl) fun W43 hS44 => ?_
 refine sqv (ex_assign (v := .int .u64 (bI (decide (B256 ≤ a + b)))) rfl) ?_
 show C _ _ _ _ _ _
 refine C_ret ?_
 refine done_2 (v1 := elV (addN a b)) (v2 := .int .u64 (bI (decide (B256 ≤ a + b)))) rfl (res_row rfl (hS44.at 1 rfl) ag40 rfl) rfl ?_
 exact ⟨rfl, hS44.none⟩
theorem c_sub (a : Nat) (b : Nat) (w0 : World) (g0 : a < B256) (g1 : b < B256) : Calls Tryz.prog 103 #[elV a, elV b] w0 (Ret fun uu w' => uu = .tuple #[elV (subN a b), .int .u64 (bI (decide (a < b)))] ∧ St [] w0 w' [] []) := by
 refine calls_of Tryz.func103 rfl Tryz.ntmps103 (Nat.le_of_ble_eq_true rfl) ?_
 have hS0 := St.nil w0
 refine C_sr ?_
 refine sqE (st_box (v := elV a) (cs := (elA a)) hS0 rfl rfl) fun b1 W2 hS3 => ?_
 refine sqE (st_box (v := elV b) (cs := (elA b)) hS3 rfl rfl) fun b4 W5 hS6 => ?_
 refine sqE (st_alloc hS6 ze40) fun b7 W8 hS9 => ?_
 refine sqv (ex_assign (v := .int .u64 0) rfl) ?_
 show C _ _ _ _ _ _
 refine C_sr ?_
 refine sqE (st_alloc hS9 ze40) fun b10 W11 hS12 => ?_
 show C _ _ _ _ _ _
 refine C_sr ?_
 refine sqv (ex_assign (v := .int .u64 0) rfl) ?_
 show C _ _ _ _ _ _
 refine C_seq ?_
 refine C_sr ?_
 refine sqv (ex_assign (v := .int .i64 0) rfl) ?_
 show C _ _ _ _ _ _
 refine C_block ?_
 refine C_loop (fun nn aa ww => ∃ (m0 : Nat → Value) (k : Nat) (c : Int) (o : List Int), nn = 4 - k ∧ aa = act 46 (upds m0 [(2, pt b1), (3, pt b4), (4, pt b7), (5, .int .u64 0), (6, pt b10), (7, .int .u64 c), (8, .int .i64 (k : Int))]) [] ∧ St [] w0 ww [some (b10, .cells (o.flatMap cU).toArray 40), some (b7, .cells #[.int .u64 0, .int .u64 0, .int .u64 0, .int .u64 0] 40), some (b4, .cells (([limb b 0, limb b 1, limb b 2, limb b 3]).flatMap cU).toArray 40), some (b1, .cells (([limb a 0, limb a 1, limb a 2, limb a 3]).flatMap cU).toArray 40)] [] ∧ (k ≤ 4) ∧ (o.length = 4) ∧ (∀ z ∈ o, 0 ≤ z ∧ z < 18446744073709551616) ∧ (c = 0 ∨ c = 1) ∧ (lo o k - c * (18446744073709551616 : Int) ^ k = lo [limb a 0, limb a 1, limb a 2, limb a 3] k - lo [limb b 0, limb b 1, limb b 2, limb b 3] k)) 4 ?_ ?_
 ·exact ⟨_, 0, 0, [0, 0, 0, 0], rfl, act_upds ⟨rfl, rfl, rfl, (congrArg (Value.int .u64) (by first | rfl | omega)), rfl, (congrArg (Value.int .u64) (by first | rfl | omega)), (congrArg (Value.int .i64) (by first | rfl | omega)), trivial⟩, (St.pick (L := [some (b10, .cells (([0, 0, 0, 0]).flatMap cU).toArray 40), some (b7, .cells #[.int .u64 0, .int .u64 0, .int .u64 0, .int .u64 0] 40), some (b4, .cells (([limb b 0, limb b 1, limb b 2, limb b 3]).flatMap cU).toArray 40), some (b1, .cells (([limb a 0, limb a 1, limb a 2, limb a 3]).flatMap cU).toArray 40)]) hS12 [0, 1, 2, 3] (by decide)), (by decide), rfl, (by intro z hz; simp at hz; rw [hz]; decide), (by decide), rfl⟩
 rintro n16 a17 W14 ⟨m13, k, c, o, rfl, rfl, hS15, hk, hol, hor, hc, hs⟩
 refine C_seq ?_
 refine C_sr ?_
 refine sqv (ex_move (v := .int .i64 (k : Int)) rfl) ?_
 refine sqv (ex_cmp (x := (k : Int)) (y := 4) (r := decide ((k : Int) < 4)) rfl rfl rfl) ?_
 show C _ _ _ _ _ _
 refine C_dec ((k : Int) < 4) rfl (fun hc18 => ?_) (fun hc18 => ?_)
 ·refine C_skip ?_
  show C _ _ _ _ _ _
  refine C_seq ?_
  refine C_block ?_
  refine C_seq ?_
  obtain ⟨y19, hy20⟩ := get_lt ([limb a 0, limb a 1, limb a 2, limb a 3]) k (by first | omega | (simp only [List.length_set, List.length_replicate, List.length_append, List.length_take, List.length_drop, List.length_cons, List.length_nil, List.length_map]; omega))
  have hky19 := limb_rng hy20
  obtain ⟨y21, hy22⟩ := get_lt ([limb b 0, limb b 1, limb b 2, limb b 3]) k (by first | omega | (simp only [List.length_set, List.length_replicate, List.length_append, List.length_take, List.length_drop, List.length_cons, List.length_nil, List.length_map]; omega))
  have hky21 := limb_rng hy22
  refine nm ((y19 - y21) % 18446744073709551616) fun x23 hx23 => ?_
  refine nm ((x23 - c) % 18446744073709551616) fun x24 hx24 => ?_
  refine C_draw (p := 10) (l := [(some 13, .int .i64 (k : Int)), (some 14, .int .i64 (k : Int)), (some 15, .pointer (some ⟨b1, k * 1, none⟩)), (some 16, .int .u64 y19), (some 17, .int .i64 (k : Int)), (some 18, .pointer (some ⟨b4, k * 1, none⟩)), (some 19, .int .u64 y21), (some 20, .int .u64 x23), (some 21, .int .u64 c), (some 22, .int .u64 x24)]) (G := []) (J := fun w => St [] w0 w [some (b10, .cells (o.flatMap cU).toArray 40), some (b7, .cells #[.int .u64 0, .int .u64 0, .int .u64 0, .int .u64 0] 40), some (b4, .cells (([limb b 0, limb b 1, limb b 2, limb b 3]).flatMap cU).toArray 40), some (b1, .cells (([limb a 0, limb a 1, limb a 2, limb a 3]).flatMap cU).toArray 40)] []) mixed ?_ (hS15.draw _)
  refine node1 10 [] [] [] (by kernel_rfl) rfl rfl (nd rfl) rfl (by kernel_rfl) ?_ ?_ ?_
  ·intro S wd hSd
   refine ⟨n0 rfl rfl rfl (ex_move (v := .int .i64 (k : Int)) rfl) rfl hSd, n0 rfl rfl rfl (ex_move (v := .int .i64 (k : Int)) rfl) rfl hSd, n1 rfl rfl rfl rfl (fun hq1 => (ex_index (j := (k : Int)) (o' := k * 1) rfl (evS hq1 rfl rfl) ar40 (by omega) (by omega) (by omega))) rfl hSd, n1 rfl rfl rfl rfl (fun hq2 => (ex_loadM (f := cU) (i := k) (fun _ => rfl) (evS hq2 rfl rfl) (hSd.at 3 rfl) on39 rfl hy20 rfl)) rfl hSd, n0 rfl rfl rfl (ex_move (v := .int .i64 (k : Int)) rfl) rfl hSd, n1 rfl rfl rfl rfl (fun hq4 => (ex_index (j := (k : Int)) (o' := k * 1) rfl (evS hq4 rfl rfl) ar40 (by omega) (by omega) (by omega))) rfl hSd, n1 rfl rfl rfl rfl (fun hq5 => (ex_loadM (f := cU) (i := k) (fun _ => rfl) (evS hq5 rfl rfl) (hSd.at 2 rfl) on39 rfl hy22 rfl)) rfl hSd, n2 rfl rfl rfl rfl (fun hq3 hq6 => (ex_sub (x := y19) (y := y21) (evS hq3 rfl rfl) (evS hq6 rfl rfl) (wu64 hx23))) rfl hSd, n0 rfl rfl rfl (ex_move (v := .int .u64 c) rfl) rfl hSd, ?_, tt⟩
   refine needG rfl ?_
   rintro ⟨hq7, hq8, _⟩ hno
   exact dx (wanted_none rfl) rfl (ex_sub (x := x23) (y := c) (evS hq7 rfl rfl) (evS hq8 rfl rfl) (wu64 hx24)) ⟨rfl, hSd⟩
  ·exact fun S wd hSd => ⟨True.intro, True.intro, True.intro, True.intro, True.intro, True.intro, True.intro, True.intro, True.intro, True.intro, True.intro⟩
  intro _ W25 hS26
  refine sqv (ex_index (j := (k : Int)) (o' := k * 1) rfl rfl ar40 (by omega) (by omega) (by omega)) ?_
  refine sqUE (st_storeM (f := cU) (z := x24) (i' := k) (fun _ => rfl) 0 hS26 rfl rfl rfl on39 rfl (by first | omega | (simp only [List.length_set, List.length_replicate, List.length_append, List.length_take, List.length_drop]; omega)) rfl rfl rfl) fun W27 hS28 => ?_
  show C _ _ _ _ _ _
  refine C_seq ?_
  refine nm (decide (y19 < y21)) fun t29 ht29 => ?_
  rcases bool_cases t29 with hb30 | hb30
  ·subst hb30
   have hb30 := of_decide_eq_true ht29.symm
   refine C_draw (p := 20) (l := [(some 24, .int .i64 (k : Int)), (some 25, .pointer (some ⟨b1, k * 1, none⟩)), (some 26, .int .u64 y19), (some 27, .int .i64 (k : Int)), (some 28, .pointer (some ⟨b4, k * 1, none⟩)), (some 29, .int .u64 y21), (some 30, .bool true), (some 31, .bool true), (some 32, undef), (some 33, undef), (some 34, undef), (some 35, undef), (some 36, undef), (some 37, undef), (some 38, undef), (some 39, undef), (some 40, undef), (some 41, undef), (some 42, undef), (some 43, .bool true)]) (G := []) (J := fun w => St [] w0 w [some (b10, .cells ((o.set k x24).flatMap cU).toArray 40), some (b7, .cells #[.int .u64 0, .int .u64 0, .int .u64 0, .int .u64 0] 40), some (b4, .cells (([limb b 0, limb b 1, limb b 2, limb b 3]).flatMap cU).toArray 40), some (b1, .cells (([limb a 0, limb a 1, limb a 2, limb a 3]).flatMap cU).toArray 40)] []) mixed ?_ (hS28.draw _)
   refine node1 20 [] [] [] (by kernel_rfl) rfl rfl (nd rfl) rfl (by kernel_rfl) ?_ ?_ ?_
   ·intro S wd hSd
    refine ⟨n0 rfl rfl rfl (ex_move (v := .int .i64 (k : Int)) rfl) rfl hSd, n1 rfl rfl rfl rfl (fun hq0 => (ex_index (j := (k : Int)) (o' := k * 1) rfl (evS hq0 rfl rfl) ar40 (by omega) (by omega) (by omega))) rfl hSd, n1 rfl rfl rfl rfl (fun hq1 => (ex_loadM (f := cU) (i := k) (fun _ => rfl) (evS hq1 rfl rfl) (hSd.at 3 rfl) on39 rfl hy20 rfl)) rfl hSd, n0 rfl rfl rfl (ex_move (v := .int .i64 (k : Int)) rfl) rfl hSd, n1 rfl rfl rfl rfl (fun hq3 => (ex_index (j := (k : Int)) (o' := k * 1) rfl (evS hq3 rfl rfl) ar40 (by omega) (by omega) (by omega))) rfl hSd, n1 rfl rfl rfl rfl (fun hq4 => (ex_loadM (f := cU) (i := k) (fun _ => rfl) (evS hq4 rfl rfl) (hSd.at 2 rfl) on39 rfl hy22 rfl)) rfl hSd, n2 rfl rfl rfl rfl (fun hq2 hq5 => (ex_cmp (x := y19) (y := y21) (evS hq2 rfl rfl) (evS hq5 rfl rfl) ht29)) rfl hSd, n1 rfl rfl rfl rfl (fun hq6 => (ex_move (v := .bool true) (evS hq6 rfl rfl))) rfl hSd, ?_, ?_, ?_, ?_, ?_, ?_, ?_, ?_, ?_, ?_, ?_, ?_, tt⟩
    ·refine needG rfl ?_
     rintro ⟨hq7, _⟩ hno
     exact dxS (wanted_no (b' := true) rfl rfl (evS hq7 rfl rfl) (by decide)) ⟨rfl, hSd⟩
    ·refine needG rfl ?_
     rintro ⟨hq8, hq7, _⟩ hno
     exact dxS (wanted_no (b' := true) rfl rfl (evS hq7 rfl rfl) (by decide)) ⟨rfl, hSd⟩
    ·refine needG rfl ?_
     rintro ⟨hq9, hq7, _⟩ hno
     exact dxS (wanted_no (b' := true) rfl rfl (evS hq7 rfl rfl) (by decide)) ⟨rfl, hSd⟩
    ·refine needG rfl ?_
     rintro ⟨hq7, _⟩ hno
     exact dxS (wanted_no (b' := true) rfl rfl (evS hq7 rfl rfl) (by decide)) ⟨rfl, hSd⟩
    ·refine needG rfl ?_
     rintro ⟨hq11, hq7, _⟩ hno
     exact dxS (wanted_no (b' := true) rfl rfl (evS hq7 rfl rfl) (by decide)) ⟨rfl, hSd⟩
    ·refine needG rfl ?_
     rintro ⟨hq12, hq7, _⟩ hno
     exact dxS (wanted_no (b' := true) rfl rfl (evS hq7 rfl rfl) (by decide)) ⟨rfl, hSd⟩
    ·refine needG rfl ?_
     rintro ⟨hq10, hq13, hq7, _⟩ hno
     exact dxS (wanted_no (b' := true) rfl rfl (evS hq7 rfl rfl) (by decide)) ⟨rfl, hSd⟩
    ·refine needG rfl ?_
     rintro ⟨hq14, hq7, hq7, _⟩ hno
     exact dxS (wanted_no (b' := true) rfl rfl (evS hq7 rfl rfl) (by decide)) ⟨rfl, hSd⟩
    ·refine needG rfl ?_
     rintro ⟨hq15, _⟩ hno
     exact dxS (wanted_un rfl rfl (evS hq15 rfl rfl)) ⟨rfl, hSd⟩
    ·refine needG rfl ?_
     rintro ⟨hq16, hq15, _⟩ hno
     exact dxS (wanted_un rfl rfl (evS hq15 rfl rfl)) ⟨rfl, hSd⟩
    ·refine needG rfl ?_
     rintro ⟨hq15, hq17, hq7, _⟩ hno
     exact dxS (wanted_no (b' := true) rfl rfl (evS hq7 rfl rfl) (by decide)) ⟨rfl, hSd⟩
    refine needG rfl ?_
    rintro ⟨hq7, hq18, _⟩ hno
    exact dx (wanted_none rfl) rfl (ex_pickT (v := .bool true) (evS hq7 rfl rfl) rfl) ⟨rfl, hSd⟩
   ·exact fun S wd hSd => ⟨True.intro, True.intro, True.intro, True.intro, True.intro, True.intro, True.intro, True.intro, True.intro, True.intro, True.intro, True.intro, True.intro, True.intro, True.intro, True.intro, True.intro, True.intro, True.intro, True.intro, True.intro⟩
   intro _ W31 hS32
   show C _ _ _ _ _ _
   refine C_true rfl ?_
   refine C_region ?_
   refine sqv (ex_assign (v := .int .u64 1) rfl) ?_
   refine blk_normal ?_
   show C _ _ _ _ _ _
   refine C_region ?_
   refine sqv (ex_move (v := .int .i64 (k : Int)) rfl) ?_
   refine nm ((k : Int) + 1) fun x33 hx33 => ?_
   refine sqv (ex_add (x := (k : Int)) (y := 1) rfl rfl (w64 hx33 (by omega))) ?_
   refine sqv (ex_assign (v := .int .i64 x33) rfl) ?_
   exact ⟨_, (by omega), ⟨_, (k + 1), 1, (o.set k x24), rfl, act_upds ⟨rfl, rfl, rfl, (congrArg (Value.int .u64) (by first | rfl | omega)), rfl, (congrArg (Value.int .u64) (by first | rfl | omega)), (congrArg (Value.int .i64) (by first | rfl | omega)), trivial⟩, (St.pick (L := [some (b10, .cells ((o.set k x24).flatMap cU).toArray 40), some (b7, .cells #[.int .u64 0, .int .u64 0, .int .u64 0, .int .u64 0] 40), some (b4, .cells (([limb b 0, limb b 1, limb b 2, limb b 3]).flatMap cU).toArray 40), some (b1, .cells (([limb a 0, limb a 1, limb a 2, limb a 3]).flatMap cU).toArray 40)]) hS32 [0, 1, 2, 3] (by decide)), (by omega), (by rw [List.length_set]; exact hol), (all_setI hor (by omega)), (by omega), (dif_step hs hy20 hy22 (by omega) (by omega))⟩⟩
  subst hb30
  have hb30 := of_decide_eq_false ht29.symm
  refine nm (decide (y19 = y21)) fun t34 ht34 => ?_
  rcases bool_cases t34 with hb35 | hb35
  ·subst hb35
   have hb35 := of_decide_eq_true ht34.symm
   refine nm (decide (c = 1)) fun t36 ht36 => ?_
   refine C_draw (p := 20) (l := [(some 24, .int .i64 (k : Int)), (some 25, .pointer (some ⟨b1, k * 1, none⟩)), (some 26, .int .u64 y19), (some 27, .int .i64 (k : Int)), (some 28, .pointer (some ⟨b4, k * 1, none⟩)), (some 29, .int .u64 y21), (some 30, .bool false), (some 31, .bool false), (some 32, .int .i64 (k : Int)), (some 33, .pointer (some ⟨b1, k * 1, none⟩)), (some 34, .int .u64 y19), (some 35, .int .i64 (k : Int)), (some 36, .pointer (some ⟨b4, k * 1, none⟩)), (some 37, .int .u64 y21), (some 38, .bool true), (some 39, .bool true), (some 40, .int .u64 c), (some 41, .bool t36), (some 42, .bool t36), (some 43, .bool t36)]) (G := []) (J := fun w => St [] w0 w [some (b10, .cells ((o.set k x24).flatMap cU).toArray 40), some (b7, .cells #[.int .u64 0, .int .u64 0, .int .u64 0, .int .u64 0] 40), some (b4, .cells (([limb b 0, limb b 1, limb b 2, limb b 3]).flatMap cU).toArray 40), some (b1, .cells (([limb a 0, limb a 1, limb a 2, limb a 3]).flatMap cU).toArray 40)] []) mixed ?_ (hS28.draw _)
   refine node1 20 [] [] [] (by kernel_rfl) rfl rfl (nd rfl) rfl (by kernel_rfl) ?_ ?_ ?_
   ·intro S wd hSd
    refine ⟨n0 rfl rfl rfl (ex_move (v := .int .i64 (k : Int)) rfl) rfl hSd, n1 rfl rfl rfl rfl (fun hq0 => (ex_index (j := (k : Int)) (o' := k * 1) rfl (evS hq0 rfl rfl) ar40 (by omega) (by omega) (by omega))) rfl hSd, n1 rfl rfl rfl rfl (fun hq1 => (ex_loadM (f := cU) (i := k) (fun _ => rfl) (evS hq1 rfl rfl) (hSd.at 3 rfl) on39 rfl hy20 rfl)) rfl hSd, n0 rfl rfl rfl (ex_move (v := .int .i64 (k : Int)) rfl) rfl hSd, n1 rfl rfl rfl rfl (fun hq3 => (ex_index (j := (k : Int)) (o' := k * 1) rfl (evS hq3 rfl rfl) ar40 (by omega) (by omega) (by omega))) rfl hSd, n1 rfl rfl rfl rfl (fun hq4 => (ex_loadM (f := cU) (i := k) (fun _ => rfl) (evS hq4 rfl rfl) (hSd.at 2 rfl) on39 rfl hy22 rfl)) rfl hSd, n2 rfl rfl rfl rfl (fun hq2 hq5 => (ex_cmp (x := y19) (y := y21) (evS hq2 rfl rfl) (evS hq5 rfl rfl) ht29)) rfl hSd, n1 rfl rfl rfl rfl (fun hq6 => (ex_move (v := .bool false) (evS hq6 rfl rfl))) rfl hSd, ?_, ?_, ?_, ?_, ?_, ?_, ?_, ?_, ?_, ?_, ?_, ?_, tt⟩
    ·refine needG rfl ?_
     rintro ⟨hq7, _⟩ hno
     exact dx (wanted_yes rfl rfl (evS hq7 rfl rfl)) rfl (ex_move (v := .int .i64 (k : Int)) rfl) ⟨rfl, hSd⟩
    ·refine needG rfl ?_
     rintro ⟨hq8, hq7, _⟩ hno
     exact dx (wanted_yes rfl rfl (evS hq7 rfl rfl)) rfl (ex_index (j := (k : Int)) (o' := k * 1) rfl (evS hq8 rfl rfl) ar40 (by omega) (by omega) (by omega)) ⟨rfl, hSd⟩
    ·refine needG rfl ?_
     rintro ⟨hq9, hq7, _⟩ hno
     exact dx (wanted_yes rfl rfl (evS hq7 rfl rfl)) rfl (ex_loadM (f := cU) (i := k) (fun _ => rfl) (evS hq9 rfl rfl) (hSd.at 3 rfl) on39 rfl hy20 rfl) ⟨rfl, hSd⟩
    ·refine needG rfl ?_
     rintro ⟨hq7, _⟩ hno
     exact dx (wanted_yes rfl rfl (evS hq7 rfl rfl)) rfl (ex_move (v := .int .i64 (k : Int)) rfl) ⟨rfl, hSd⟩
    ·refine needG rfl ?_
     rintro ⟨hq11, hq7, _⟩ hno
     exact dx (wanted_yes rfl rfl (evS hq7 rfl rfl)) rfl (ex_index (j := (k : Int)) (o' := k * 1) rfl (evS hq11 rfl rfl) ar40 (by omega) (by omega) (by omega)) ⟨rfl, hSd⟩
    ·refine needG rfl ?_
     rintro ⟨hq12, hq7, _⟩ hno
     exact dx (wanted_yes rfl rfl (evS hq7 rfl rfl)) rfl (ex_loadM (f := cU) (i := k) (fun _ => rfl) (evS hq12 rfl rfl) (hSd.at 2 rfl) on39 rfl hy22 rfl) ⟨rfl, hSd⟩
    ·refine needG rfl ?_
     rintro ⟨hq10, hq13, hq7, _⟩ hno
     exact dx (wanted_yes rfl rfl (evS hq7 rfl rfl)) rfl (ex_cmp (x := y19) (y := y21) (evS hq10 rfl rfl) (evS hq13 rfl rfl) ht34) ⟨rfl, hSd⟩
    ·refine needG rfl ?_
     rintro ⟨hq14, hq7, hq7, _⟩ hno
     exact dx (wanted_yes rfl rfl (evS hq7 rfl rfl)) rfl (ex_move (v := .bool true) (evS hq14 rfl rfl)) ⟨rfl, hSd⟩
    ·refine needG rfl ?_
     rintro ⟨hq15, _⟩ hno
     exact dx (wanted_yes rfl rfl (evS hq15 rfl rfl)) rfl (ex_move (v := .int .u64 c) rfl) ⟨rfl, hSd⟩
    ·refine needG rfl ?_
     rintro ⟨hq16, hq15, _⟩ hno
     exact dx (wanted_yes rfl rfl (evS hq15 rfl rfl)) rfl (ex_cmp (x := c) (y := 1) (evS hq16 rfl rfl) rfl ht36) ⟨rfl, hSd⟩
    ·refine needG rfl ?_
     rintro ⟨hq15, hq17, hq7, _⟩ hno
     exact dx (wanted_yes rfl rfl (evS hq7 rfl rfl)) rfl (ex_pickT (v := .bool t36) (evS hq15 rfl rfl) (evS hq17 rfl rfl)) ⟨rfl, hSd⟩
    refine needG rfl ?_
    rintro ⟨hq7, hq18, _⟩ hno
    exact dx (wanted_none rfl) rfl (ex_pickF (v := .bool t36) (evS hq7 rfl rfl) (evS hq18 rfl rfl)) ⟨rfl, hSd⟩
   ·exact fun S wd hSd => ⟨True.intro, True.intro, True.intro, True.intro, True.intro, True.intro, True.intro, True.intro, True.intro, True.intro, True.intro, True.intro, True.intro, True.intro, True.intro, True.intro, True.intro, True.intro, True.intro, True.intro, True.intro⟩
   intro _ W37 hS38
   show C _ _ _ _ _ _
   refine C_if (t := t36) rfl (fun hc39 => ?_) (fun hc39 => ?_)
   ·have hc39' := of_decide_eq_true (ht36.symm.trans hc39)
    refine C_region ?_
    refine sqv (ex_assign (v := .int .u64 1) rfl) ?_
    refine blk_normal ?_
    show C _ _ _ _ _ _
    refine C_region ?_
    refine sqv (ex_move (v := .int .i64 (k : Int)) rfl) ?_
    refine nm ((k : Int) + 1) fun x40 hx40 => ?_
    refine sqv (ex_add (x := (k : Int)) (y := 1) rfl rfl (w64 hx40 (by omega))) ?_
    refine sqv (ex_assign (v := .int .i64 x40) rfl) ?_
    exact ⟨_, (by omega), ⟨_, (k + 1), 1, (o.set k x24), rfl, act_upds ⟨rfl, rfl, rfl, (congrArg (Value.int .u64) (by first | rfl | omega)), rfl, (congrArg (Value.int .u64) (by first | rfl | omega)), (congrArg (Value.int .i64) (by first | rfl | omega)), trivial⟩, (St.pick (L := [some (b10, .cells ((o.set k x24).flatMap cU).toArray 40), some (b7, .cells #[.int .u64 0, .int .u64 0, .int .u64 0, .int .u64 0] 40), some (b4, .cells (([limb b 0, limb b 1, limb b 2, limb b 3]).flatMap cU).toArray 40), some (b1, .cells (([limb a 0, limb a 1, limb a 2, limb a 3]).flatMap cU).toArray 40)]) hS38 [0, 1, 2, 3] (by decide)), (by omega), (by rw [List.length_set]; exact hol), (all_setI hor (by omega)), (by omega), (dif_step hs hy20 hy22 (by omega) (by omega))⟩⟩
   have hc39' := of_decide_eq_false (ht36.symm.trans hc39)
   refine C_region ?_
   refine sqv (ex_assign (v := .int .u64 0) rfl) ?_
   refine blk_normal ?_
   show C _ _ _ _ _ _
   refine C_region ?_
   refine sqv (ex_move (v := .int .i64 (k : Int)) rfl) ?_
   refine nm ((k : Int) + 1) fun x41 hx41 => ?_
   refine sqv (ex_add (x := (k : Int)) (y := 1) rfl rfl (w64 hx41 (by omega))) ?_
   refine sqv (ex_assign (v := .int .i64 x41) rfl) ?_
   exact ⟨_, (by omega), ⟨_, (k + 1), 0, (o.set k x24), rfl, act_upds ⟨rfl, rfl, rfl, (congrArg (Value.int .u64) (by first | rfl | omega)), rfl, (congrArg (Value.int .u64) (by first | rfl | omega)), (congrArg (Value.int .i64) (by first | rfl | omega)), trivial⟩, (St.pick (L := [some (b10, .cells ((o.set k x24).flatMap cU).toArray 40), some (b7, .cells #[.int .u64 0, .int .u64 0, .int .u64 0, .int .u64 0] 40), some (b4, .cells (([limb b 0, limb b 1, limb b 2, limb b 3]).flatMap cU).toArray 40), some (b1, .cells (([limb a 0, limb a 1, limb a 2, limb a 3]).flatMap cU).toArray 40)]) hS38 [0, 1, 2, 3] (by decide)), (by omega), (by rw [List.length_set]; exact hol), (all_setI hor (by omega)), (by omega), (dif_step hs hy20 hy22 (by omega) (by omega))⟩⟩
  subst hb35
  have hb35 := of_decide_eq_false ht34.symm
  refine C_draw (p := 20) (l := [(some 24, .int .i64 (k : Int)), (some 25, .pointer (some ⟨b1, k * 1, none⟩)), (some 26, .int .u64 y19), (some 27, .int .i64 (k : Int)), (some 28, .pointer (some ⟨b4, k * 1, none⟩)), (some 29, .int .u64 y21), (some 30, .bool false), (some 31, .bool false), (some 32, .int .i64 (k : Int)), (some 33, .pointer (some ⟨b1, k * 1, none⟩)), (some 34, .int .u64 y19), (some 35, .int .i64 (k : Int)), (some 36, .pointer (some ⟨b4, k * 1, none⟩)), (some 37, .int .u64 y21), (some 38, .bool false), (some 39, .bool false), (some 40, undef), (some 41, undef), (some 42, .bool false), (some 43, .bool false)]) (G := []) (J := fun w => St [] w0 w [some (b10, .cells ((o.set k x24).flatMap cU).toArray 40), some (b7, .cells #[.int .u64 0, .int .u64 0, .int .u64 0, .int .u64 0] 40), some (b4, .cells (([limb b 0, limb b 1, limb b 2, limb b 3]).flatMap cU).toArray 40), some (b1, .cells (([limb a 0, limb a 1, limb a 2, limb a 3]).flatMap cU).toArray 40)] []) mixed ?_ (hS28.draw _)
  refine node1 20 [] [] [] (by kernel_rfl) rfl rfl (nd rfl) rfl (by kernel_rfl) ?_ ?_ ?_
  ·intro S wd hSd
   refine ⟨n0 rfl rfl rfl (ex_move (v := .int .i64 (k : Int)) rfl) rfl hSd, n1 rfl rfl rfl rfl (fun hq0 => (ex_index (j := (k : Int)) (o' := k * 1) rfl (evS hq0 rfl rfl) ar40 (by omega) (by omega) (by omega))) rfl hSd, n1 rfl rfl rfl rfl (fun hq1 => (ex_loadM (f := cU) (i := k) (fun _ => rfl) (evS hq1 rfl rfl) (hSd.at 3 rfl) on39 rfl hy20 rfl)) rfl hSd, n0 rfl rfl rfl (ex_move (v := .int .i64 (k : Int)) rfl) rfl hSd, n1 rfl rfl rfl rfl (fun hq3 => (ex_index (j := (k : Int)) (o' := k * 1) rfl (evS hq3 rfl rfl) ar40 (by omega) (by omega) (by omega))) rfl hSd, n1 rfl rfl rfl rfl (fun hq4 => (ex_loadM (f := cU) (i := k) (fun _ => rfl) (evS hq4 rfl rfl) (hSd.at 2 rfl) on39 rfl hy22 rfl)) rfl hSd, n2 rfl rfl rfl rfl (fun hq2 hq5 => (ex_cmp (x := y19) (y := y21) (evS hq2 rfl rfl) (evS hq5 rfl rfl) ht29)) rfl hSd, n1 rfl rfl rfl rfl (fun hq6 => (ex_move (v := .bool false) (evS hq6 rfl rfl))) rfl hSd, ?_, ?_, ?_, ?_, ?_, ?_, ?_, ?_, ?_, ?_, ?_, ?_, tt⟩
   ·refine needG rfl ?_
    rintro ⟨hq7, _⟩ hno
    exact dx (wanted_yes rfl rfl (evS hq7 rfl rfl)) rfl (ex_move (v := .int .i64 (k : Int)) rfl) ⟨rfl, hSd⟩
   ·refine needG rfl ?_
    rintro ⟨hq8, hq7, _⟩ hno
    exact dx (wanted_yes rfl rfl (evS hq7 rfl rfl)) rfl (ex_index (j := (k : Int)) (o' := k * 1) rfl (evS hq8 rfl rfl) ar40 (by omega) (by omega) (by omega)) ⟨rfl, hSd⟩
   ·refine needG rfl ?_
    rintro ⟨hq9, hq7, _⟩ hno
    exact dx (wanted_yes rfl rfl (evS hq7 rfl rfl)) rfl (ex_loadM (f := cU) (i := k) (fun _ => rfl) (evS hq9 rfl rfl) (hSd.at 3 rfl) on39 rfl hy20 rfl) ⟨rfl, hSd⟩
   ·refine needG rfl ?_
    rintro ⟨hq7, _⟩ hno
    exact dx (wanted_yes rfl rfl (evS hq7 rfl rfl)) rfl (ex_move (v := .int .i64 (k : Int)) rfl) ⟨rfl, hSd⟩
   ·refine needG rfl ?_
    rintro ⟨hq11, hq7, _⟩ hno
    exact dx (wanted_yes rfl rfl (evS hq7 rfl rfl)) rfl (ex_index (j := (k : Int)) (o' := k * 1) rfl (evS hq11 rfl rfl) ar40 (by omega) (by omega) (by omega)) ⟨rfl, hSd⟩
   ·refine needG rfl ?_
    rintro ⟨hq12, hq7, _⟩ hno
    exact dx (wanted_yes rfl rfl (evS hq7 rfl rfl)) rfl (ex_loadM (f := cU) (i := k) (fun _ => rfl) (evS hq12 rfl rfl) (hSd.at 2 rfl) on39 rfl hy22 rfl) ⟨rfl, hSd⟩
   ·refine needG rfl ?_
    rintro ⟨hq10, hq13, hq7, _⟩ hno
    exact dx (wanted_yes rfl rfl (evS hq7 rfl rfl)) rfl (ex_cmp (x := y19) (y := y21) (evS hq10 rfl rfl) (evS hq13 rfl rfl) ht34) ⟨rfl, hSd⟩
   ·refine needG rfl ?_
    rintro ⟨hq14, hq7, hq7, _⟩ hno
    exact dx (wanted_yes rfl rfl (evS hq7 rfl rfl)) rfl (ex_move (v := .bool false) (evS hq14 rfl rfl)) ⟨rfl, hSd⟩
   ·refine needG rfl ?_
    rintro ⟨hq15, _⟩ hno
    exact dxS (wanted_no (b' := false) rfl rfl (evS hq15 rfl rfl) (by decide)) ⟨rfl, hSd⟩
   ·refine needG rfl ?_
    rintro ⟨hq16, hq15, _⟩ hno
    exact dxS (wanted_no (b' := false) rfl rfl (evS hq15 rfl rfl) (by decide)) ⟨rfl, hSd⟩
   ·refine needG rfl ?_
    rintro ⟨hq15, hq17, hq7, _⟩ hno
    exact dx (wanted_yes rfl rfl (evS hq7 rfl rfl)) rfl (ex_pickF (v := .bool false) (evS hq15 rfl rfl) rfl) ⟨rfl, hSd⟩
   refine needG rfl ?_
   rintro ⟨hq7, hq18, _⟩ hno
   exact dx (wanted_none rfl) rfl (ex_pickF (v := .bool false) (evS hq7 rfl rfl) (evS hq18 rfl rfl)) ⟨rfl, hSd⟩
  ·exact fun S wd hSd => ⟨True.intro, True.intro, True.intro, True.intro, True.intro, True.intro, True.intro, True.intro, True.intro, True.intro, True.intro, True.intro, True.intro, True.intro, True.intro, True.intro, True.intro, True.intro, True.intro, True.intro, True.intro⟩
  intro _ W42 hS43
  show C _ _ _ _ _ _
  refine C_false rfl ?_
  refine C_region ?_
  refine sqv (ex_assign (v := .int .u64 0) rfl) ?_
  refine blk_normal ?_
  show C _ _ _ _ _ _
  refine C_region ?_
  refine sqv (ex_move (v := .int .i64 (k : Int)) rfl) ?_
  refine nm ((k : Int) + 1) fun x44 hx44 => ?_
  refine sqv (ex_add (x := (k : Int)) (y := 1) rfl rfl (w64 hx44 (by omega))) ?_
  refine sqv (ex_assign (v := .int .i64 x44) rfl) ?_
  exact ⟨_, (by omega), ⟨_, (k + 1), 0, (o.set k x24), rfl, act_upds ⟨rfl, rfl, rfl, (congrArg (Value.int .u64) (by first | rfl | omega)), rfl, (congrArg (Value.int .u64) (by first | rfl | omega)), (congrArg (Value.int .i64) (by first | rfl | omega)), trivial⟩, (St.pick (L := [some (b10, .cells ((o.set k x24).flatMap cU).toArray 40), some (b7, .cells #[.int .u64 0, .int .u64 0, .int .u64 0, .int .u64 0] 40), some (b4, .cells (([limb b 0, limb b 1, limb b 2, limb b 3]).flatMap cU).toArray 40), some (b1, .cells (([limb a 0, limb a 1, limb a 2, limb a 3]).flatMap cU).toArray 40)]) hS43 [0, 1, 2, 3] (by decide)), (by omega), (by rw [List.length_set]; exact hol), (all_setI hor (by omega)), (by omega), (dif_step hs hy20 hy22 (by omega) (by omega))⟩⟩
 refine C_exit ?_
 refine thn_exit ?_
 refine thn_exit ?_
 refine blk_exit ?_
 show C _ _ _ _ _ _
 refine C_sr ?_
 obtain rfl : k = 4 := by omega
 obtain ⟨ho4, hc4⟩ := dif_done g0 g1 hol hor hc hs
 subst ho4
 subst hc4
 refine sqv (ex_loads (vs := (el (subN a b))) rfl (hS15.at 0 rfl) ag40 rfl rfl) ?_
 refine sqv (ex_move (v := .int .u64 (bI (decide (a < b)))) rfl) ?_
 refine sqUE (st_stores (v := elV (subN a b)) (cs' := (elA (subN a b))) 1 hS15 rfl rfl rfl ag40 rfl (Nat.le_of_ble_eq_true rfl) (ones_of rfl) rfl) fun W45 hS46 => ?_
 refine sqv (ex_assign (v := .int .u64 (bI (decide (a < b)))) rfl) ?_
 show C _ _ _ _ _ _
 refine C_ret ?_
 refine done_2 (v1 := elV (subN a b)) (v2 := .int .u64 (bI (decide (a < b)))) rfl (res_row rfl (hS46.at 1 rfl) ag40 rfl) rfl ?_
 exact ⟨rfl, hS46.none⟩
end Go.Proofs
end
section
set_option linter.unusedVariables false
set_option linter.unusedSimpArgs false
set_option maxRecDepth 20000
set_option maxHeartbeats 2000000
namespace Go.Proofs
open Sc
theorem en102 : enters Tryz.prog 102 = true := by kernel_rfl
theorem en103 : enters Tryz.prog 103 = true := by kernel_rfl
theorem en22 : enters Tryz.prog 22 = true := by kernel_rfl
theorem en58 : enters Tryz.prog 58 = true := by kernel_rfl
theorem en59 : enters Tryz.prog 59 = true := by kernel_rfl
theorem en60 : enters Tryz.prog 60 = true := by kernel_rfl
theorem en61 : enters Tryz.prog 61 = true := by kernel_rfl
theorem en78 : enters Tryz.prog 78 = true := by kernel_rfl
theorem lt_256 {p a : Nat} (h : p < B256) (ha : a < p) : a < B256 := Nat.lt_trans ha h
theorem c_One  (w0 : World)  : Calls Tryz.prog 59 #[] w0 (Ret fun uu w' => uu = elV 1 ∧ St [] w0 w' [] []) := by
 refine calls_of Tryz.func59 rfl Tryz.ntmps59 (Nat.le_of_ble_eq_true rfl) ?_
 have hS0 := St.nil w0
 refine C_sr ?_
 refine sqE (st_alloc hS0 ze40) fun b1 W2 hS3 => ?_
 show C _ _ _ _ _ _
 refine C_sr ?_
 refine sqv (ex_build (vs := [(0, .int .u64 1)]) (cells := #[.int .u64 1, .int .u64 0, .int .u64 0, .int .u64 0]) rfl (by kernel_rfl)) ?_
 refine sqUE (st_stores (v := .agg #[.int .u64 1, .int .u64 0, .int .u64 0, .int .u64 0]) (cs' := #[.int .u64 1, .int .u64 0, .int .u64 0, .int .u64 0]) 0 hS3 rfl rfl rfl ag40 rfl (Nat.le_of_ble_eq_true rfl) (ones_of rfl) rfl) fun W4 hS5 => ?_
 show C _ _ _ _ _ _
 refine C_ret ?_
 refine done_1 (v := .agg #[.int .u64 1, .int .u64 0, .int .u64 0, .int .u64 0]) rfl (res_row rfl (hS5.at 0 rfl) ag40 rfl) ?_
 exact ⟨rfl, hS5.none⟩
theorem bI_eq1 {q : Prop} [Decidable q] : bI (decide q) = 1 ↔ q := by
 unfold bI; by_cases h : q <;> simp [h]
theorem c_rSubtract (m : Nat) (a : Nat) (c : Int) (w0 : World) (g0 : m < B256) (g1 : a < B256) (g2 : 0 ≤ c) : Calls Tryz.prog 61 #[elV m, elV a, .int .u64 c] w0 (Ret fun uu w' => uu = elV (sbN m a c) ∧ St [] w0 w' [] []) := by
 have hbi : bI (decide (a < m)) = 1 ↔ a < m := bI_eq1
 refine calls_of Tryz.func61 rfl Tryz.ntmps61 (Nat.le_of_ble_eq_true rfl) ?_
 have hS0 := St.nil w0
 refine C_sr ?_
 refine sqE (st_box (v := elV m) (cs := (elA m)) hS0 rfl rfl) fun b1 W2 hS3 => ?_
 refine sqE (st_box (v := elV a) (cs := (elA a)) hS3 rfl rfl) fun b4 W5 hS6 => ?_
 refine sqE (st_alloc hS6 ze40) fun b7 W8 hS9 => ?_
 show C _ _ _ _ _ _
 refine C_sr ?_
 refine sqv (ex_loads (vs := (el a)) rfl (hS9.at 1 rfl) ag40 rfl rfl) ?_
 refine sqv (ex_loads (vs := (el m)) rfl (hS9.at 2 rfl) ag40 rfl rfl) ?_
 refine sqc (exe_call (args := #[elV a, elV m]) en103 (args_of2 rfl rfl)) (c_sub a m W8 (by assumption) (by assumption)) ?_
 rintro _ W10 ⟨rfl, hT12⟩
 have hS11 := hS9.call hT12
 refine sqv (ex_move (v := .tuple #[elV (subN a m), .int .u64 (bI (decide (a < m)))]) rfl) ?_
 refine sqv (ex_extract (v := elV (subN a m)) rfl rfl) ?_
 refine sqv (ex_extract (v := .int .u64 (bI (decide (a < m)))) rfl rfl) ?_
 refine sqE (st_alloc hS11 ze40) fun b14 W15 hS16 => ?_
 refine sqUE (st_stores (v := elV (subN a m)) (cs' := (elA (subN a m))) 0 hS16 rfl rfl rfl ag40 rfl (Nat.le_of_ble_eq_true rfl) (ones_of rfl) rfl) fun W17 hS18 => ?_
 refine sqv (ex_assign (v := .int .u64 (bI (decide (a < m)))) rfl) ?_
 show C _ _ _ _ _ _
 refine C_seq ?_
 refine C_sr ?_
 refine sqv (ex_move (v := .int .u64 c) rfl) ?_
 refine nm (c % 2) fun x19 hx19 => ?_
 refine sqv (ex_rem (x := c) (y := 2) rfl rfl (by omega) (hx19.trans (Int.tmod_eq_emod_of_nonneg (by omega)).symm)) ?_
 refine nm (decide (x19 = 0)) fun t20 ht20 => ?_
 refine sqv (ex_cmp (x := x19) (y := 0) rfl rfl ht20) ?_
 refine sqv (ex_move (v := .bool t20) rfl) ?_
 rcases bool_cases t20 with hb21 | hb21
 ·subst hb21
  have hb21 := of_decide_eq_true ht20.symm
  refine guard_yes (b := true) rfl rfl ?_
  refine sqv (ex_move (v := .int .u64 (bI (decide (a < m)))) rfl) ?_
  refine guard_yes (b := true) rfl rfl ?_
  refine nm (decide ((bI (decide (a < m))) = 1)) fun t22 ht22 => ?_
  refine sqv (ex_cmp (x := (bI (decide (a < m)))) (y := 1) rfl rfl ht22) ?_
  refine sqv (ex_pick (t := true) (v := .bool t22) rfl rfl) ?_
  show C _ _ _ _ _ _
  refine C_if (t := t22) rfl (fun hc23 => ?_) (fun hc23 => ?_)
  ·have hc23' := of_decide_eq_true (ht22.symm.trans hc23)
   refine C_sr ?_
   refine sqv (ex_loads (vs := (el a)) rfl (hS18.at 2 rfl) ag40 rfl rfl) ?_
   refine sqUE (st_stores (v := elV a) (cs' := (elA a)) 1 hS18 rfl rfl rfl ag40 rfl (Nat.le_of_ble_eq_true rfl) (ones_of rfl) rfl) fun W24 hS25 => ?_
   show C _ _ _ _ _ _
   refine C_ret ?_
   refine thn_ret ?_
   refine done_1 (v := elV a) rfl (res_row rfl (hS25.at 1 rfl) ag40 rfl) ?_
   exact ⟨by rw [show sbN m a c = a from by unfold sbN; first | rw [if_pos (by omega)] | rw [if_neg (by omega)]], hS25.none⟩
  have hc23' := of_decide_eq_false (ht22.symm.trans hc23)
  refine C_skip ?_
  show C _ _ _ _ _ _
  refine C_sr ?_
  refine sqv (ex_loads (vs := (el (subN a m))) rfl (hS18.at 0 rfl) ag40 rfl rfl) ?_
  refine sqUE (st_stores (v := elV (subN a m)) (cs' := (elA (subN a m))) 1 hS18 rfl rfl rfl ag40 rfl (Nat.le_of_ble_eq_true rfl) (ones_of rfl) rfl) fun W26 hS27 => ?_
  show C _ _ _ _ _ _
  refine C_ret ?_
  refine done_1 (v := elV (subN a m)) rfl (res_row rfl (hS27.at 1 rfl) ag40 rfl) ?_
  exact ⟨by rw [show sbN m a c = subN a m from by unfold sbN; first | rw [if_pos (by omega)] | rw [if_neg (by omega)]], hS27.none⟩
 subst hb21
 have hb21 := of_decide_eq_false ht20.symm
 refine guard_no (b' := false) rfl rfl (by decide) ?_
 refine guard_no (b' := false) rfl rfl (by decide) ?_
 refine sqv (ex_pick (t := false) (v := .bool false) rfl rfl) ?_
 show C _ _ _ _ _ _
 refine C_false rfl ?_
 refine C_skip ?_
 show C _ _ _ _ _ _
 refine C_sr ?_
 refine sqv (ex_loads (vs := (el (subN a m))) rfl (hS18.at 0 rfl) ag40 rfl rfl) ?_
 refine sqUE (st_stores (v := elV (subN a m)) (cs' := (elA (subN a m))) 1 hS18 rfl rfl rfl ag40 rfl (Nat.le_of_ble_eq_true rfl) (ones_of rfl) rfl) fun W28 hS29 => ?_
 show C _ _ _ _ _ _
 refine C_ret ?_
 refine done_1 (v := elV (subN a m)) rfl (res_row rfl (hS29.at 1 rfl) ag40 rfl) ?_
 exact ⟨by rw [show sbN m a c = subN a m from by unfold sbN; first | rw [if_pos (by omega)] | rw [if_neg (by omega)]], hS29.none⟩
theorem c_rAdd (p : Nat) (a : Nat) (b : Nat) (w0 : World) (g0 : p < B256) (g1 : a < p) (g2 : b < p) : Calls Tryz.prog 22 #[elV p, elV a, elV b] w0 (Ret fun uu w' => uu = elV (rAdd p a b) ∧ St [] w0 w' [] []) := by
 have ha := lt_256 g0 g1
 have hb := lt_256 g0 g2
 refine calls_of Tryz.func22 rfl Tryz.ntmps22 (Nat.le_of_ble_eq_true rfl) ?_
 have hS0 := St.nil w0
 refine C_sr ?_
 refine sqE (st_box (v := elV p) (cs := (elA p)) hS0 rfl rfl) fun b1 W2 hS3 => ?_
 refine sqE (st_box (v := elV a) (cs := (elA a)) hS3 rfl rfl) fun b4 W5 hS6 => ?_
 refine sqE (st_box (v := elV b) (cs := (elA b)) hS6 rfl rfl) fun b7 W8 hS9 => ?_
 refine sqE (st_alloc hS9 ze40) fun b10 W11 hS12 => ?_
 show C _ _ _ _ _ _
 refine C_sr ?_
 refine sqv (ex_loads (vs := (el a)) rfl (hS12.at 2 rfl) ag40 rfl rfl) ?_
 refine sqv (ex_loads (vs := (el b)) rfl (hS12.at 1 rfl) ag40 rfl rfl) ?_
 refine sqc (exe_call (args := #[elV a, elV b]) en60 (args_of2 rfl rfl)) (c_Sum a b W11 (by assumption) (by assumption)) ?_
 rintro _ W13 ⟨rfl, hT15⟩
 have hS14 := hS12.call hT15
 refine sqv (ex_move (v := .tuple #[elV (addN a b), .int .u64 (bI (decide (B256 ≤ a + b)))]) rfl) ?_
 refine sqv (ex_extract (v := elV (addN a b)) rfl rfl) ?_
 refine sqv (ex_extract (v := .int .u64 (bI (decide (B256 ≤ a + b)))) rfl rfl) ?_
 refine sqE (st_alloc hS14 ze40) fun b17 W18 hS19 => ?_
 refine sqUE (st_stores (v := elV (addN a b)) (cs' := (elA (addN a b))) 0 hS19 rfl rfl rfl ag40 rfl (Nat.le_of_ble_eq_true rfl) (ones_of rfl) rfl) fun W20 hS21 => ?_
 refine sqv (ex_assign (v := .int .u64 (bI (decide (B256 ≤ a + b)))) rfl) ?_
 show C _ _ _ _ _ _
 refine C_sr ?_
 refine sqv (ex_loads (vs := (el p)) rfl (hS21.at 4 rfl) ag40 rfl rfl) ?_
 refine sqv (ex_loads (vs := (el (addN a b))) rfl (hS21.at 0 rfl) ag40 rfl rfl) ?_
 refine sqv (ex_move (v := .int .u64 (bI (decide (B256 ≤ a + b)))) rfl) ?_
 refine sqc (exe_call (args := #[elV p, elV (addN a b), .int .u64 (bI (decide (B256 ≤ a + b)))]) en61 (args_of3 rfl rfl rfl)) (c_rSubtract p (addN a b) (bI (decide (B256 ≤ a + b))) W20 (by assumption) (by first | assumption | exact addN_lt _ _) (by first | omega | exact (bI_range _).1)) ?_
 rintro _ W22 ⟨rfl, hT24⟩
 have hS23 := hS21.call hT24
 refine sqUE (st_stores (v := elV (sbN p (addN a b) (bI (decide (B256 ≤ a + b))))) (cs' := (elA (sbN p (addN a b) (bI (decide (B256 ≤ a + b)))))) 1 hS23 rfl rfl rfl ag40 rfl (Nat.le_of_ble_eq_true rfl) (ones_of rfl) rfl) fun W26 hS27 => ?_
 show C _ _ _ _ _ _
 refine C_ret ?_
 refine done_1 (v := elV (sbN p (addN a b) (bI (decide (B256 ≤ a + b))))) rfl (res_row rfl (hS27.at 1 rfl) ag40 rfl) ?_
 exact ⟨by rw [rAdd_eq g0 g1 g2], hS27.none⟩
theorem c_rMul (p : Nat) (a : Nat) (b : Nat) (w0 : World) (g0 : p < B256) (g1 : a < p) (g2 : b < B256) : Calls Tryz.prog 58 #[elV p, elV a, elV b] w0 (Ret fun uu w' => uu = elV (rMul p a b) ∧ St [] w0 w' [] []) := by
 have hp0 : 0 < p := by omega
 refine calls_of Tryz.func58 rfl Tryz.ntmps58 (Nat.le_of_ble_eq_true rfl) ?_
 have hS0 := St.nil w0
 refine C_sr ?_
 refine sqE (st_box (v := elV p) (cs := (elA p)) hS0 rfl rfl) fun b1 W2 hS3 => ?_
 refine sqE (st_box (v := elV a) (cs := (elA a)) hS3 rfl rfl) fun b4 W5 hS6 => ?_
 refine sqE (st_box (v := elV b) (cs := (elA b)) hS6 rfl rfl) fun b7 W8 hS9 => ?_
 refine sqE (st_alloc hS9 ze40) fun b10 W11 hS12 => ?_
 show C _ _ _ _ _ _
 refine C_sr ?_
 refine sqE (st_alloc hS12 ze40) fun b13 W14 hS15 => ?_
 show C _ _ _ _ _ _
 refine C_seq ?_
 refine C_sr ?_
 refine sqv (ex_assign (v := .int .i64 255) rfl) ?_
 show C _ _ _ _ _ _
 refine C_block ?_
 refine C_loop (fun nn aa ww => ∃ (m0 : Nat → Value) (k o : Nat), nn = 256 - k ∧ aa = act 26 (upds m0 [(3, pt b1), (4, pt b4), (5, pt b7), (6, pt b10), (7, pt b13), (8, .int .i64 (255 - (k : Int)))]) [] ∧ St [] w0 ww [some (b13, .cells (elA o) 40), some (b10, .cells #[.int .u64 0, .int .u64 0, .int .u64 0, .int .u64 0] 40), some (b7, .cells (elA b) 40), some (b4, .cells (elA a) 40), some (b1, .cells (elA p) 40)] [] ∧ (k ≤ 256) ∧ (o = rMul p a (b / 2 ^ (256 - k))) ∧ (o < p)) 256 ?_ ?_
 ·exact ⟨_, 0, 0, rfl, act_upds ⟨rfl, rfl, rfl, rfl, rfl, (congrArg (Value.int .i64) (by first | rfl | omega)), trivial⟩, (St.pick (L := [some (b13, .cells #[.int .u64 0, .int .u64 0, .int .u64 0, .int .u64 0] 40), some (b10, .cells #[.int .u64 0, .int .u64 0, .int .u64 0, .int .u64 0] 40), some (b7, .cells (elA b) 40), some (b4, .cells (elA a) 40), some (b1, .cells (elA p) 40)]) hS15 [0, 1, 2, 3, 4] (by decide)), (by decide), (mul_init g2), hp0⟩
 rintro n19 a20 W17 ⟨m16, k, o, rfl, rfl, hS18, hk, ho, hop⟩
 refine C_seq ?_
 refine C_sr ?_
 refine sqv (ex_move (v := .int .i64 (255 - (k : Int))) rfl) ?_
 refine sqv (ex_cmp (x := (255 - (k : Int))) (y := 0) (r := decide (0 ≤ (255 - (k : Int)))) rfl rfl rfl) ?_
 show C _ _ _ _ _ _
 refine C_dec (0 ≤ (255 - (k : Int))) rfl (fun hc21 => ?_) (fun hc21 => ?_)
 ·refine C_skip ?_
  show C _ _ _ _ _ _
  refine C_seq ?_
  refine C_block ?_
  refine C_sr ?_
  refine sqv (ex_loads (vs := (el p)) rfl (hS18.at 4 rfl) ag40 rfl rfl) ?_
  refine sqv (ex_loads (vs := (el o)) rfl (hS18.at 0 rfl) ag40 rfl rfl) ?_
  refine sqv (ex_loads (vs := (el o)) rfl (hS18.at 0 rfl) ag40 rfl rfl) ?_
  refine sqc (exe_call (args := #[elV p, elV o, elV o]) en22 (args_of3 rfl rfl rfl)) (c_rAdd p o o W17 (by assumption) (by first | assumption | exact rAdd_lt hp0) (by assumption)) ?_
  rintro _ W22 ⟨rfl, hT24⟩
  have hS23 := hS18.call hT24
  refine sqUE (st_stores (v := elV (rAdd p o o)) (cs' := (elA (rAdd p o o))) 0 hS23 rfl rfl rfl ag40 rfl (Nat.le_of_ble_eq_true rfl) (ones_of rfl) rfl) fun W26 hS27 => ?_
  show C _ _ _ _ _ _
  refine C_sr ?_
  refine sqv (ex_loads (vs := (el b)) rfl (hS27.at 2 rfl) ag40 rfl rfl) ?_
  refine sqv (ex_move (v := .int .i64 (255 - (k : Int))) rfl) ?_
  refine sqc (exe_call (args := #[elV b, .int .i64 (255 - (k : Int))]) en102 (args_of2 rfl rfl)) (c_Bit b (255 - (k : Int)) W26 (by omega)) ?_
  rintro _ W28 ⟨rfl, hT30⟩
  have hS29 := hS27.call hT30
  refine sqv (ex_cmp (x := (bitN b ((255 - (k : Int))).toNat : Int)) (y := 1) (r := decide ((bitN b ((255 - (k : Int))).toNat : Int) = 1)) rfl rfl rfl) ?_
  show C _ _ _ _ _ _
  refine C_dec ((bitN b ((255 - (k : Int))).toNat : Int) = 1) rfl (fun hc32 => ?_) (fun hc32 => ?_)
  ·refine C_region ?_
   refine sqv (ex_loads (vs := (el p)) rfl (hS29.at 4 rfl) ag40 rfl rfl) ?_
   refine sqv (ex_loads (vs := (el (rAdd p o o))) rfl (hS29.at 0 rfl) ag40 rfl rfl) ?_
   refine sqv (ex_loads (vs := (el a)) rfl (hS29.at 3 rfl) ag40 rfl rfl) ?_
   refine sqc (exe_call (args := #[elV p, elV (rAdd p o o), elV a]) en22 (args_of3 rfl rfl rfl)) (c_rAdd p (rAdd p o o) a W28 (by assumption) (by first | assumption | exact rAdd_lt hp0) (by assumption)) ?_
   rintro _ W33 ⟨rfl, hT35⟩
   have hS34 := hS29.call hT35
   refine sqUE (st_stores (v := elV (rAdd p (rAdd p o o) a)) (cs' := (elA (rAdd p (rAdd p o o) a))) 0 hS34 rfl rfl rfl ag40 rfl (Nat.le_of_ble_eq_true rfl) (ones_of rfl) rfl) fun W37 hS38 => ?_
   refine blk_normal ?_
   show C _ _ _ _ _ _
   refine C_region ?_
   refine sqv (ex_move (v := .int .i64 (255 - (k : Int))) rfl) ?_
   refine nm ((255 - (k : Int)) - 1) fun x39 hx39 => ?_
   refine sqv (ex_sub (x := (255 - (k : Int))) (y := 1) rfl rfl (w64 hx39 (by omega))) ?_
   refine sqv (ex_assign (v := .int .i64 x39) rfl) ?_
   exact ⟨_, (by omega), ⟨_, (k + 1), (rAdd p (rAdd p o o) a), rfl, act_upds ⟨rfl, rfl, rfl, rfl, rfl, (congrArg (Value.int .i64) (by first | rfl | omega)), trivial⟩, (St.pick (L := [some (b13, .cells (elA (rAdd p (rAdd p o o) a)) 40), some (b10, .cells #[.int .u64 0, .int .u64 0, .int .u64 0, .int .u64 0] 40), some (b7, .cells (elA b) 40), some (b4, .cells (elA a) 40), some (b1, .cells (elA p) 40)]) hS38 [0, 1, 2, 3, 4] (by decide)), (by omega), (mul_step1 (by omega) ho (by have hb := hc32; rw [show (255 - (k : Int)).toNat = 255 - k from by omega] at hb; omega)), (rAdd_lt hp0)⟩⟩
  refine C_skip ?_
  refine blk_normal ?_
  show C _ _ _ _ _ _
  refine C_region ?_
  refine sqv (ex_move (v := .int .i64 (255 - (k : Int))) rfl) ?_
  refine nm ((255 - (k : Int)) - 1) fun x40 hx40 => ?_
  refine sqv (ex_sub (x := (255 - (k : Int))) (y := 1) rfl rfl (w64 hx40 (by omega))) ?_
  refine sqv (ex_assign (v := .int .i64 x40) rfl) ?_
  exact ⟨_, (by omega), ⟨_, (k + 1), (rAdd p o o), rfl, act_upds ⟨rfl, rfl, rfl, rfl, rfl, (congrArg (Value.int .i64) (by first | rfl | omega)), trivial⟩, (St.pick (L := [some (b13, .cells (elA (rAdd p o o)) 40), some (b10, .cells #[.int .u64 0, .int .u64 0, .int .u64 0, .int .u64 0] 40), some (b7, .cells (elA b) 40), some (b4, .cells (elA a) 40), some (b1, .cells (elA p) 40)]) hS29 [0, 1, 2, 3, 4] (by decide)), (by omega), (mul_step0 (by omega) ho (by have hb := hc32; rw [show (255 - (k : Int)).toNat = 255 - k from by omega] at hb; omega)), (rAdd_lt hp0)⟩⟩
 refine C_exit ?_
 refine thn_exit ?_
 refine thn_exit ?_
 refine blk_exit ?_
 show C _ _ _ _ _ _
 refine C_sr ?_
 refine sqv (ex_loads (vs := (el o)) rfl (hS18.at 0 rfl) ag40 rfl rfl) ?_
 refine sqUE (st_stores (v := elV o) (cs' := (elA o)) 1 hS18 rfl rfl rfl ag40 rfl (Nat.le_of_ble_eq_true rfl) (ones_of rfl) rfl) fun W41 hS42 => ?_
 show C _ _ _ _ _ _
 refine C_ret ?_
 refine done_1 (v := elV o) rfl (res_row rfl (hS42.at 1 rfl) ag40 rfl) ?_
 obtain rfl : k = 256 := by omega
 exact ⟨by rw [ho, show 256 - 256 = 0 from rfl, Nat.pow_zero, Nat.div_one], hS42.none⟩
theorem c_rRadix (p : Nat) (w0 : World) (g0 : p < B256) (g1 : 1 < p) : Calls Tryz.prog 78 #[elV p] w0 (Ret fun uu w' => uu = elV (rRad p) ∧ St [] w0 w' [] []) := by
 refine calls_of Tryz.func78 rfl Tryz.ntmps78 (Nat.le_of_ble_eq_true rfl) ?_
 have hS0 := St.nil w0
 refine C_sr ?_
 refine sqE (st_box (v := elV p) (cs := (elA p)) hS0 rfl rfl) fun b1 W2 hS3 => ?_
 refine sqE (st_alloc hS3 ze40) fun b4 W5 hS6 => ?_
 show C _ _ _ _ _ _
 refine C_sr ?_
 refine sqc (exe_call (args := #[]) en59 args_of0) (c_One W5) ?_
 rintro _ W7 ⟨rfl, hT9⟩
 have hS8 := hS6.call hT9
 refine sqE (st_alloc hS8 ze40) fun b11 W12 hS13 => ?_
 refine sqUE (st_stores (v := elV 1) (cs' := (elA 1)) 0 hS13 rfl rfl rfl ag40 rfl (Nat.le_of_ble_eq_true rfl) (ones_of rfl) rfl) fun W14 hS15 => ?_
 show C _ _ _ _ _ _
 refine C_seq ?_
 refine C_sr ?_
 refine sqv (ex_assign (v := .int .i64 0) rfl) ?_
 show C _ _ _ _ _ _
 refine C_block ?_
 refine C_loop (fun nn aa ww => ∃ (m0 : Nat → Value) (k : Nat), nn = 256 - k ∧ aa = act 15 (upds m0 [(1, pt b1), (2, pt b4), (3, pt b11), (4, .int .i64 (k : Int))]) [] ∧ St [] w0 ww [some (b11, .cells (elA (dblN p k)) 40), some (b4, .cells #[.int .u64 0, .int .u64 0, .int .u64 0, .int .u64 0] 40), some (b1, .cells (elA p) 40)] [] ∧ (k ≤ 256) ∧ (dblN p k < p)) 256 ?_ ?_
 ·exact ⟨_, 0, rfl, act_upds ⟨rfl, rfl, rfl, (congrArg (Value.int .i64) (by first | rfl | omega)), trivial⟩, (St.pick (L := [some (b11, .cells (elA 1) 40), some (b4, .cells #[.int .u64 0, .int .u64 0, .int .u64 0, .int .u64 0] 40), some (b1, .cells (elA p) 40)]) hS15 [0, 1, 2] (by decide)), (by decide), g1⟩
 rintro n19 a20 W17 ⟨m16, k, rfl, rfl, hS18, hk, hop⟩
 refine C_seq ?_
 refine C_sr ?_
 refine sqv (ex_move (v := .int .i64 (k : Int)) rfl) ?_
 refine sqv (ex_cmp (x := (k : Int)) (y := 256) (r := decide ((k : Int) < 256)) rfl rfl rfl) ?_
 show C _ _ _ _ _ _
 refine C_dec ((k : Int) < 256) rfl (fun hc21 => ?_) (fun hc21 => ?_)
 ·refine C_skip ?_
  show C _ _ _ _ _ _
  refine C_seq ?_
  refine C_block ?_
  refine C_region ?_
  refine sqv (ex_loads (vs := (el p)) rfl (hS18.at 2 rfl) ag40 rfl rfl) ?_
  refine sqv (ex_loads (vs := (el (dblN p k))) rfl (hS18.at 0 rfl) ag40 rfl rfl) ?_
  refine sqv (ex_loads (vs := (el (dblN p k))) rfl (hS18.at 0 rfl) ag40 rfl rfl) ?_
  refine sqc (exe_call (args := #[elV p, elV (dblN p k), elV (dblN p k)]) en22 (args_of3 rfl rfl rfl)) (c_rAdd p (dblN p k) (dblN p k) W17 (by assumption) (by assumption) (by assumption)) ?_
  rintro _ W22 ⟨rfl, hT24⟩
  have hS23 := hS18.call hT24
  refine sqUE (st_stores (v := elV (rAdd p (dblN p k) (dblN p k))) (cs' := (elA (rAdd p (dblN p k) (dblN p k)))) 0 hS23 rfl rfl rfl ag40 rfl (Nat.le_of_ble_eq_true rfl) (ones_of rfl) rfl) fun W26 hS27 => ?_
  refine blk_normal ?_
  show C _ _ _ _ _ _
  refine C_region ?_
  refine sqv (ex_move (v := .int .i64 (k : Int)) rfl) ?_
  refine nm ((k : Int) + 1) fun x28 hx28 => ?_
  refine sqv (ex_add (x := (k : Int)) (y := 1) rfl rfl (w64 hx28 (by omega))) ?_
  refine sqv (ex_assign (v := .int .i64 x28) rfl) ?_
  exact ⟨_, (by omega), ⟨_, (k + 1), rfl, act_upds ⟨rfl, rfl, rfl, (congrArg (Value.int .i64) (by first | rfl | omega)), trivial⟩, (St.pick (L := [some (b11, .cells (elA (rAdd p (dblN p k) (dblN p k))) 40), some (b4, .cells #[.int .u64 0, .int .u64 0, .int .u64 0, .int .u64 0] 40), some (b1, .cells (elA p) 40)]) hS27 [0, 1, 2] (by decide)), (by omega), (rAdd_lt (by omega))⟩⟩
 refine C_exit ?_
 refine thn_exit ?_
 refine thn_exit ?_
 refine blk_exit ?_
 show C _ _ _ _ _ _
 refine C_sr ?_
 refine sqv (ex_loads (vs := (el (dblN p k))) rfl (hS18.at 0 rfl) ag40 rfl rfl) ?_
 refine sqUE (st_stores (v := elV (dblN p k)) (cs' := (elA (dblN p k))) 1 hS18 rfl rfl rfl ag40 rfl (Nat.le_of_ble_eq_true rfl) (ones_of rfl) rfl) fun W29 hS30 => ?_
 show C _ _ _ _ _ _
 refine C_ret ?_
 refine done_1 (v := elV (dblN p k)) rfl (res_row rfl (hS30.at 1 rfl) ag40 rfl) ?_
 obtain rfl : k = 256 := by omega
 exact ⟨by rw [dblN_rad g1], hS30.none⟩
theorem c_rForm (p : Nat) (v : Nat) (w0 : World) (g0 : p < B256) (g1 : 1 < p) (g2 : v < B256) : Calls Tryz.prog 38 #[elV p, elV v] w0 (Ret fun uu w' => uu = elV (rForm p v) ∧ St [] w0 w' [] []) := by
 refine calls_of Tryz.func38 rfl Tryz.ntmps38 (Nat.le_of_ble_eq_true rfl) ?_
 have hS0 := St.nil w0
 refine C_sr ?_
 refine sqE (st_box (v := elV p) (cs := (elA p)) hS0 rfl rfl) fun b1 W2 hS3 => ?_
 refine sqE (st_box (v := elV v) (cs := (elA v)) hS3 rfl rfl) fun b4 W5 hS6 => ?_
 refine sqE (st_alloc hS6 ze40) fun b7 W8 hS9 => ?_
 show C _ _ _ _ _ _
 refine C_seq ?_
 refine C_draw (p := 5) (l := [(some 5, elV p), (some 6, elV p), (some 7, elV (rRad p)), (some 8, elV v), (some 9, elV (rMul p (rRad p) v))]) (G := []) (J := fun w => St [] w0 w [some (b7, .cells #[.int .u64 0, .int .u64 0, .int .u64 0, .int .u64 0] 40), some (b4, .cells (elA v) 40), some (b1, .cells (elA p) 40)] []) mixed ?_ (hS9.draw _)
 refine node1 5 [] [] [] (by kernel_rfl) rfl rfl (nd rfl) rfl (by kernel_rfl) ?_ ?_ ?_
 ·intro S wd hSd
  refine ⟨n0 rfl rfl rfl (ex_loads (vs := (el p)) rfl (hSd.at 2 rfl) ag40 rfl rfl) rfl hSd, n0 rfl rfl rfl (ex_loads (vs := (el p)) rfl (hSd.at 2 rfl) ag40 rfl rfl) rfl hSd, ?_, n0 rfl rfl rfl (ex_loads (vs := (el v)) rfl (hSd.at 1 rfl) ag40 rfl rfl) rfl hSd, ?_, tt⟩
  ·refine needG rfl ?_
   rintro ⟨hq1, _⟩ hno
   refine dxC (wanted_none rfl) rfl (exe_call (args := #[elV p]) en78 (args_of1 (evS hq1 rfl rfl))) (c_rRadix p wd (by assumption) (by assumption)) ?_
   rintro _ W10 ⟨rfl, hT12⟩
   have hS11 := hSd.call hT12
   exact ⟨rfl, hS11⟩
  refine needG rfl ?_
  rintro ⟨hq0, hq2, hq3, hq2, _⟩ hno
  refine dxC (wanted_none rfl) rfl (exe_call (args := #[elV p, elV (rRad p), elV v]) en58 (args_of3 (evS hq0 rfl rfl) (evS hq2 rfl rfl) (evS hq3 rfl rfl))) (c_rMul p (rRad p) v wd (by assumption) (Nat.mod_lt _ (by omega)) (by first | assumption | exact lt_256 (by assumption) (by assumption))) ?_
  rintro _ W14 ⟨rfl, hT16⟩
  have hS15 := hSd.call hT16
  exact ⟨rfl, hS15⟩
 ·exact fun S wd hSd => ⟨True.intro, True.intro, True.intro, True.intro, True.intro, True.intro⟩
 intro _ W18 hS19
 refine sqUE (st_stores (v := elV (rMul p (rRad p) v)) (cs' := (elA (rMul p (rRad p) v))) 0 hS19 rfl rfl rfl ag40 rfl (Nat.le_of_ble_eq_true rfl) (ones_of rfl) rfl) fun W20 hS21 => ?_
 show C _ _ _ _ _ _
 refine C_ret ?_
 refine done_1 (v := elV (rMul p (rRad p) v)) rfl (res_row rfl (hS21.at 0 rfl) ag40 rfl) ?_
 exact ⟨rfl, hS21.none⟩
end Go.Proofs
end
section
set_option linter.unusedVariables false
set_option linter.unusedSimpArgs false
set_option maxRecDepth 20000
set_option maxHeartbeats 2000000
namespace Go.Proofs
open Sc
theorem f1_p : elV F1.p = .agg #[.int .u64 18446744073709551597, .int .u64 18446744073709551615, .int .u64 18446744073709551615, .int .u64 9223372036854775807] := by kernel_rfl
theorem f2_p : elV F2.p = .agg #[.int .u64 17562291160714782033, .int .u64 13611842547513532036, .int .u64 18446744073709551615, .int .u64 18446744069414584320] := by kernel_rfl
theorem c_Modulus (F : PrF) (n : Int) (w0 : World) (g0 : FOk F) (g1 : n = F.id) : Calls Tryz.prog 20 #[.int .i64 n] w0 (Ret fun uu w' => uu = elV F.p ∧ St [] w0 w' [] []) := by
 refine calls_of Tryz.func20 rfl Tryz.ntmps20 (Nat.le_of_ble_eq_true rfl) ?_
 have hS0 := St.nil w0
 refine C_sr ?_
 refine sqE (st_alloc hS0 ze40) fun b1 W2 hS3 => ?_
 show C _ _ _ _ _ _
 refine C_seq ?_
 refine C_sr ?_
 refine sqv (ex_move (v := .int .i64 n) rfl) ?_
 refine sqv (ex_cmp (x := n) (y := 1) (r := decide (n = 1)) rfl rfl rfl) ?_
 show C _ _ _ _ _ _
 refine C_dec (n = 1) rfl (fun hc4 => ?_) (fun hc4 => ?_)
 ·refine C_sr ?_
  refine sqv (ex_build (vs := [(0, .int .u64 18446744073709551597), (1, .int .u64 18446744073709551615), (2, .int .u64 18446744073709551615), (3, .int .u64 9223372036854775807)]) (cells := #[.int .u64 18446744073709551597, .int .u64 18446744073709551615, .int .u64 18446744073709551615, .int .u64 9223372036854775807]) rfl (by kernel_rfl)) ?_
  refine sqUE (st_stores (v := .agg #[.int .u64 18446744073709551597, .int .u64 18446744073709551615, .int .u64 18446744073709551615, .int .u64 9223372036854775807]) (cs' := #[.int .u64 18446744073709551597, .int .u64 18446744073709551615, .int .u64 18446744073709551615, .int .u64 9223372036854775807]) 0 hS3 rfl rfl rfl ag40 rfl (Nat.le_of_ble_eq_true rfl) (ones_of rfl) rfl) fun W5 hS6 => ?_
  show C _ _ _ _ _ _
  refine C_ret ?_
  refine thn_ret ?_
  refine done_1 (v := .agg #[.int .u64 18446744073709551597, .int .u64 18446744073709551615, .int .u64 18446744073709551615, .int .u64 9223372036854775807]) rfl (res_row rfl (hS6.at 0 rfl) ag40 rfl) ?_
  obtain rfl := fid1 g0 (by have := f1_id; omega)
  exact ⟨f1_p.symm, hS6.none⟩
 refine C_skip ?_
 show C _ _ _ _ _ _
 refine C_seq ?_
 refine C_sr ?_
 refine sqv (ex_move (v := .int .i64 n) rfl) ?_
 refine sqv (ex_cmp (x := n) (y := 2) (r := decide (n = 2)) rfl rfl rfl) ?_
 show C _ _ _ _ _ _
 refine C_dec (n = 2) rfl (fun hc7 => ?_) (fun hc7 => ?_)
 ·refine C_sr ?_
  refine sqv (ex_build (vs := [(0, .int .u64 17562291160714782033), (1, .int .u64 13611842547513532036), (2, .int .u64 18446744073709551615), (3, .int .u64 18446744069414584320)]) (cells := #[.int .u64 17562291160714782033, .int .u64 13611842547513532036, .int .u64 18446744073709551615, .int .u64 18446744069414584320]) rfl (by kernel_rfl)) ?_
  refine sqUE (st_stores (v := .agg #[.int .u64 17562291160714782033, .int .u64 13611842547513532036, .int .u64 18446744073709551615, .int .u64 18446744069414584320]) (cs' := #[.int .u64 17562291160714782033, .int .u64 13611842547513532036, .int .u64 18446744073709551615, .int .u64 18446744069414584320]) 0 hS3 rfl rfl rfl ag40 rfl (Nat.le_of_ble_eq_true rfl) (ones_of rfl) rfl) fun W8 hS9 => ?_
  show C _ _ _ _ _ _
  refine C_ret ?_
  refine thn_ret ?_
  refine done_1 (v := .agg #[.int .u64 17562291160714782033, .int .u64 13611842547513532036, .int .u64 18446744073709551615, .int .u64 18446744069414584320]) rfl (res_row rfl (hS9.at 0 rfl) ag40 rfl) ?_
  obtain rfl := fid2 g0 (by have := f2_id; omega)
  exact ⟨f2_p.symm, hS9.none⟩
 refine C_skip ?_
 show C _ _ _ _ _ _
 refine C_sr ?_
 refine sqv (ex_build (vs := []) (cells := #[.int .u64 0, .int .u64 0, .int .u64 0, .int .u64 0]) rfl (by kernel_rfl)) ?_
 refine sqUE (st_stores (v := .agg #[.int .u64 0, .int .u64 0, .int .u64 0, .int .u64 0]) (cs' := #[.int .u64 0, .int .u64 0, .int .u64 0, .int .u64 0]) 0 hS3 rfl rfl rfl ag40 rfl (Nat.le_of_ble_eq_true rfl) (ones_of rfl) rfl) fun W10 hS11 => ?_
 show C _ _ _ _ _ _
 refine C_ret ?_
 refine done_1 (v := .agg #[.int .u64 0, .int .u64 0, .int .u64 0, .int .u64 0]) rfl (res_row rfl (hS11.at 0 rfl) ag40 rfl) ?_
 exact absurd (fid_or g0) (by omega)
end Go.Proofs
end
section
set_option linter.unusedVariables false
set_option linter.unusedSimpArgs false
set_option maxRecDepth 20000
set_option maxHeartbeats 2000000
namespace Go.Proofs
open Sc
end Go.Proofs
end
section
set_option linter.unusedVariables false
set_option linter.unusedSimpArgs false
set_option maxRecDepth 20000
set_option maxHeartbeats 2000000
namespace Go.Proofs
open Sc
theorem en126 : enters Tryz.prog 126 = true := by kernel_rfl
theorem en127 : enters Tryz.prog 127 = true := by kernel_rfl
end Go.Proofs
end
section
set_option linter.unusedVariables false
set_option linter.unusedSimpArgs false
set_option maxRecDepth 20000
set_option maxHeartbeats 2000000
namespace Go.Proofs
open Sc
theorem a4_40 : arr4 Tryz.prog 40 = true := by kernel_rfl
theorem en21 : enters Tryz.prog 21 = true := by kernel_rfl
end Go.Proofs
end
section
set_option linter.unusedVariables false
set_option linter.unusedSimpArgs false
set_option maxRecDepth 20000
set_option maxHeartbeats 2000000
namespace Go.Proofs
open Sc
theorem en107 : enters Tryz.prog 107 = true := by kernel_rfl
theorem en108 : enters Tryz.prog 108 = true := by kernel_rfl
theorem en20 : enters Tryz.prog 20 = true := by kernel_rfl
theorem c_rCount (n : Int) (w0 : World) (g0 : -1000000000000 ≤ n) : Calls Tryz.prog 108 #[.int .i64 n] w0 (Ret fun uu w' => uu = .int .i64 (cntI n) ∧ St [] w0 w' [] []) := by
 refine calls_of Tryz.func108 rfl Tryz.ntmps108 (Nat.le_of_ble_eq_true rfl) ?_
 have hS0 := St.nil w0
 refine C_sr ?_
 refine sqv (ex_assign (v := .int .i64 0) rfl) ?_
 show C _ _ _ _ _ _
 refine C_sr ?_
 refine sqv (ex_assign (v := .int .i64 0) rfl) ?_
 show C _ _ _ _ _ _
 refine C_seq ?_
 refine C_sr ?_
 refine sqv (ex_move (v := .int .i64 n) rfl) ?_
 refine sqv (ex_cmp (x := n) (y := 65535) (r := decide (65535 < n)) rfl rfl rfl) ?_
 show C _ _ _ _ _ _
 refine C_dec (65535 < n) rfl (fun hc1 => ?_) (fun hc1 => ?_)
 ·refine C_sr ?_
  refine sqv (ex_assign (v := .int .i64 0) rfl) ?_
  show C _ _ _ _ _ _
  refine C_ret ?_
  refine thn_ret ?_
  refine done_1 (v := .int .i64 0) rfl rfl ?_
  exact ⟨congrArg _ (by unfold cntI; rw [if_neg (by omega)]), hS0.none⟩
 refine C_skip ?_
 show C _ _ _ _ _ _
 refine C_seq ?_
 refine C_block ?_
 refine C_loop (fun nn aa ww => ∃ (m0 : Nat → Value) (c : Nat) (m : Int), nn = m.toNat ∧ aa = act 13 (upds m0 [(0, .int .i64 m), (2, .int .i64 0), (3, .int .i64 (c : Int))]) [] ∧ St [] w0 ww [] [] ∧ (m = n - 31 * c) ∧ (c = 0 ∨ -30 ≤ m)) n.toNat ?_ ?_
 ·exact ⟨_, 0, n, rfl, act_upds ⟨(congrArg (Value.int .i64) (by first | rfl | omega)), (congrArg (Value.int .i64) (by first | rfl | omega)), (congrArg (Value.int .i64) (by first | rfl | omega)), trivial⟩, (St.pick (L := []) hS0 [] (by decide)), (by omega), (.inl rfl)⟩
 rintro n5 a6 W3 ⟨m2, c, m, rfl, rfl, hS4, hm, hl⟩
 refine C_seq ?_
 refine C_sr ?_
 refine sqv (ex_move (v := .int .i64 m) rfl) ?_
 refine sqv (ex_cmp (x := m) (y := 0) (r := decide (0 < m)) rfl rfl rfl) ?_
 show C _ _ _ _ _ _
 refine C_dec (0 < m) rfl (fun hc7 => ?_) (fun hc7 => ?_)
 ·refine C_skip ?_
  show C _ _ _ _ _ _
  refine C_block ?_
  refine C_sr ?_
  refine sqv (ex_move (v := .int .i64 (c : Int)) rfl) ?_
  refine nm ((c : Int) + 1) fun x8 hx8 => ?_
  refine sqv (ex_add (x := (c : Int)) (y := 1) rfl rfl (w64 hx8 (by omega))) ?_
  refine sqv (ex_assign (v := .int .i64 x8) rfl) ?_
  show C _ _ _ _ _ _
  refine C_region ?_
  refine sqv (ex_move (v := .int .i64 m) rfl) ?_
  refine nm (m - 31) fun x9 hx9 => ?_
  refine sqv (ex_sub (x := m) (y := 31) rfl rfl (w64 hx9 (by omega))) ?_
  refine sqv (ex_assign (v := .int .i64 x9) rfl) ?_
  refine blk_normal ?_
  exact ⟨_, (by omega), ⟨_, (c + 1), x9, rfl, act_upds ⟨(congrArg (Value.int .i64) (by first | rfl | omega)), (congrArg (Value.int .i64) (by first | rfl | omega)), (congrArg (Value.int .i64) (by first | rfl | omega)), trivial⟩, (St.pick (L := []) hS4 [] (by decide)), (by omega), (by omega)⟩⟩
 refine C_exit ?_
 refine thn_exit ?_
 refine thn_exit ?_
 refine blk_exit ?_
 show C _ _ _ _ _ _
 refine C_sr ?_
 refine sqv (ex_move (v := .int .i64 (c : Int)) rfl) ?_
 refine sqv (ex_assign (v := .int .i64 (c : Int)) rfl) ?_
 show C _ _ _ _ _ _
 refine C_ret ?_
 refine done_1 (v := .int .i64 (c : Int)) rfl rfl ?_
 exact ⟨congrArg _ (by unfold cntI; by_cases h0 : 0 ≤ n ∧ n ≤ 65535; rw [if_pos h0]; omega; rw [if_neg h0]; omega), hS4.none⟩
theorem c_known (x : Int) (w0 : World)  : Calls Tryz.prog 107 #[.int .i64 x] w0 (Ret fun uu w' => uu = .bool (decide (x = 1 ∨ x = 2)) ∧ St [] w0 w' [] []) := by
 refine calls_of Tryz.func107 rfl Tryz.ntmps107 (Nat.le_of_ble_eq_true rfl) ?_
 have hS0 := St.nil w0
 refine C_sr ?_
 refine sqv (ex_assign (v := .bool false) rfl) ?_
 show C _ _ _ _ _ _
 refine C_sr ?_
 refine sqv (ex_move (v := .int .i64 x) rfl) ?_
 refine nm (decide (x = 1)) fun t1 ht1 => ?_
 refine sqv (ex_cmp (x := x) (y := 1) rfl rfl ht1) ?_
 refine sqv (ex_move (v := .bool t1) rfl) ?_
 rcases bool_cases t1 with hb2 | hb2
 ·subst hb2
  have hb2 := of_decide_eq_true ht1.symm
  refine guard_no (b' := true) rfl rfl (by decide) ?_
  refine guard_no (b' := true) rfl rfl (by decide) ?_
  refine sqv (ex_pick (t := true) (v := .bool true) rfl rfl) ?_
  refine sqv (ex_assign (v := .bool true) rfl) ?_
  show C _ _ _ _ _ _
  refine C_ret ?_
  refine done_1 (v := .bool true) rfl rfl ?_
  exact ⟨congrArg _ (by rw [Bool.eq_iff_iff]; simp_all), hS0.none⟩
 subst hb2
 have hb2 := of_decide_eq_false ht1.symm
 refine guard_yes (b := false) rfl rfl ?_
 refine sqv (ex_move (v := .int .i64 x) rfl) ?_
 refine guard_yes (b := false) rfl rfl ?_
 refine nm (decide (x = 2)) fun t3 ht3 => ?_
 refine sqv (ex_cmp (x := x) (y := 2) rfl rfl ht3) ?_
 refine sqv (ex_pick (t := false) (v := .bool t3) rfl rfl) ?_
 refine sqv (ex_assign (v := .bool t3) rfl) ?_
 show C _ _ _ _ _ _
 refine C_ret ?_
 refine done_1 (v := .bool t3) rfl rfl ?_
 exact ⟨congrArg _ (by rw [Bool.eq_iff_iff]; simp_all), hS0.none⟩
theorem c_rCheckShare1 (F : PrF) (s : Sh) (Z0 : List Fact) (w0 : World) (g0 : FOk F) (g1 : s.f = F.id) (g2 : ∀ y ∈ s.p, y < B256) (hZ0 : Holds w0 Z0) (hs_s : Sl Z0 49 4 s.v (s.p.flatMap el)) : Calls Tryz.prog 65 #[.agg #[.int .i64 s.f, .int .i64 s.t, .int .i64 s.i, .int .i64 s.n, s.v]] w0 (Ret fun uu w' => uu = .int .i64 (ckSh s) ∧ St [] w0 w' [] []) := by
 have hF := g0
 have hpl := sl_lt (f := el) (k := 4) (fun _ => rfl) (by decide) hs_s
 have hid : s.f = 1 ∨ s.f = 2 := by have := fid_or hF; omega
 refine calls_of Tryz.func65 rfl Tryz.ntmps65 (Nat.le_of_ble_eq_true rfl) ?_
 have hS0 := St.nil w0
 refine C_sr ?_
 refine sqE (st_box (v := .agg #[.int .i64 s.f, .int .i64 s.t, .int .i64 s.i, .int .i64 s.n, s.v]) (cs := #[.int .i64 s.f, .int .i64 s.t, .int .i64 s.i, .int .i64 s.n, s.v]) hS0 rfl rfl) fun b1 W2 hS3 => ?_
 refine sqv (ex_assign (v := .int .i64 0) rfl) ?_
 show C _ _ _ _ _ _
 refine C_seq ?_
 refine C_block ?_
 refine C_sr ?_
 refine sqv (ex_field (o' := 0) rfl fi46_0 rfl) ?_
 refine sqv (ex_load (v := .int .i64 s.f) rfl (hS3.at 0 rfl) on3 rfl) ?_
 refine sqc (exe_call (args := #[.int .i64 s.f]) en107 (args_of1 rfl)) (c_known s.f W2) ?_
 rintro _ W4 ⟨rfl, hT6⟩
 have hS5 := hS3.call hT6
 refine sqv (ex_not (t := (decide (s.f = 1 ∨ s.f = 2))) rfl) ?_
 rw [show (!(decide (s.f = 1 ∨ s.f = 2))) = decide (¬ (s.f = 1 ∨ s.f = 2)) from by rw [Bool.eq_iff_iff]; first | (simp; done) | (simp; omega)]
 refine sqv (ex_assign (v := .bool (decide (¬ (s.f = 1 ∨ s.f = 2)))) rfl) ?_
 show C _ _ _ _ _ _
 refine C_dec (¬ (s.f = 1 ∨ s.f = 2)) rfl (fun hc8 => ?_) (fun hc8 => ?_)
 ·refine C_sr ?_
  refine sqv (ex_assign (v := .int .i64 3) rfl) ?_
  show C _ _ _ _ _ _
  refine C_ret ?_
  refine blk_ret ?_
  refine thn_ret ?_
  refine done_1 (v := .int .i64 3) rfl rfl ?_
  exact ⟨congrArg _ (show (3 : Int) = ckSh s from (by symm; unfold ckSh; rw [if_pos (by omega)])), hS5.none⟩
 refine C_sr ?_
 refine sqv (ex_field (o' := 1) rfl fi46_1 rfl) ?_
 refine sqv (ex_load (v := .int .i64 s.t) rfl (hS5.at 0 rfl) on3 rfl) ?_
 refine nm (decide (s.t < 1)) fun t9 ht9 => ?_
 refine sqv (ex_cmp (x := s.t) (y := 1) rfl rfl ht9) ?_
 refine sqv (ex_move (v := .bool t9) rfl) ?_
 rcases bool_cases t9 with hb10 | hb10
 ·subst hb10
  have hb10 := of_decide_eq_true ht9.symm
  refine guard_no (b' := true) rfl rfl (by decide) ?_
  refine guard_no (b' := true) rfl rfl (by decide) ?_
  refine guard_no (b' := true) rfl rfl (by decide) ?_
  refine sqv (ex_pick (t := true) (v := .bool true) rfl rfl) ?_
  refine sqv (ex_assign (v := .bool true) rfl) ?_
  show C _ _ _ _ _ _
  refine C_true rfl ?_
  refine C_sr ?_
  refine sqv (ex_assign (v := .int .i64 4) rfl) ?_
  show C _ _ _ _ _ _
  refine C_ret ?_
  refine blk_ret ?_
  refine thn_ret ?_
  refine done_1 (v := .int .i64 4) rfl rfl ?_
  exact ⟨congrArg _ (show (4 : Int) = ckSh s from (by symm; unfold ckSh; rw [if_neg (by omega), if_pos (by omega)])), hS5.none⟩
 subst hb10
 have hb10 := of_decide_eq_false ht9.symm
 refine guard_yes (b := false) rfl rfl ?_
 refine sqv (ex_field (o' := 1) rfl fi46_1 rfl) ?_
 refine guard_yes (b := false) rfl rfl ?_
 refine sqv (ex_load (v := .int .i64 s.t) rfl (hS5.at 0 rfl) on3 rfl) ?_
 refine guard_yes (b := false) rfl rfl ?_
 refine nm (decide (255 < s.t)) fun t11 ht11 => ?_
 refine sqv (ex_cmp (x := s.t) (y := 255) rfl rfl ht11) ?_
 refine sqv (ex_pick (t := false) (v := .bool t11) rfl rfl) ?_
 refine sqv (ex_assign (v := .bool t11) rfl) ?_
 show C _ _ _ _ _ _
 refine C_if (t := t11) rfl (fun hc12 => ?_) (fun hc12 => ?_)
 ·have hc12' := of_decide_eq_true (ht11.symm.trans hc12)
  refine C_sr ?_
  refine sqv (ex_assign (v := .int .i64 4) rfl) ?_
  show C _ _ _ _ _ _
  refine C_ret ?_
  refine blk_ret ?_
  refine thn_ret ?_
  refine done_1 (v := .int .i64 4) rfl rfl ?_
  exact ⟨congrArg _ (show (4 : Int) = ckSh s from (by symm; unfold ckSh; rw [if_neg (by omega), if_pos (by omega)])), hS5.none⟩
 have hc12' := of_decide_eq_false (ht11.symm.trans hc12)
 refine C_sr ?_
 refine sqv (ex_field (o' := 2) rfl fi46_2 rfl) ?_
 refine sqv (ex_load (v := .int .i64 s.i) rfl (hS5.at 0 rfl) on3 rfl) ?_
 refine nm (decide (s.i < 1)) fun t13 ht13 => ?_
 refine sqv (ex_cmp (x := s.i) (y := 1) rfl rfl ht13) ?_
 refine sqv (ex_move (v := .bool t13) rfl) ?_
 rcases bool_cases t13 with hb14 | hb14
 ·subst hb14
  have hb14 := of_decide_eq_true ht13.symm
  refine guard_no (b' := true) rfl rfl (by decide) ?_
  refine guard_no (b' := true) rfl rfl (by decide) ?_
  refine guard_no (b' := true) rfl rfl (by decide) ?_
  refine sqv (ex_pick (t := true) (v := .bool true) rfl rfl) ?_
  refine sqv (ex_assign (v := .bool true) rfl) ?_
  show C _ _ _ _ _ _
  refine C_true rfl ?_
  refine C_sr ?_
  refine sqv (ex_assign (v := .int .i64 12) rfl) ?_
  show C _ _ _ _ _ _
  refine C_ret ?_
  refine blk_ret ?_
  refine thn_ret ?_
  refine done_1 (v := .int .i64 12) rfl rfl ?_
  exact ⟨congrArg _ (show (12 : Int) = ckSh s from (by symm; unfold ckSh; rw [if_neg (by omega), if_neg (by omega), if_pos (by omega)])), hS5.none⟩
 subst hb14
 have hb14 := of_decide_eq_false ht13.symm
 refine guard_yes (b := false) rfl rfl ?_
 refine sqv (ex_field (o' := 2) rfl fi46_2 rfl) ?_
 refine guard_yes (b := false) rfl rfl ?_
 refine sqv (ex_load (v := .int .i64 s.i) rfl (hS5.at 0 rfl) on3 rfl) ?_
 refine guard_yes (b := false) rfl rfl ?_
 refine nm (decide (255 < s.i)) fun t15 ht15 => ?_
 refine sqv (ex_cmp (x := s.i) (y := 255) rfl rfl ht15) ?_
 refine sqv (ex_pick (t := false) (v := .bool t15) rfl rfl) ?_
 refine sqv (ex_assign (v := .bool t15) rfl) ?_
 show C _ _ _ _ _ _
 refine C_if (t := t15) rfl (fun hc16 => ?_) (fun hc16 => ?_)
 ·have hc16' := of_decide_eq_true (ht15.symm.trans hc16)
  refine C_sr ?_
  refine sqv (ex_assign (v := .int .i64 12) rfl) ?_
  show C _ _ _ _ _ _
  refine C_ret ?_
  refine blk_ret ?_
  refine thn_ret ?_
  refine done_1 (v := .int .i64 12) rfl rfl ?_
  exact ⟨congrArg _ (show (12 : Int) = ckSh s from (by symm; unfold ckSh; rw [if_neg (by omega), if_neg (by omega), if_pos (by omega)])), hS5.none⟩
 have hc16' := of_decide_eq_false (ht15.symm.trans hc16)
 refine C_sr ?_
 refine sqv (ex_field (o' := 3) rfl fi46_3 rfl) ?_
 refine sqv (ex_load (v := .int .i64 s.n) rfl (hS5.at 0 rfl) on3 rfl) ?_
 refine nm (decide (s.n < 0)) fun t17 ht17 => ?_
 refine sqv (ex_cmp (x := s.n) (y := 0) rfl rfl ht17) ?_
 refine sqv (ex_move (v := .bool t17) rfl) ?_
 rcases bool_cases t17 with hb18 | hb18
 ·subst hb18
  have hb18 := of_decide_eq_true ht17.symm
  refine guard_no (b' := true) rfl rfl (by decide) ?_
  refine guard_no (b' := true) rfl rfl (by decide) ?_
  refine guard_no (b' := true) rfl rfl (by decide) ?_
  refine sqv (ex_pick (t := true) (v := .bool true) rfl rfl) ?_
  refine sqv (ex_assign (v := .bool true) rfl) ?_
  show C _ _ _ _ _ _
  refine C_true rfl ?_
  refine C_sr ?_
  refine sqv (ex_assign (v := .int .i64 6) rfl) ?_
  show C _ _ _ _ _ _
  refine C_ret ?_
  refine blk_ret ?_
  refine thn_ret ?_
  refine done_1 (v := .int .i64 6) rfl rfl ?_
  exact ⟨congrArg _ (show (6 : Int) = ckSh s from (by symm; unfold ckSh; rw [if_neg (by omega), if_neg (by omega), if_neg (by omega), if_pos (by omega)])), hS5.none⟩
 subst hb18
 have hb18 := of_decide_eq_false ht17.symm
 refine guard_yes (b := false) rfl rfl ?_
 refine sqv (ex_field (o' := 3) rfl fi46_3 rfl) ?_
 refine guard_yes (b := false) rfl rfl ?_
 refine sqv (ex_load (v := .int .i64 s.n) rfl (hS5.at 0 rfl) on3 rfl) ?_
 refine guard_yes (b := false) rfl rfl ?_
 refine nm (decide (65535 < s.n)) fun t19 ht19 => ?_
 refine sqv (ex_cmp (x := s.n) (y := 65535) rfl rfl ht19) ?_
 refine sqv (ex_pick (t := false) (v := .bool t19) rfl rfl) ?_
 refine sqv (ex_assign (v := .bool t19) rfl) ?_
 show C _ _ _ _ _ _
 refine C_if (t := t19) rfl (fun hc20 => ?_) (fun hc20 => ?_)
 ·have hc20' := of_decide_eq_true (ht19.symm.trans hc20)
  refine C_sr ?_
  refine sqv (ex_assign (v := .int .i64 6) rfl) ?_
  show C _ _ _ _ _ _
  refine C_ret ?_
  refine blk_ret ?_
  refine thn_ret ?_
  refine done_1 (v := .int .i64 6) rfl rfl ?_
  exact ⟨congrArg _ (show (6 : Int) = ckSh s from (by symm; unfold ckSh; rw [if_neg (by omega), if_neg (by omega), if_neg (by omega), if_pos (by omega)])), hS5.none⟩
 have hc20' := of_decide_eq_false (ht19.symm.trans hc20)
 refine C_seq ?_
 refine C_draw (p := 8) (l := [(some 38, .pointer (some ⟨b1, 4, none⟩)), (some 39, s.v), (some 40, .int .i64 (s.p.length : Int)), (some 41, .pointer (some ⟨b1, 3, none⟩)), (some 42, .int .i64 s.n), (some 43, .int .i64 (cntI s.n)), (some 44, .bool (decide ((s.p.length : Int) ≠ (cntI s.n)))), (some 37, .bool (decide ((s.p.length : Int) ≠ (cntI s.n))))]) (G := []) (J := fun w => St [] w0 w [some (b1, .cells #[.int .i64 s.f, .int .i64 s.t, .int .i64 s.i, .int .i64 s.n, s.v] 46)] []) mixed ?_ (hS5.draw _)
 refine node1 8 [] [] [] (by kernel_rfl) rfl rfl (nd rfl) rfl (by kernel_rfl) ?_ ?_ ?_
 ·intro S wd hSd
  refine ⟨n0 rfl rfl rfl (ex_field (o' := 4) rfl fi46_4 rfl) rfl hSd, n1 rfl rfl rfl rfl (fun hq0 => (ex_load (v := s.v) (evS hq0 rfl rfl) (hSd.at 0 rfl) on44 rfl)) rfl hSd, n1 rfl rfl rfl rfl (fun hq1 => (ex_lenO (f := el) (k := 4) (r := (s.p.length : Int)) (fun _ => rfl) (by decide) (hs_s) (evS hq1 rfl rfl) sl44 rfl)) rfl hSd, n0 rfl rfl rfl (ex_field (o' := 3) rfl fi46_3 rfl) rfl hSd, n1 rfl rfl rfl rfl (fun hq3 => (ex_load (v := .int .i64 s.n) (evS hq3 rfl rfl) (hSd.at 0 rfl) on3 rfl)) rfl hSd, ?_, n2 rfl rfl rfl rfl (fun hq2 hq5 => (ex_cmp (x := (s.p.length : Int)) (y := (cntI s.n)) (r := decide ((s.p.length : Int) ≠ (cntI s.n))) (evS hq2 rfl rfl) (evS hq5 rfl rfl) rfl)) rfl hSd, ?_, tt⟩
  ·refine needG rfl ?_
   rintro ⟨hq4, _⟩ hno
   refine dxC (wanted_none rfl) rfl (exe_call (args := #[.int .i64 s.n]) en108 (args_of1 (evS hq4 rfl rfl))) (c_rCount s.n wd (by omega)) ?_
   rintro _ W21 ⟨rfl, hT23⟩
   have hS22 := hSd.call hT23
   exact ⟨rfl, hS22⟩
  refine needG rfl ?_
  rintro ⟨hq6, hq5, _⟩ hno
  exact dx (wanted_none rfl) rfl (ex_assign (v := .bool (decide ((s.p.length : Int) ≠ (cntI s.n)))) (evS hq6 rfl rfl)) ⟨rfl, hSd⟩
 ·exact fun S wd hSd => ⟨True.intro, True.intro, True.intro, True.intro, True.intro, True.intro, True.intro, True.intro, True.intro⟩
 intro _ W25 hS26
 show C _ _ _ _ _ _
 refine C_dec ((s.p.length : Int) ≠ (cntI s.n)) rfl (fun hc27 => ?_) (fun hc27 => ?_)
 ·refine C_sr ?_
  refine sqv (ex_assign (v := .int .i64 8) rfl) ?_
  show C _ _ _ _ _ _
  refine C_ret ?_
  refine blk_ret ?_
  refine thn_ret ?_
  refine done_1 (v := .int .i64 8) rfl rfl ?_
  exact ⟨congrArg _ (show (8 : Int) = ckSh s from (by symm; unfold ckSh; rw [if_neg (by omega), if_neg (by omega), if_neg (by omega), if_neg (by omega), if_pos (by omega)])), hS26.none⟩
 refine C_skip ?_
 refine blk_normal ?_
 show C _ _ _ _ _ _
 refine C_sr ?_
 refine sqv (ex_field (o' := 0) rfl fi46_0 rfl) ?_
 refine sqv (ex_load (v := .int .i64 s.f) rfl (hS26.at 0 rfl) on3 rfl) ?_
 refine sqc (exe_call (args := #[.int .i64 s.f]) en20 (args_of1 rfl)) (c_Modulus F s.f W25 hF g1) ?_
 rintro _ W28 ⟨rfl, hT30⟩
 have hS29 := hS26.call hT30
 refine sqE (st_alloc hS29 ze40) fun b32 W33 hS34 => ?_
 refine sqUE (st_stores (v := elV F.p) (cs' := (elA (F.p))) 0 hS34 rfl rfl rfl ag40 rfl (Nat.le_of_ble_eq_true rfl) (ones_of rfl) rfl) fun W35 hS36 => ?_
 show C _ _ _ _ _ _
 refine C_seq ?_
 refine C_sr ?_
 refine sqv (ex_assign (v := .int .i64 0) rfl) ?_
 show C _ _ _ _ _ _
 refine C_block ?_
 refine C_loop (fun nn aa ww => ∃ (m0 : Nat → Value) (k : Nat), nn = s.p.length - k ∧ aa = act 68 (upds m0 [(1, pt b1), (3, pt b32), (4, .int .i64 (k : Int))]) [] ∧ St [] w0 ww [some (b32, .cells (elA (F.p)) 40), some (b1, .cells #[.int .i64 s.f, .int .i64 s.t, .int .i64 s.i, .int .i64 s.n, s.v] 46)] [] ∧ (k ≤ s.p.length) ∧ (((s.p.take k).all fun y => decide (y < F.p)) = true)) s.p.length ?_ ?_
 ·exact ⟨_, 0, rfl, act_upds ⟨rfl, rfl, (congrArg (Value.int .i64) (by first | rfl | omega)), trivial⟩, (St.pick (L := [some (b32, .cells (elA (F.p)) 40), some (b1, .cells #[.int .i64 s.f, .int .i64 s.t, .int .i64 s.i, .int .i64 s.n, s.v] 46)]) hS36 [0, 1] (by decide)), (Nat.zero_le _), rfl⟩
 rintro n40 a41 W38 ⟨m37, k, rfl, rfl, hS39, hk, hb⟩
 refine C_seq ?_
 refine C_sr ?_
 refine sqv (ex_move (v := .int .i64 (k : Int)) rfl) ?_
 refine sqv (ex_field (o' := 4) rfl fi46_4 rfl) ?_
 refine sqv (ex_load (v := s.v) rfl (hS39.at 1 rfl) on44 rfl) ?_
 refine sqv (ex_lenO (f := el) (k := 4) (r := (s.p.length : Int)) (fun _ => rfl) (by decide) (hs_s) rfl sl44 rfl) ?_
 refine sqv (ex_cmp (x := (k : Int)) (y := (s.p.length : Int)) (r := decide ((k : Int) < (s.p.length : Int))) rfl rfl rfl) ?_
 show C _ _ _ _ _ _
 refine C_dec ((k : Int) < (s.p.length : Int)) rfl (fun hc42 => ?_) (fun hc42 => ?_)
 ·refine C_skip ?_
  show C _ _ _ _ _ _
  refine C_seq ?_
  refine C_block ?_
  refine C_seq ?_
  obtain ⟨y43, hy44⟩ := get_lt s.p k (by first | omega | (simp only [List.length_set, List.length_replicate, List.length_append, List.length_take, List.length_drop, List.length_cons, List.length_nil, List.length_map]; omega))
  have hky43 := g2 y43 (List.mem_of_getElem? hy44)
  obtain ⟨b45, o46, hI47, hC48⟩ := sl_at (f := el) (k := 4) (fun _ => rfl) (by decide) (hs_s) hy44
  obtain ⟨b53, o54, hI55, hC56⟩ := sl_at (f := el) (k := 4) (fun _ => rfl) (by decide) (hs_s) hy44
  refine C_draw (p := 13) (l := [(some 55, elV F.p), (some 56, .pointer (some ⟨b1, 4, none⟩)), (some 57, s.v), (some 58, .int .i64 (k : Int)), (some 59, .pointer (some ⟨b45, o46, none⟩)), (some 60, elV y43), (some 61, elV (sbN F.p y43 0)), (some 62, .pointer (some ⟨b1, 4, none⟩)), (some 63, s.v), (some 64, .int .i64 (k : Int)), (some 65, .pointer (some ⟨b53, o54, none⟩)), (some 66, elV y43), (some 67, .bool (decide ((sbN F.p y43 0) ≠ y43)))]) (G := []) (J := fun w => St [] w0 w [some (b32, .cells (elA (F.p)) 40), some (b1, .cells #[.int .i64 s.f, .int .i64 s.t, .int .i64 s.i, .int .i64 s.n, s.v] 46)] []) mixed ?_ (hS39.draw _)
  refine node1 13 [] [] [] (by kernel_rfl) rfl rfl (nd rfl) rfl (by kernel_rfl) ?_ ?_ ?_
  ·intro S wd hSd
   refine ⟨n0 rfl rfl rfl (ex_loads (vs := (el (F.p))) rfl (hSd.at 0 rfl) ag40 rfl rfl) rfl hSd, n0 rfl rfl rfl (ex_field (o' := 4) rfl fi46_4 rfl) rfl hSd, n1 rfl rfl rfl rfl (fun hq1 => (ex_load (v := s.v) (evS hq1 rfl rfl) (hSd.at 1 rfl) on44 rfl)) rfl hSd, n0 rfl rfl rfl (ex_move (v := .int .i64 (k : Int)) rfl) rfl hSd, n2 rfl rfl rfl rfl (fun hq2 hq3 => (ex_sindexO hI47 (evS hq2 rfl rfl) (evS hq3 rfl rfl) sl44 rfl)) rfl hSd, n1 rfl rfl rfl rfl (fun hq4 => (ex_loadsC (r := 0) (vs := (el y43)) hC48 (hSd.holds0 hZ0) (evS hq4 rfl rfl) ag49 rfl rfl rfl)) rfl hSd, ?_, n0 rfl rfl rfl (ex_field (o' := 4) rfl fi46_4 rfl) rfl hSd, n1 rfl rfl rfl rfl (fun hq7 => (ex_load (v := s.v) (evS hq7 rfl rfl) (hSd.at 1 rfl) on44 rfl)) rfl hSd, n0 rfl rfl rfl (ex_move (v := .int .i64 (k : Int)) rfl) rfl hSd, n2 rfl rfl rfl rfl (fun hq8 hq9 => (ex_sindexO hI55 (evS hq8 rfl rfl) (evS hq9 rfl rfl) sl44 rfl)) rfl hSd, n1 rfl rfl rfl rfl (fun hq10 => (ex_loadsC (r := 0) (vs := (el y43)) hC56 (hSd.holds0 hZ0) (evS hq10 rfl rfl) ag49 rfl rfl rfl)) rfl hSd, ?_, tt⟩
   ·refine needG rfl ?_
    rintro ⟨hq0, hq5, _⟩ hno
    refine dxC (wanted_none rfl) rfl (exe_call (args := #[elV F.p, elV y43, .int .u64 0]) en61 (args_of3 (evS hq0 rfl rfl) (evS hq5 rfl rfl) rfl)) (c_rSubtract F.p y43 0 wd (f_lt hF) (by assumption) (by first | omega | exact (bI_range _).1)) ?_
    rintro _ W49 ⟨rfl, hT51⟩
    have hS50 := hSd.call hT51
    exact ⟨rfl, hS50⟩
   refine needG rfl ?_
   rintro ⟨hq6, hq11, _⟩ hno
   exact dx (wanted_none rfl) rfl (ex_eqEl (x := (sbN F.p y43 0)) (y := y43) (t := decide ((sbN F.p y43 0) ≠ y43)) a4_40 (by first | assumption | exact sbN_lt (by assumption)) (by first | assumption | exact sbN_lt (by assumption)) (evS hq6 rfl rfl) (evS hq11 rfl rfl) rfl) ⟨rfl, hSd⟩
  ·exact fun S wd hSd => ⟨True.intro, True.intro, True.intro, True.intro, True.intro, True.intro, True.intro, True.intro, True.intro, True.intro, True.intro, True.intro, True.intro, True.intro⟩
  intro _ W57 hS58
  show C _ _ _ _ _ _
  refine C_dec ((sbN F.p y43 0) ≠ y43) rfl (fun hc59 => ?_) (fun hc59 => ?_)
  ·refine C_sr ?_
   refine sqv (ex_assign (v := .int .i64 9) rfl) ?_
   show C _ _ _ _ _ _
   refine C_ret ?_
   refine blk_ret ?_
   refine thn_ret ?_
   refine thn_ret ?_
   refine blk_ret ?_
   refine thn_ret ?_
   refine done_1 (v := .int .i64 9) rfl rfl ?_
   have hb9 := all_bad hy44 ((sb_ne (p_pos hF) (f_lt hF) hky43).1 (by assumption))
   rw [← fieldOf'_eq hF g1] at hb9
   exact ⟨congrArg _ (show (9 : Int) = ckSh s from (ckSh_9 (by omega) (by omega) (by omega) (by omega) (by omega) hb9.symm).symm), hS58.none⟩
  refine C_skip ?_
  refine blk_normal ?_
  show C _ _ _ _ _ _
  refine C_region ?_
  refine sqv (ex_move (v := .int .i64 (k : Int)) rfl) ?_
  refine nm ((k : Int) + 1) fun x60 hx60 => ?_
  refine sqv (ex_add (x := (k : Int)) (y := 1) rfl rfl (w64 hx60 (by omega))) ?_
  refine sqv (ex_assign (v := .int .i64 x60) rfl) ?_
  exact ⟨_, (by omega), ⟨_, (k + 1), rfl, act_upds ⟨rfl, rfl, (congrArg (Value.int .i64) (by first | rfl | omega)), trivial⟩, (St.pick (L := [some (b32, .cells (elA (F.p)) 40), some (b1, .cells #[.int .i64 s.f, .int .i64 s.t, .int .i64 s.i, .int .i64 s.n, s.v] 46)]) hS58 [0, 1] (by decide)), (by omega), (all_take hb hy44 (Classical.byContradiction fun hh => absurd ((sb_ne (p_pos hF) (f_lt hF) hky43).2 hh) hc59))⟩⟩
 refine C_exit ?_
 refine thn_exit ?_
 refine thn_exit ?_
 refine blk_exit ?_
 show C _ _ _ _ _ _
 refine C_sr ?_
 refine sqv (ex_assign (v := .int .i64 0) rfl) ?_
 show C _ _ _ _ _ _
 refine C_ret ?_
 refine done_1 (v := .int .i64 0) rfl rfl ?_
 obtain rfl : k = s.p.length := by omega
 rw [List.take_length, ← fieldOf'_eq hF g1] at hb
 exact ⟨congrArg _ (show (0 : Int) = ckSh s from (ckSh_9 (by omega) (by omega) (by omega) (by omega) (by omega) hb.symm).symm), hS39.none⟩
theorem c_rCheckShare0  (s : Sh) (Z0 : List Fact) (w0 : World) (g0 : ¬ (s.f = 1 ∨ s.f = 2)) (hZ0 : Holds w0 Z0) (hs_s : Sl Z0 49 4 s.v (s.p.flatMap el)) : Calls Tryz.prog 65 #[.agg #[.int .i64 s.f, .int .i64 s.t, .int .i64 s.i, .int .i64 s.n, s.v]] w0 (Ret fun uu w' => uu = .int .i64 (ckSh s) ∧ St [] w0 w' [] []) := by
 refine calls_of Tryz.func65 rfl Tryz.ntmps65 (Nat.le_of_ble_eq_true rfl) ?_
 have hS0 := St.nil w0
 refine C_sr ?_
 refine sqE (st_box (v := .agg #[.int .i64 s.f, .int .i64 s.t, .int .i64 s.i, .int .i64 s.n, s.v]) (cs := #[.int .i64 s.f, .int .i64 s.t, .int .i64 s.i, .int .i64 s.n, s.v]) hS0 rfl rfl) fun b1 W2 hS3 => ?_
 refine sqv (ex_assign (v := .int .i64 0) rfl) ?_
 show C _ _ _ _ _ _
 refine C_seq ?_
 refine C_block ?_
 refine C_sr ?_
 refine sqv (ex_field (o' := 0) rfl fi46_0 rfl) ?_
 refine sqv (ex_load (v := .int .i64 s.f) rfl (hS3.at 0 rfl) on3 rfl) ?_
 refine sqc (exe_call (args := #[.int .i64 s.f]) en107 (args_of1 rfl)) (c_known s.f W2) ?_
 rintro _ W4 ⟨rfl, hT6⟩
 have hS5 := hS3.call hT6
 refine sqv (ex_not (t := (decide (s.f = 1 ∨ s.f = 2))) rfl) ?_
 rw [show (!(decide (s.f = 1 ∨ s.f = 2))) = decide (¬ (s.f = 1 ∨ s.f = 2)) from by rw [Bool.eq_iff_iff]; first | (simp; done) | (simp; omega)]
 refine sqv (ex_assign (v := .bool (decide (¬ (s.f = 1 ∨ s.f = 2)))) rfl) ?_
 show C _ _ _ _ _ _
 refine C_dec (¬ (s.f = 1 ∨ s.f = 2)) rfl (fun hc8 => ?_) (fun hc8 => ?_)
 ·refine C_sr ?_
  refine sqv (ex_assign (v := .int .i64 3) rfl) ?_
  show C _ _ _ _ _ _
  refine C_ret ?_
  refine blk_ret ?_
  refine thn_ret ?_
  refine done_1 (v := .int .i64 3) rfl rfl ?_
  exact ⟨congrArg _ (show (3 : Int) = ckSh s from by unfold ckSh; rw [if_pos g0]), hS5.none⟩
 exact absurd g0 (by assumption)
theorem c_rCheckShare  (s : Sh) (Z0 : List Fact) (w0 : World) (g0 : ∀ y ∈ s.p, y < B256) (hZ0 : Holds w0 Z0) (hs_s : Sl Z0 49 4 s.v (s.p.flatMap el)) : Calls Tryz.prog 65 #[.agg #[.int .i64 s.f, .int .i64 s.t, .int .i64 s.i, .int .i64 s.n, s.v]] w0 (Ret fun uu w' => uu = .int .i64 (ckSh s) ∧ St [] w0 w' [] []) := by
 by_cases h : s.f = 1 ∨ s.f = 2
 ·exact c_rCheckShare1 (fieldOf' s.f) s Z0 w0 (fieldOf'_ok _) (fieldOf'_id h) g0 hZ0 hs_s
 exact c_rCheckShare0 s Z0 w0 h hZ0 hs_s
end Go.Proofs
end
