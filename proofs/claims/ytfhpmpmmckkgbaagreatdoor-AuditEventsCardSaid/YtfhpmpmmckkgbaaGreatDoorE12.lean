/- AuditEvents holds: the events that the audit records are those of the reference, for all arguments that the statement admits, with no further condition. Part 12 of 12. -/
import Derived.Test.YtfhpmpmmckkgbaaGreatDoorE11
import Derived.Below
import Derived.ChangeSame
import Derived.Handed
import Derived.RowKit
import Derived.ProofKit
import Derived.Test.YtfhpmpmmckkgbaaGreatDoorTie
import Derived.Test.YtfhpmpmmckkgbaaGreatDoorCards
import Derived.LaidMore
import Derived.OpenShut
import Derived.Stop.Joined
set_option linter.unusedVariables false
set_option linter.unusedSimpArgs false
set_option linter.unusedSectionVars false
section
set_option linter.unusedVariables false
namespace Sc
open Go
def isI64 (P : Program) (t : TypeId) : Bool := (match P.underlying t with | some (.int .i64) => true | _ => false) && decide (P.cellsOf t = 1)
def isU64 (P : Program) (t : TypeId) : Bool := (match P.underlying t with | some (.int .u64) => true | _ => false) && decide (P.cellsOf t = 1)
def isA4 (P : Program) (t : TypeId) : Bool := (match P.underlying t with | some (.array 4 e) => isU64 P e | _ => false) && decide (P.cellsOf t = 4)
def isSl (P : Program) (t e : TypeId) : Bool := (match P.underlying t with | some (.slice e') => decide (e' = e) | _ => false) && decide (P.cellsOf t = 1)
def shT (P : Program) (t ee : TypeId) : Bool := (match P.underlying t with
  | some (.struct fs) => match fs.toList with
    | [f0, f1, f2, f3, f4] => isI64 P f0.type && decide (f0.offset = 0) && (isI64 P f1.type && decide (f1.offset = 1)) && (isI64 P f2.type && decide (f2.offset = 2)) && (isI64 P f3.type && decide (f3.offset = 3)) && (isSl P f4.type ee && decide (f4.offset = 4))
    | _ => false
  | _ => false) && decide (P.cellsOf t = 5)
def fdT (P : Program) (t : TypeId) : Bool := (match P.underlying t with
  | some (.struct fs) => match fs.toList with
    | [f0, f1, f2, f3, f4] => isI64 P f0.type && decide (f0.offset = 0) && (isA4 P f1.type && decide (f1.offset = 1)) && (isU64 P f2.type && decide (f2.offset = 5)) && (isA4 P f3.type && decide (f3.offset = 6)) && (isA4 P f4.type && decide (f4.offset = 10))
    | _ => false
  | _ => false) && decide (P.cellsOf t = 14)
section
variable {H : Type} {enc : TypeId × Value → H} {P : Program} {w : World} {base : Nat} {spare : Nat → Bool} {held : Bool}
theorem rd_i64 {t : TypeId} {fuel : Nat} {cs : List Value} {x : DataW H × List MemPlace} (ht : isI64 P t = true) (h : DataW.trod enc P w base spare held fuel t cs = some x) : ∃ z, cs = [.int .i64 z] ∧ x.1 = .lit (.int .i64 z) ∧ -9223372036854775808 ≤ z ∧ z ≤ 9223372036854775807 := by
  unfold isI64 at ht
  simp only [Bool.and_eq_true] at ht
  have hu : P.underlying t = some (.int .i64) := by have := ht.1; split at this <;> simp_all
  obtain ⟨z, e1, e2, hz⟩ := DataW.trod_int hu h
  simp [Lit.wf, IntKind.min, IntKind.max, IntKind.signed, IntKind.bits] at hz
  exact ⟨z, e1, by rw [e2], by omega, by omega⟩
theorem rd_u64 {t : TypeId} {fuel : Nat} {cs : List Value} {x : DataW H × List MemPlace} (ht : isU64 P t = true) (h : DataW.trod enc P w base spare held fuel t cs = some x) : ∃ z, cs = [.int .u64 z] ∧ x.1 = .lit (.int .u64 z) := by
  unfold isU64 at ht
  simp only [Bool.and_eq_true] at ht
  have hu : P.underlying t = some (.int .u64) := by have := ht.1; split at this <;> simp_all
  obtain ⟨z, e1, e2, hz⟩ := DataW.trod_int hu h
  exact ⟨z, e1, by rw [e2]⟩
def elD {H : Type} (N : Nat) : DataW H := .agg [.lit (.int .u64 (limb N 0)), .lit (.int .u64 (limb N 1)), .lit (.int .u64 (limb N 2)), .lit (.int .u64 (limb N 3))]
theorem rd_a4 {t : TypeId} {fuel : Nat} {cs : List Value} {x : DataW H × List MemPlace} (ht : isA4 P t = true) (h : DataW.trod enc P w base spare held fuel t cs = some x) : ∃ N, cs = el N ∧ N < B256 ∧ x.1 = elD N := by
  unfold isA4 at ht
  simp only [Bool.and_eq_true, decide_eq_true_eq] at ht
  obtain ⟨h1, h2⟩ := ht
  split at h1
  · rename_i e hu
    unfold isU64 at h1
    simp only [Bool.and_eq_true, decide_eq_true_eq] at h1
    have he : P.underlying e = some (.int .u64) := by have := h1.1; split at this <;> simp_all
    exact rd_el hu he h2 h1.2 h
  · cases h1
theorem cells_i64 {t : TypeId} (ht : isI64 P t = true) : P.cellsOf t = 1 := by unfold isI64 at ht; simp at ht; exact ht.2
theorem cells_u64 {t : TypeId} (ht : isU64 P t = true) : P.cellsOf t = 1 := by unfold isU64 at ht; simp at ht; exact ht.2
theorem cells_a4 {t : TypeId} (ht : isA4 P t = true) : P.cellsOf t = 4 := by unfold isA4 at ht; simp at ht; exact ht.2
theorem sl_spec {t e : TypeId} (ht : isSl P t e = true) : P.underlying t = some (.slice e) ∧ P.cellsOf t = 1 := by
  unfold isSl at ht
  simp only [Bool.and_eq_true, decide_eq_true_eq] at ht
  refine ⟨?_, ht.2⟩
  have := ht.1
  split at this
  · rename_i e' hu; rw [hu]; simp at this; rw [this]
  · cases this
instance : Inhabited Sh := ⟨⟨0, 0, 0, 0, .slice none 0 0, []⟩⟩
theorem rd_els {t e : TypeId} {fuel : Nat} {cs : List Value} {x : DataW H × List MemPlace} (ht : isSl P t e = true) (he : isA4 P e = true) (h : DataW.trod enc P w base (fun _ => true) held fuel t cs = some x) :
    ∃ (v : Value) (p : List Nat), cs = [v] ∧ Sl (facts w) e 4 v (p.flatMap el) ∧ ∀ y ∈ p, y < B256 :=
  rd_slice (f := el) (Q := fun y => y < B256) (fun _ => rfl) (by decide) (sl_spec ht).1 (cells_a4 he) h fun n cs' y hy => by
    obtain ⟨N, h1, h2, _⟩ := rd_a4 he hy
    exact ⟨N, h1, h2⟩
theorem rd_sh {t ee : TypeId} {fuel : Nat} {cs : List Value} {x : DataW H × List MemPlace} (ht : shT P t ee = true) (he : isA4 P ee = true) (h : DataW.trod enc P w base (fun _ => true) held fuel t cs = some x) :
    ∃ s : Sh, cs = cS s ∧ Sl (facts w) ee 4 s.v (s.p.flatMap el) ∧ ∀ y ∈ s.p, y < B256 := by
  unfold shT at ht
  simp only [Bool.and_eq_true, decide_eq_true_eq] at ht
  obtain ⟨h1, h2⟩ := ht
  split at h1
  · rename_i fs hu
    split at h1
    · rename_i f0 f1 f2 f3 f4 hfs
      simp only [Bool.and_eq_true, decide_eq_true_eq] at h1
      obtain ⟨⟨⟨⟨⟨a0, o0⟩, a1, o1⟩, a2, o2⟩, a3, o3⟩, a4, o4⟩ := h1
      obtain ⟨xs, n, _, _, hl, hx, hf⟩ := DataW.trod_struct hu h
      rw [h2] at hl
      have hsz : fs.size = 5 := by rw [← Array.length_toList, hfs]; rfl
      have hg : ∀ i f, fs.toList[i]? = some f → fs[i]? = some f := fun i f hh => by rw [← Array.getElem?_toList]; exact hh
      rw [hsz] at hx
      match cs, hl, xs, hx with
      | [c0, c1, c2, c3, c4], _, [x0, x1, x2, x3, x4], _ =>
        have g0 := hf 0 f0 (hg 0 f0 (by rw [hfs]; rfl))
        have g1 := hf 1 f1 (hg 1 f1 (by rw [hfs]; rfl))
        have g2 := hf 2 f2 (hg 2 f2 (by rw [hfs]; rfl))
        have g3 := hf 3 f3 (hg 3 f3 (by rw [hfs]; rfl))
        have g4 := hf 4 f4 (hg 4 f4 (by rw [hfs]; rfl))
        rw [o0, cells_i64 a0] at g0
        rw [o1, cells_i64 a1] at g1
        rw [o2, cells_i64 a2] at g2
        rw [o3, cells_i64 a3] at g3
        rw [o4, (sl_spec a4).2] at g4
        obtain ⟨z0, e0, _⟩ := rd_i64 a0 g0
        obtain ⟨z1, e1, _⟩ := rd_i64 a1 g1
        obtain ⟨z2, e2, _⟩ := rd_i64 a2 g2
        obtain ⟨z3, e3, _⟩ := rd_i64 a3 g3
        obtain ⟨v, p, e4, hv, hp⟩ := rd_els a4 he g4
        simp at e0 e1 e2 e3 e4
        subst e0; subst e1; subst e2; subst e3; subst e4
        exact ⟨⟨z0, z1, z2, z3, c4, p⟩, rfl, hv, hp⟩
    · cases h1
  · cases h1
theorem rd_shs {t e ee : TypeId} {fuel : Nat} {cs : List Value} {x : DataW H × List MemPlace} (ht : isSl P t e = true) (hs : shT P e ee = true) (he : isA4 P ee = true) (h : DataW.trod enc P w base (fun _ => true) held fuel t cs = some x) :
    ∃ (v : Value) (l : List Sh), cs = [v] ∧ Shs (facts w) e ee v l ∧ ∀ s ∈ l, ∀ y ∈ s.p, y < B256 := by
  have hc : P.cellsOf e = 5 := by unfold shT at hs; simp at hs; exact hs.2
  obtain ⟨v, l, h1, h2, h3⟩ := rd_slice (f := cS) (Q := fun s : Sh => Sl (facts w) ee 4 s.v (s.p.flatMap el) ∧ ∀ y ∈ s.p, y < B256) (fun _ => rfl) (by decide) (sl_spec ht).1 hc h fun n cs' y hy => by
    obtain ⟨s, e1, e2, e3⟩ := rd_sh hs he hy
    exact ⟨s, e1, e2, e3⟩
  exact ⟨v, l, h1, ⟨h2, fun s hs => (h3 s hs).1⟩, fun s hs => (h3 s hs).2⟩
theorem rd_fd {t : TypeId} {fuel : Nat} {cs : List Value} {x : DataW H × List MemPlace} (ht : fdT P t = true) (h : DataW.trod enc P w base spare held fuel t cs = some x) :
    ∃ (id : Int) (p : Nat) (inv : Int) (one sq : Nat), cs = .int .i64 id :: (el p ++ .int .u64 inv :: (el one ++ el sq)) ∧ p < B256 ∧ one < B256 ∧ sq < B256 ∧ x.1 = .agg [.lit (.int .i64 id), elD p, .lit (.int .u64 inv), elD one, elD sq] := by
  unfold fdT at ht
  simp only [Bool.and_eq_true, decide_eq_true_eq] at ht
  obtain ⟨h1, h2⟩ := ht
  split at h1
  · rename_i fs hu
    split at h1
    · rename_i f0 f1 f2 f3 f4 hfs
      simp only [Bool.and_eq_true, decide_eq_true_eq] at h1
      obtain ⟨⟨⟨⟨⟨a0, o0⟩, a1, o1⟩, a2, o2⟩, a3, o3⟩, a4, o4⟩ := h1
      obtain ⟨xs, n, _, hx', hl, hx, hf⟩ := DataW.trod_struct hu h
      rw [h2] at hl
      have hsz : fs.size = 5 := by rw [← Array.length_toList, hfs]; rfl
      have hg : ∀ i f, fs.toList[i]? = some f → fs[i]? = some f := fun i f hh => by rw [← Array.getElem?_toList]; exact hh
      rw [hsz] at hx
      match xs, hx with
      | [x0, x1, x2, x3, x4], _ =>
        have g0 := hf 0 f0 (hg 0 f0 (by rw [hfs]; rfl))
        have g1 := hf 1 f1 (hg 1 f1 (by rw [hfs]; rfl))
        have g2 := hf 2 f2 (hg 2 f2 (by rw [hfs]; rfl))
        have g3 := hf 3 f3 (hg 3 f3 (by rw [hfs]; rfl))
        have g4 := hf 4 f4 (hg 4 f4 (by rw [hfs]; rfl))
        rw [o0, cells_i64 a0] at g0
        rw [o1, cells_a4 a1] at g1
        rw [o2, cells_u64 a2] at g2
        rw [o3, cells_a4 a3] at g3
        rw [o4, cells_a4 a4] at g4
        obtain ⟨z0, e0, d0, _⟩ := rd_i64 a0 g0
        obtain ⟨z1, e1, r1, d1⟩ := rd_a4 a1 g1
        obtain ⟨z2, e2, d2⟩ := rd_u64 a2 g2
        obtain ⟨z3, e3, r3, d3⟩ := rd_a4 a3 g3
        obtain ⟨z4, e4, r4, d4⟩ := rd_a4 a4 g4
        refine ⟨z0, z1, z2, z3, z4, ?_, r1, r3, r4, ?_⟩
        · have c0 : cs = (cs.drop 0).take 1 ++ ((cs.drop 1).take 4 ++ ((cs.drop 5).take 1 ++ ((cs.drop 6).take 4 ++ (cs.drop 10).take 4))) := by
            match cs, hl with
            | [_, _, _, _, _, _, _, _, _, _, _, _, _, _], _ => rfl
          rw [e0, e1, e2, e3, e4] at c0
          exact c0
        · simp only [List.getElem?_cons_zero, List.getElem?_cons_succ, Option.some.injEq] at *
          rw [hx']
          simp only [List.map_cons, List.map_nil, d0, d1, d2, d3, d4]
    · cases h1
  · cases h1
theorem elD_inj {a b : Nat} (ha : a < B256) (hb : b < B256) (h : (elD a : DataW H) = elD b) : a = b := by
  simp only [elD, DataW.agg.injEq, List.cons.injEq, DataW.lit.injEq, Lit.int.injEq, true_and, and_true] at h
  exact limb_inj ha hb h.1 h.2.1 h.2.2.1 h.2.2.2
theorem rd_fields {t e : TypeId} {fuel : Nat} {cs : List Value} {x : DataW H × List MemPlace} (ht : P.underlying t = some (.array 2 e)) (he : fdT P e = true) (hc : P.cellsOf t = 28) (h : DataW.trod enc P w base spare held fuel t cs = some x)
    (hx : x.1 = .agg [.agg [.lit (.int .i64 1), elD F1.p, .lit (.int .u64 F1.inv), elD F1.one, elD F1.sq], .agg [.lit (.int .i64 2), elD F2.p, .lit (.int .u64 F2.inv), elD F2.one, elD F2.sq]]) : cs = gC := by
  have hce : P.cellsOf e = 14 := by unfold fdT at he; simp at he; exact he.2
  obtain ⟨xs, n, _, hx', hl, hlen, hf⟩ := DataW.trod_array ht h
  rw [hc] at hl
  match xs, hlen with
  | [x0, x1], _ =>
    have g0 := hf 0 (by omega)
    have g1 := hf 1 (by omega)
    rw [hce] at g0 g1
    obtain ⟨a0, p0, i0, o0, s0, c0, r0, q0, t0, d0⟩ := rd_fd he g0
    obtain ⟨a1, p1, i1, o1, s1, c1, r1, q1, t1, d1⟩ := rd_fd he g1
    rw [hx'] at hx
    simp only [List.map_cons, List.map_nil, d0, d1, DataW.agg.injEq, List.cons.injEq, DataW.lit.injEq, Lit.int.injEq, true_and, and_true] at hx
    obtain ⟨⟨e0, e1, e2, e3, e4⟩, e5, e6, e7, e8, e9⟩ := hx
    have hF1 : FOk F1 := .inl rfl
    have hF2 : FOk F2 := .inr rfl
    obtain rfl := elD_inj r0 (f_lt hF1) e1
    obtain rfl := elD_inj q0 (Nat.lt_trans (f_one_lt hF1) (f_lt hF1)) e3
    obtain rfl := elD_inj t0 (Nat.lt_trans (f_sq_lt hF1) (f_lt hF1)) e4
    obtain rfl := elD_inj r1 (f_lt hF2) e6
    obtain rfl := elD_inj q1 (Nat.lt_trans (f_one_lt hF2) (f_lt hF2)) e8
    obtain rfl := elD_inj t1 (Nat.lt_trans (f_sq_lt hF2) (f_lt hF2)) e9
    subst e0; subst e2; subst e5; subst e7
    have c : cs = (cs.drop (0 * 14)).take 14 ++ (cs.drop (1 * 14)).take 14 := by
      rw [Nat.zero_mul, Nat.one_mul, List.drop_zero, List.take_of_length_le (l := cs.drop 14) (by rw [List.length_drop]; omega), List.take_append_drop]
    rw [c, c0, c1]; rfl
theorem gC_cells {n : String} {g : Nat} {cs : Array Value} (hg : P.globalNamed n = some g) (h : w.var? P n = some cs) (hc : cs.toList = gC) : Cells (facts w) g 0 gC := by
  have hcell := World.var?_cell hg h
  have h0 := hcell 0
  have hsz : cs.size = 28 := by rw [← Array.length_toList, hc]; rfl
  rw [Array.getElem?_eq_getElem (by omega)] at h0
  obtain ⟨arr, t, fr, hb, _, _⟩ := cell_block h0
  refine ⟨arr, t, fr, mem_facts hb, ?_⟩
  apply List.ext_getElem?
  intro j
  rw [List.drop_zero, List.getElem?_take]
  have hl : gC.length = 28 := rfl
  split
  · rename_i hj
    have h1 := hcell j
    rw [show World.cell? w ⟨g, j, none⟩ = arr[j]? from by simp [World.cell?, hb]] at h1
    rw [← hc, Array.getElem?_toList, Array.getElem?_toList]; exact h1
  · rename_i hj
    rw [List.getElem?_eq_none (by omega)]
end
end Sc
end
section
set_option linter.unusedVariables false
namespace Sc
open Go Go.RowKit Go.WideShapes Go.ChangeShapes
section
variable {H : Type} {enc : TypeId × Value → H} {P : Program}
theorem trod_carryAll {w w' : World} {base : Nat} {spare : Nat → Bool} {held : Bool} : ∀ {ts : List TypeId} {vs : List Value} {ds : List (DataW H)} {ps : List MemPlace}, DataW.TrodAll enc P w base spare held ts vs ds ps → (∀ p ∈ ps, w.sameAt w' p) → DataW.TrodAll enc P w' base spare held ts vs ds ps
  | [], [], [], _, h, _ => h
  | _ :: _, _ :: _, _ :: _, _, ⟨p, q, ⟨n, h1⟩, h2, e⟩, hs => ⟨p, q, ⟨n, DataW.trod_carry n _ _ _ h1 fun x hx => hs x (by rw [e]; exact List.mem_append_left _ hx)⟩, trod_carryAll h2 fun x hx => hs x (by rw [e]; exact List.mem_append_right _ hx), e⟩
theorem post_law {f : Func} {s : ChangeSpec} {apart fresh handsOn again : Bool} {W W' : World} {args : Array Value} {ds gs : List (DataW H)} {before : List MemPlace} {tb : TypeId}
    (hl : laidOutB P = true) (hm : mapsRowed P = true) (hz : ((List.range P.types.size).all fun t => match P.underlying t with | some (.slice e) => decide (0 < P.cellsOf e) | _ => true) = true) (hT : ∀ t ∈ f.params.toList, t < P.types.size)
    (hrt : f.resultTypes = #[tb]) (htb : P.underlying tb = some .bool) (hv : s.vars = [])
    (hres : (s.fn H (ds ++ gs)).results = [.lit (.bool true)]) (hargs : (s.fn H (ds ++ gs)).args = ds) (hvars : (s.fn H (ds ++ gs)).vars = [])
    (hW : DataW.Whole enc P f.params.toList s.vars apart W args.toList ds gs before) (hb : Below W.heap.size W W') :
    s.post enc P f apart fresh handsOn again W args (.bool true) W' := by
  have hlt : ∀ p ∈ before, p.block < W.heap.size := fun p hp => hW.lt p hp
  have hold : ∀ p ∈ before, (fun b => decide (b < W.heap.size)) p.block = true := fun p hp => by simpa using hlt p hp
  obtain ⟨pa, pv, hA, hV, hps, hfz, hnd⟩ := hW
  have hW' : DataW.Whole enc P f.params.toList s.vars apart W args.toList ds gs before := ⟨pa, pv, hA, hV, hps, hfz, hnd⟩
  rw [hv] at hV
  obtain ⟨rfl, rfl⟩ := trodVars_none hV
  rw [List.append_nil] at hps
  subst hps
  have hR : ∀ (b : Nat) (sp : Nat → Bool) (hd : Bool), DataW.TrodAll enc P W' b sp hd f.resultTypes.toList ((Value.bool true).resultList f.resultTypes.size) (s.fn H (ds ++ [])).results [] := fun b sp hd => by
    rw [hres, hrt]
    exact trodAll_mk1 (shut_bool htb _)
  have hAr : ∀ sp : Nat → Bool, (∀ p ∈ before, sp p.block = true) → DataW.TrodAll enc P W' 0 sp true f.params.toList args.toList (s.fn H (ds ++ [])).args before := fun sp hsp => by
    rw [hargs]
    exact trod_carryAll (DataW.TrodAll.respare (kids_rows hl hm) (slices_full_of P hz) hT hA hsp) fun p hp => hb.same (hlt p hp)
  have hVr : ∀ sp : Nat → Bool, DataW.TrodVars enc P W' sp s.vars (s.fn H (ds ++ [])).vars [] := fun sp => by rw [hv, hvars]; rfl
  refine ⟨ds, [], before, [], before, [], hW', hR _ _ _, hAr _ hold, hVr _, World.keptBut_mono (fun p hp => ⟨hp, .inr (.inl hp)⟩) (hb.frame (· ∈ before)), fun _ => ?_⟩
  · refine ⟨ok_one hrt rfl (okWide_bool_mk htb _), _, _, ([] ++ before) ++ [], ⟨[] ++ before, [], trodAll_append (hAr _ (fun _ _ => rfl)) (hR _ _ _), hVr _, rfl, ?_, ?_⟩, ?_⟩
    · intro b off hp
      have hin : MemPlace.cell b off ∈ before := by simpa using hp
      rw [hb.frozen (hlt _ hin)]
      exact hfz b off hin
    · intro ha
      simpa using hnd ha
    · intro p hp _
      simpa using hp
end
end Sc
end
section
set_option maxRecDepth 100000
namespace Go.Proofs.YtfhpmpmmckkgbaaGreatDoor
open Go Go.ChangeShapes Go.WideShapes Go.ChangeAt Go.WideMaps Go.WideElems Go.RowKit Sc
def laidF : List (String × DataW Unit) := [("sharecore/field.fields", Rows.laid_sharecore_field_fields)]
theorem own : ownKnob Tryz.prog.godebug = none := by kernel_rfl
theorem gFields : Tryz.prog.globalNamed "sharecore/field.fields" = some 0 := by kernel_rfl
theorem tFields : (Tryz.prog.globals[0]?).map (·.type) = some 167 := by kernel_rfl
theorem u167 : Tryz.prog.underlying 167 = some (.array 2 117) := by kernel_rfl
theorem c167 : Tryz.prog.cellsOf 167 = 28 := by kernel_rfl
theorem fd117 : fdT Tryz.prog 117 = true := by kernel_rfl
theorem sh46 : shT Tryz.prog 46 49 = true := by kernel_rfl
theorem a49 : isA4 Tryz.prog 49 = true := by kernel_rfl
theorem s22 : isSl Tryz.prog 22 46 = true := by kernel_rfl
theorem laidOut : laidOutB Tryz.prog = true := by kernel_rfl
theorem mapsOk : mapsRowed Tryz.prog = true := by kernel_rfl
theorem slicesOk : ((List.range Tryz.prog.types.size).all fun t => match Tryz.prog.underlying t with | some (.slice e) => decide (0 < Tryz.prog.cellsOf e) | _ => true) = true := by kernel_rfl
theorem ub4 : Tryz.prog.underlying 4 = some .bool := by kernel_rfl
theorem door_met (os : Os) (args : Array Value) : laidMetH Tryz.prog laidF ((World.doorLaid Tryz.prog 400 os).forCall (fun _ _ => 0) ⟨#[], args, []⟩).memory :=
  laidMetH_of_parts3 (fuel := 8) (laidMet_of_run' 8 (by kernel_rfl) (by kernel_rfl)) (by kernel_rfl) (by kernel_rfl)
theorem of_laid {W : World} (h : laidMetH Tryz.prog laidF W) : Cells (facts W) 0 0 gC := by
  rw [MakeChecks.laidMetH_plain _ _ _ (by kernel_rfl)] at h
  obtain ⟨ps, ⟨g0, t0, cs0, f0, p0, q0, hg0, ht0, hv0, hd0, _, _⟩, _, _⟩ := h
  obtain rfl := Option.some.inj (gFields.symm.trans hg0)
  obtain rfl := Option.some.inj (tFields.symm.trans ht0)
  exact gC_cells gFields hv0 (rd_fields u167 fd117 c167 hd0 rfl)
theorem lifted (os : Os) (started : os.Started) (H : Type) (enc : TypeId × Value → H) :
    ReturnsInHanded {} Tryz.checked os 5 .any (fun w args => (Rows.auditEventsSpec.pre enc Tryz.prog Tryz.f5 [] false w args ∧ laidMetH Tryz.prog laidF w) ∧ sizedMet enc Tryz.prog Tryz.f5 (OpenSpec.ofChange Rows.auditEventsSpec) false w args)
      (Rows.auditEventsSpec.post enc Tryz.prog Tryz.f5 false true false false) := by
  refine returnsInHanded_of_change_and (C := Tryz.checked) (X := fun w _ => laidMetH Tryz.prog laidF w) (fun _ _ _ hh h => h.of_heap hh) own started (by kernel_rfl) Tryz.func5
    (ChangeSpec.witness_shaped (enc := enc) (C := Tryz.checked) (os := os) (X := fun w _ => laidMetH Tryz.prog laidF w) false (World.doorLaid Tryz.prog 400 os) #[.slice none 0 0] 8 rfl (World.shaped_of_RefB (by kernel_rfl) (by kernel_rfl)) (by kernel_rfl) (by kernel_rfl) (by kernel_rfl) (door_met os _)) ?_
  intro W base args ds gs before hval0 hW _ _ hL _
  have hW' := hW
  obtain ⟨p, q, hA0, hV, rfl, hfz, hnd⟩ := hW
  have hA : DataW.TrodAll enc Tryz.prog W 0 (fun _ => true) true Tryz.f5.params.toList args.toList ds p := hA0
  rw [Tryz.params5] at hA
  obtain ⟨v0, d0, rfl, rfl, n, h0⟩ := trodAll_one hA
  obtain ⟨rfl, rfl⟩ := trodVars_none hV
  obtain ⟨v, l, hv, hs, hy⟩ := rd_shs s22 sh46 a49 h0
  obtain ⟨a, c, cc, rfl⟩ := okWide_slice (sl_spec s22).1 (hval0 0 22 v0 (by rw [Tryz.params5]; rfl) rfl)
  obtain rfl : Value.slice a c cc = v := by simpa [Value.cells] using hv
  refine (c_AuditEvents _ l (facts W) W hy (facts_holds W) hs (of_laid hL)).mono fun e W' he => ?_
  cases e with
  | panicked => exact he.elim
  | outgrown => exact he.elim
  | returned u =>
    obtain ⟨rfl, hb⟩ := he
    exact ⟨_, rfl, post_law laidOut mapsOk slicesOk (by rw [Tryz.params5]; intro t ht; simp at ht; subst ht; exact of_decide_eq_true (by kernel_rfl)) rfl ub4 rfl rfl rfl rfl hW' hb.frm.below⟩
theorem auditEvents_holds : Rows.AuditEventsSaid :=
  OpenClaim.holds_of_wide 5 Tryz.f5 rfl rfl rfl rfl rfl rfl rfl ⟨rfl, rfl, rfl, rfl, rfl⟩ rfl rfl rfl rfl rfl (by kernel_rfl) Tryz.func5 (by kernel_rfl)
    (of_decide_eq_true (by kernel_rfl)) (by unfold Func.isWrapper; first | (rw [if_pos (by decide +kernel)]; kernel_rfl) | (rw [if_neg (by decide +kernel)]; exact ⟨rfl, rfl⟩))
    (fun os started H enc _ => lifted os started H enc)
theorem auditEvents_card : Rows.AuditEventsCardSaid :=
  Claim7.holds_tied_plain_at .later [] [.data] true (true, "be6f535220b2ffc471a6cf140920925cb3c3d21ecbd84c241966d229e6bfda01") false
    auditEvents_holds (fun _ h => by cases h) (by kernel_rfl) (fun _ h => by cases h) auditEvents_row_tie rfl ⟨rfl, rfl⟩ (by kernel_rfl) rfl
    (fun f fn hf hfn => by
      obtain rfl : f = 5 := Option.some.inj ((show Tryz.prog.funcNamed "sharecore/sharecorelaw18.AuditEvents" = some 5 by kernel_rfl).symm.trans hf) |>.symm
      obtain rfl : fn = Tryz.f5 := (Option.some.inj (Tryz.func5.symm.trans hfn)).symm
      exact ⟨by kernel_rfl, fun j t ht => by
        rw [Tryz.params5] at ht
        have hm : t ∈ [22] := by simpa using Array.mem_of_getElem? ht
        have hall : ([22].all fun u => !Tryz.prog.wantsStandIn u) = true := by kernel_rfl
        exact (show Tryz.prog.wantsStandIn t = false by simpa using List.all_eq_true.1 hall t hm)⟩)
    (by kernel_rfl)
#print axioms auditEvents_card
end Go.Proofs.YtfhpmpmmckkgbaaGreatDoor
end
