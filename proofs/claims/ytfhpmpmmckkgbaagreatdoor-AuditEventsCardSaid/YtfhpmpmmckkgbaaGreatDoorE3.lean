/- AuditEvents holds: the events that the audit records are those of the reference, for all arguments that the statement admits, with no further condition. Part 3 of 12. -/
import Derived.Test.YtfhpmpmmckkgbaaGreatDoorE2
set_option linter.unusedVariables false
set_option linter.unusedSimpArgs false
set_option linter.unusedSectionVars false
section
set_option linter.unusedVariables false
namespace Sc
open Go
section
variable {P : Program} {ρ : Operand → Value} {w w' w0 : World} {ty : TypeId} {X : List Nat} {L : List Ent} {Z : List Fact} {α : Type} {f : α → List Value} {xs : List α} {e k : Nat} {v : Value} {en : Ent}
theorem yielded_un {ops : Array Oper} {n : Nat} {m : Nat → Value} {ds : List Deferred} {j d : Nat} (hj : (ops[j]?).bind (·.dst) = some d) (hv : ev n m (.tmp d) = undef) : yielded ops (act n m ds).tmps j = none := by
  have hd : (act n m ds).tmps.getD d undef = undef := by rw [getD_act]; exact hv
  unfold yielded
  rw [hj]
  simp only [Option.bind_some]
  rw [Array.getD_eq_getD_getElem?] at hd
  cases hq : (act n m ds).tmps[d]? with
  | none => rfl
  | some x => simp [hq] at hd; subst hd; rfl
theorem wanted_un {ops : Array Oper} {n : Nat} {ds : List Deferred} {o : Oper} {m : Nat → Value} {j d : Nat} {b : Bool} (hg : o.guard = some (j, b)) (hj : (ops[j]?).bind (·.dst) = some d) (hv : ev n m (.tmp d) = undef) : Region.wanted o (yielded ops (act n m ds).tmps) = false := by
  simp [Region.wanted, hg, yielded_un (ds := ds) hj hv]
theorem ex_pickT {c a b : Operand} {v : Value} (hc : ρ c = .bool true) (h : ρ a = v) : Ex P ρ (.pick c a b) ty w v w := ex_pick (t := true) hc h
theorem ex_pickF {c a b : Operand} {v : Value} (hc : ρ c = .bool false) (h : ρ b = v) : Ex P ρ (.pick c a b) ty w v w := ex_pick (t := false) hc h
theorem sqc_in {ro : Option Nat} {ops : Array Oper} {Q : Exit → Act → World → Prop} {rest : List Oper} {n : Nat} {m : Nat → Value} {ds : List Deferred} {dst : Option Nat} {op : Op} {pos : String} {af : Array Edge} {f : FuncId} {args : Array Value}
    (hx : ExE P (ev n m) op ty w f args) (hc : ∀ R : Value → World → Prop, (∀ u w', wpL ro P ops Q rest (act n (updO m dst u) ds) w' → R u w') → Calls P f args w (Ret R)) (hd : isDefer op = false := by rfl) :
    wpL ro P ops Q (⟨dst, op, ty, pos, af, none⟩ :: rest) (act n m ds) w := sqc hx (hc _ fun _ _ h => h) (fun _ _ h => h) hd
theorem ex_cutE {T e : TypeId} {x : Operand} {lo hi mx : Option Operand} {k by' l hh m : Nat} {u : Value} {Z : List Fact} {v : Value} (hv : u = cutv v k l hh m) (hf : ∀ x, (f x).length = k) (hk : 0 < k) (h : Sl Z e k v (xs.flatMap f)) (ha : ρ x = v) (ht : sliceOf P T = some (e, k, by'))
    (hl : bnd ρ lo 0 l) (hhi : bnd ρ hi xs.length hh) (hm : bnd ρ mx (capv v) m) (hs : hi.isNone = true → mx.isNone = true) (h1 : l ≤ hh) (h2 : hh ≤ xs.length) (h3 : hh ≤ m) (h4 : m ≤ capv v) : Ex P ρ (.slice T x lo hi mx) ty w u w :=
  hv ▸ ex_cut hf hk h ha ht hl hhi hm hs h1 h2 h3 h4
end
end Sc
end
section
set_option linter.unusedVariables false
namespace Sc
open Go
theorem one_all {F : PrF} (h : FOk F) : ∀ z ∈ [F.one], z < F.p := by intro z hz; simp at hz; rw [hz]; exact f_one_lt h
theorem ms_lt {F : PrF} (h : FOk F) (X : List Nat) : ∀ z ∈ mastF F X [F.one], z < F.p := mast_lt h _ _ (one_all h)
theorem ms_len (F : PrF) (X : List Nat) : (mastF F X [F.one]).length = X.length + 1 := by rw [mast_len _ _ (by simp)]; simp; omega
theorem quo_len (F : PrF) (X : List Nat) (x : Nat) : (quoT F x (mastF F X [F.one]).tail).length = X.length := by rw [quoT_len, List.length_tail, ms_len]; rfl
theorem quoT_lt {F : PrF} (h : FOk F) (x : Nat) : ∀ ys, ∀ z ∈ quoT F x ys, z < F.p
  | [], z, hz => by simp [quoT] at hz
  | y :: ys, z, hz => by
    rcases List.mem_cons.1 hz with rfl | hz
    · exact horn_lt h _ _
    · exact quoT_lt h x ys z hz
theorem batL_lt {F : PrF} (h : FOk F) (xs : List Nat) : ∀ z ∈ batL F xs, z < F.p := by
  intro z hz
  obtain ⟨p, _, rfl⟩ := List.mem_map.1 hz
  unfold batE chN
  split
  · exact p_pos h
  · exact fMul_lt h _ _
theorem wL_len (F : PrF) (X : List Nat) : (wL F X).length = X.length := by rw [wL, batL_len, wDs_len]
def addS (F : PrF) (f : Nat) (o q : List Nat) : List Nat := (List.range o.length).map fun k => fAdd F (o.getD k 0) (fMul F f (q.getD k 0))
theorem addS_len (F : PrF) (f : Nat) (o q : List Nat) : (addS F f o q).length = o.length := by simp [addS]
theorem addS_lt {F : PrF} (h : FOk F) (f : Nat) (o q : List Nat) : ∀ z ∈ addS F f o q, z < F.p := by
  intro z hz
  obtain ⟨p, _, rfl⟩ := List.mem_map.1 hz
  exact fAdd_lt h _ _
def intF (F : PrF) (X ys : List Nat) : Nat → List Nat
  | 0 => List.replicate X.length 0
  | i + 1 => addS F (fMul F ((wL F X).getD i 0) (ys.getD i 0)) (intF F X ys i) (quoT F (X.getD i 0) (mastF F X [F.one]).tail)
theorem intF_len (F : PrF) (X ys : List Nat) : ∀ i, (intF F X ys i).length = X.length
  | 0 => by simp [intF]
  | i + 1 => by rw [intF, addS_len, intF_len F X ys i]
theorem intF_lt {F : PrF} (h : FOk F) (X ys : List Nat) : ∀ i, ∀ z ∈ intF F X ys i, z < F.p
  | 0 => all_rep (p_pos h)
  | i + 1 => addS_lt h _ _ _
def intL (F : PrF) (X ys : List Nat) : List Nat := intF F X ys X.length
theorem as_step {F : PrF} {o o2 q : List Nat} {f k a b : Nat} (h : ∀ j, j < o.length → o2[j]? = some (if j < k then fAdd F (o.getD j 0) (fMul F f (q.getD j 0)) else o.getD j 0)) (hl : o2.length = o.length) (hk : k < o.length) (ha : o2[k]? = some a) (hb : q[k]? = some b) :
    ∀ j, j < o.length → (o2.set k (fAdd F a (fMul F f b)))[j]? = some (if j < k + 1 then fAdd F (o.getD j 0) (fMul F f (q.getD j 0)) else o.getD j 0) := by
  intro j hj
  rw [List.getElem?_set]
  by_cases hji : k = j
  · subst hji
    have h1 := h k hk
    rw [if_neg (by omega), ha] at h1
    rw [if_pos rfl, if_pos (by omega), if_pos (by omega), getD_some hb, ← Option.some.inj h1]
  · rw [if_neg hji, h j hj]
    by_cases h2 : j < k
    · rw [if_pos h2, if_pos (by omega)]
    · rw [if_neg h2, if_neg (by omega)]
theorem as_init {F : PrF} {o q : List Nat} {f : Nat} : ∀ j, j < o.length → o[j]? = some (if j < 0 then fAdd F (o.getD j 0) (fMul F f (q.getD j 0)) else o.getD j 0) := by
  intro j hj
  rw [if_neg (by omega), List.getD_eq_getElem?_getD, List.getElem?_eq_getElem hj]; rfl
theorem as_done {F : PrF} {o o2 q : List Nat} {f : Nat} (h : ∀ j, j < o.length → o2[j]? = some (if j < o.length then fAdd F (o.getD j 0) (fMul F f (q.getD j 0)) else o.getD j 0)) (hl : o2.length = o.length) : o2 = addS F f o q := by
  apply List.ext_getElem?
  intro j
  by_cases hj : j < o.length
  · rw [h j hj, if_pos hj, addS, List.getElem?_map, List.getElem?_range hj]; rfl
  · rw [List.getElem?_eq_none (by omega), List.getElem?_eq_none (by rw [addS_len]; omega)]
def pEv (i : Nat) : Nat → List Ev
  | 0 => []
  | k + 1 => pEv i k ++ [⟨3, (i : Int), (k : Int)⟩]
theorem pEv_len (i : Nat) : ∀ k, (pEv i k).length = k
  | 0 => rfl
  | k + 1 => by simp [pEv, pEv_len i k]
def ppEv (n : Nat) : Nat → List Ev
  | 0 => []
  | i + 1 => ppEv n i ++ pEv i n
theorem ppEv_len (n : Nat) : ∀ i, (ppEv n i).length = i * n
  | 0 => by simp [ppEv]
  | i + 1 => by simp [ppEv, ppEv_len n i, pEv_len, Nat.add_mul]
def iEv (n : Nat) : List Ev := wEv n ++ ppEv n n
theorem batEv_len (n : Nat) : (batEv n).length ≤ 2 * n + 1088 := by
  unfold batEv
  split
  · simp
  · simp [ievs_len, pevs_len]; omega
theorem wEv_len (n : Nat) : (wEv n).length ≤ n * n + 2 * n + 1088 := by
  have h1 := wEv0_len n n
  have h2 := batEv_len n
  simp only [wEv, List.length_append]; omega
end Sc
end
section
set_option linter.unusedVariables false
set_option linter.unusedSimpArgs false
namespace Sc
open Go
def st3 (P : Program) (t : TypeId) : Bool := (match P.underlying t with | some (.struct _) => true | _ => false) && !P.stoodInHeld t && !P.eqGuardType P.depth t &&
  match (P.fieldsOf t).toList with
  | [a, b, c] => [a, b, c].all (fun f => decide (f.name ≠ "_") && oneOf P f.type && match P.underlying f.type with | some (.int .i64) => true | _ => false) && a.offset == 0 && b.offset == 1 && c.offset == 2
  | _ => false
section
variable {P : Program} {ρ : Operand → Value} {w w' w0 : World} {ty : TypeId}
theorem ex_eq3 {T T' : TypeId} {op : BinOp} {a b : Operand} {t : Bool} {x0 x1 x2 y0 y1 y2 : Int} (hT : st3 P T = true) (ha : ρ a = .agg #[.int .i64 x0, .int .i64 x1, .int .i64 x2]) (hb : ρ b = .agg #[.int .i64 y0, .int .i64 y1, .int .i64 y2])
    (hop : (match op with | .neq => t = decide (¬ (x0 = y0 ∧ x1 = y1 ∧ x2 = y2)) | .eql => t = decide (x0 = y0 ∧ x1 = y1 ∧ x2 = y2) | _ => False)) : Ex P ρ (.binOp op T a b T') ty w (.bool t) w := by
  unfold st3 at hT
  simp only [Bool.and_eq_true, Bool.not_eq_true'] at hT
  obtain ⟨⟨⟨h1, h2⟩, h3⟩, h4⟩ := hT
  have hu : P.underlying T = some (.struct (P.fieldsOf T)) := by
    unfold Program.fieldsOf
    cases hu : P.underlying T with
    | none => simp [hu] at h1
    | some d => cases d <;> simp [hu] at h1 ⊢
  have key : (Op.equalIn 10000 T (.agg #[.int .i64 x0, .int .i64 x1, .int .i64 x2]) (.agg #[.int .i64 y0, .int .i64 y1, .int .i64 y2])).run P w = .ok (decide (x0 = y0 ∧ x1 = y1 ∧ x2 = y2)) w := by
    rw [run_equalIn_struct w 9999 T _ _ hu h2]
    split at h4
    · rename_i fa fb fc hfs
      simp only [Bool.and_eq_true, List.all_cons, List.all_nil, decide_eq_true_eq, beq_iff_eq] at h4
      obtain ⟨⟨⟨⟨⟨⟨na, oa⟩, ua⟩, ⟨⟨nb, ob⟩, ub⟩, ⟨⟨nc, oc⟩, uc⟩, _⟩, e0⟩, e1⟩, e2⟩ := h4
      have ia : P.underlying fa.type = some (.int .i64) := by split at ua <;> simp_all
      have ib : P.underlying fb.type = some (.int .i64) := by split at ub <;> simp_all
      have ic : P.underlying fc.type = some (.int .i64) := by split at uc <;> simp_all
      rw [hfs]
      simp only [Op.eqFields, na, nb, nc, e0, e1, e2, ne_eq, not_false_eq_true, if_true, Sem.run_bind]
      generalize hxs : (#[.int .i64 x0, .int .i64 x1, .int .i64 x2] : Array Value) = xs
      generalize hys : (#[.int .i64 y0, .int .i64 y1, .int .i64 y2] : Array Value) = ys
      have p0 := run_part (P := P) (t := fa.type) oa (cs := xs) (o := 0) (v := .int .i64 x0) (by rw [← hxs]; rfl) w
      have p1 := run_part (P := P) (t := fb.type) ob (cs := xs) (o := 1) (v := .int .i64 x1) (by rw [← hxs]; rfl) w
      have p2 := run_part (P := P) (t := fc.type) oc (cs := xs) (o := 2) (v := .int .i64 x2) (by rw [← hxs]; rfl) w
      have q0 := run_part (P := P) (t := fa.type) oa (cs := ys) (o := 0) (v := .int .i64 y0) (by rw [← hys]; rfl) w
      have q1 := run_part (P := P) (t := fb.type) ob (cs := ys) (o := 1) (v := .int .i64 y1) (by rw [← hys]; rfl) w
      have q2 := run_part (P := P) (t := fc.type) oc (cs := ys) (o := 2) (v := .int .i64 y2) (by rw [← hys]; rfl) w
      clear hxs hys
      simp only [p0, p1, p2, q0, q1, q2, Result.andThen_ok, run_equalIn_int w 9998 _ .i64 .i64 _ _ ia, run_equalIn_int w 9998 _ .i64 .i64 _ _ ib, run_equalIn_int w 9998 _ .i64 .i64 _ _ ic]
      by_cases c0 : x0 = y0
      · by_cases c1 : x1 = y1
        · by_cases c2 : x2 = y2
          · simp [c0, c1, c2, p0, p1, p2, q0, q1, q2, run_equalIn_int w 9998 _ .i64 .i64 _ _ ia, run_equalIn_int w 9998 _ .i64 .i64 _ _ ib, run_equalIn_int w 9998 _ .i64 .i64 _ _ ic]
          · simp [c0, c1, c2, p1, p2, q1, q2, run_equalIn_int w 9998 _ .i64 .i64 _ _ ib, run_equalIn_int w 9998 _ .i64 .i64 _ _ ic]
        · simp [c0, c1, p1, q1, run_equalIn_int w 9998 _ .i64 .i64 _ _ ib]
      · simp [c0]
    · cases h4
  show Sem.run P _ w = _
  cases op <;> simp only at hop <;> subst hop <;> simp [exec1, execOp, ha, hb, run_eqGuard_agg, h3, run_eql_struct, run_neq_struct, key]
end
def lookV (o : Obj) (k : Int) : Value := match o with
  | .map es _ => match Instr.findNow (.int .i64) (.int .i64 k) es.toList 0 with
    | some (some (_, v)) => v
    | _ => .int .i64 0
  | _ => .int .i64 0
def mapInt (P : Program) (t : TypeId) : Bool := match P.underlying t with
  | some (.map k e) => (match P.underlying k with | some (.int .i64) => true | _ => false) && (match (P.info? e).bind (·.zero) with | some (.int .i64 0) => true | _ => false)
  | _ => false
section
variable {P : Program} {ρ : Operand → Value} {w w' w0 : World} {ty : TypeId} {X : List Nat} {L : List Ent} {Z : List Fact} {V : Value → Prop} {ks : List Int}
theorem IMap.mono {V' : Value → Prop} {o : Obj} (h : IMap V ks o) (hv : ∀ v, V v → V' v) : IMap V' ks o := by
  obtain ⟨es, c, h1, h2, h3, h4⟩ := h
  exact ⟨es, c, h1, h2, h3, fun e he => hv _ (h4 e he)⟩
theorem lookV_spec {o : Obj} (h : IMap V ks o) (k : Int) : V (lookV o k) ∨ lookV o k = .int .i64 0 := by
  obtain ⟨es, c, rfl, h1, h2, h3⟩ := h
  rcases findNow_int .i64 k es.toList ks 0 h1 with ⟨_, g2⟩ | ⟨_, j, e, g2, _, g4⟩
  · right; simp [lookV, g2]
  · left; simp only [lookV, g4]; exact h3 e (List.mem_of_getElem? g2)
theorem ex_lookup {T : TypeId} {m kx : Operand} {b : Nat} {o : Obj} {k : Int} (i : Nat) (hS : St X w0 w L Z) (hi : L[i]? = some (some (b, o))) (hM : IMap V ks o) (hT : mapInt P T = true) (hm : ρ m = .map (some b)) (hk : ρ kx = .int .i64 k) :
    Ex P ρ (.lookup T m kx false) ty w (lookV o k) w := by
  obtain ⟨es, c, rfl, h1, h2, h3⟩ := hM
  unfold mapInt at hT
  have hb := hS.at i hi
  split at hT
  · rename_i kt et hu
    simp only [Bool.and_eq_true] at hT
    obtain ⟨hku, hz⟩ := hT
    have hku' : P.underlying kt = some (.int .i64) := by split at hku <;> simp_all
    have hck : ∀ b, (Instr.checkKey b 10000 kt (.int .i64 k)).run P w = .ok () w := fun b => run_checkKey hku' 9999 b
    have hzv : (zeroValue et).run P w = .ok (.int .i64 0) w := by
      cases hi' : P.info? et with
      | none => simp [hi'] at hz
      | some inf =>
        simp only [hi', Option.bind_some] at hz
        split at hz
        · rename_i hz'
          simp [zeroValue, typeInfo, hi', hz']
        · cases hz
    show Sem.run P _ w = _
    rcases findNow_int .i64 k es.toList ks 0 h1 with ⟨_, g2⟩ | ⟨_, j, e, _, _, g4⟩
    · simp [exec1, execOp, hm, hk, Instr.lookup, run_underlying hu, run_getMap hb, hck, Instr.findKey, run_underlying hku', g2, hzv, lookV]
    · simp [exec1, execOp, hm, hk, Instr.lookup, run_underlying hu, run_getMap hb, hck, Instr.findKey, run_underlying hku', g4, lookV]
  · cases hT
theorem st_appendO {T e k by' : Nat} {x y : Operand} {v u : Value} {xs ys : List Value} {zc : Array Value} {Zx : List Fact} (hS : St X w0 w L Z) (hv : Sl Zx e k v xs) (hu : Sl Zx e k u ys) (hr : Holds w Zx) (hf : ∀ a n c, v = .slice a n c → c = n) (hx : ρ x = v) (hy : ρ y = u)
    (ht : sliceOf P T = some (e, k, by')) (hz : zeroOf P e = some zc) (hzs : zc.size = k) (hk : 0 < k) (m : Nat) (hm : (xs ++ ys).length = m * k) (hb : m * by' ≤ 140737488355328) (hb' : m ≤ maxLen) :
    ∃ (p : Value × Ent) (w' : World), Ex P ρ (.call { callee := .builtin .append, args := #[x, y], argTypes := #[T, T] }) ty w p.1 w' ∧ St X w0 w' (p.2 :: L) Z ∧ Sl (entF p.2 ++ Zx) e k p.1 (xs ++ ys) := by
  obtain ⟨ii, hT, hi', rfl, rfl⟩ := sliceOf_spec ht
  have hzv : ∃ z, ii.zero = some z ∧ z.cells = zc := by
    unfold zeroOf at hz
    simp only [hi', Option.bind_some] at hz
    cases hq : ii.zero with
    | none => simp [hq] at hz
    | some z => simp [hq] at hz; exact ⟨z, rfl, hz⟩
  obtain ⟨z, hz', hzc⟩ := hzv
  have hrun : ∀ (r : Value) (w' : World), (Builtin.append_ #[T, T] ty #[v, u]).run P w = .ok r w' →
      Ex P ρ (.call { callee := .builtin .append, args := #[x, y], argTypes := #[T, T] }) ty w r w' := by
    intro r w' h
    show Sem.run P _ w = _
    simp [exec1, execOp, resolve, invoke, builtin, hx, hy, h]
  have hv0 := hv
  obtain ⟨a', m', c', rfl, hlen', hmc', _, hua⟩ := hu
  obtain ⟨a, n, c, rfl, hlen, hmc, hcm, hva⟩ := hv
  have hcn := (hf a n c rfl).symm
  subst hcn
  have hmm : n + m' = m := Nat.eq_of_mul_eq_mul_right hk (by rw [← hm, List.length_append, hlen, hlen', Nat.add_mul])
  rcases Nat.eq_zero_or_pos m' with hm0 | hmp
  · subst hm0
    have hys : ys = [] := List.length_eq_zero_iff.1 (by simpa using hlen')
    subst hys
    refine ⟨(_, none), w, hrun (.slice a _ _) _ ?_, hS.non, by simpa [entF] using hv0⟩
    cases a <;> cases a' <;> simp [Builtin.append_, run_underlying hT, Go.sizeOf, typeInfo, hi', Builtin.lenOf, Builtin.firstCells, loadCells, loadCellsFrom, storeCells]
    all_goals (rcases hva with ⟨h, _⟩ | ⟨_, _, h, _⟩ <;> first | omega | cases h)
  · obtain ⟨h0, _⟩ | ⟨bu, ou, rfl, hu0 | ⟨arru, tru, fru, hzu, hou, htu⟩⟩ := hua
    · omega
    · omega
    have hnews := fact_cells (hr _ hzu) htu
    have hdr : ∀ o, St X w0 (w.drew.alloc o) (some (w.heap.size, o) :: L) Z := fun o => (hS.draw (w.drawn + 1)).new o
    have hsl : ∀ (old cap : Nat), cap = grownCap w (n + m') old e → n + m' ≤ cap → Sl (entF (some (w.heap.size, .cells (xs.toArray ++ ys.toArray ++ Builtin.zeroCells z.cells (cap - (n + m'))) e)) ++ Zx) e ii.size (.slice (some ⟨w.heap.size, 0, none⟩) (n + m') cap) (xs ++ ys) := by
      intro old cap hcap hle
      refine ⟨_, _, _, rfl, by rw [hmm, hm], hle, ?_, .inr ⟨_, _, rfl, .inr ⟨_, _, _, List.mem_append_left _ (List.mem_singleton.2 rfl), ?_, ?_⟩⟩⟩
      · rw [hcap]; exact grownCap_le_maxLen w (n + m') old e (by omega)
      · simp only [Array.size_append, List.size_toArray, hlen, hlen', Nat.add_mul]; omega
      · rw [hmm, ← hm]
        simp only [Array.toList_append, List.toList_toArray, List.drop_zero]
        exact List.take_left' rfl
    rcases hva with ⟨rfl, _⟩ | ⟨b, o, rfl, hcells⟩
    · have hxs : xs = [] := List.length_eq_zero_iff.1 (by simpa using hlen)
      subst hxs
      cases a with
      | some b =>
        have h := run_append_grow (P := P) w T ty e ii z hT hi' hz' b 0 0 [] (by simp) (fun j u hj => by simp at hj) ⟨bu, ou, none⟩ m' c' ys hlen' hnews (by omega) (by simp [maxLen] at hb'; omega) (growslice_fits (by omega) (by rw [hmm]; exact hb))
        exact ⟨(_, some _), _, hrun _ _ h, hdr _, hsl 0 _ rfl (grownCap_ge _ _ _ _)⟩
      | none =>
      have h := run_append_nil (P := P) w T ty e ii z hT hi' hz' ⟨bu, ou, none⟩ m' c' ys hlen' hnews hmp (by simp [maxLen] at hb'; omega) (by have h5 := hb; rw [← hmm, Nat.zero_add] at h5; omega)
      refine ⟨(_, some _), _, hrun _ _ h, hdr _, ?_⟩
      have := hsl 0 (grownCap w (0 + m') 0 e) rfl (grownCap_ge _ _ _ _)
      simpa using this
    · have holds : ∀ j u, xs[j]? = some u → w.cell? ((⟨b, o, none⟩ : Addr).add j) = some u := by
        rcases hcells with h0 | ⟨arr, t, fr, hz1, hz2, hz3⟩
        · subst h0
          have hxs : xs = [] := List.length_eq_zero_iff.1 (by simpa using hlen)
          subst hxs
          intro j u hj; simp at hj
        · exact fact_cells (hr _ hz1) hz3
      have h := run_append_grow (P := P) w T ty e ii z hT hi' hz' ⟨b, o, none⟩ n n xs hlen holds ⟨bu, ou, none⟩ m' c' ys hlen' hnews (by omega) (by simp [maxLen] at hb'; omega) (growslice_fits (by omega) (by rw [hmm]; exact hb))
      exact ⟨(_, some _), _, hrun _ _ h, hdr _, hsl n _ rfl (grownCap_ge _ _ _ _)⟩
end
theorem capv_cut {Z : List Fact} {e k : Nat} {v : Value} {cs : List Value} (h : Sl Z e k v cs) (l hh m : Nat) (h1 : l ≤ hh) (h2 : hh ≤ m) {a : Option Addr} {n c : Nat} (hv : cutv v k l hh m = .slice a n c) : n = hh - l ∧ c = m - l := by
  obtain ⟨a', n', c', rfl, _⟩ := h
  simp only [cutv] at hv
  cases hv
  exact ⟨rfl, rfl⟩
theorem shs_app {Z Z' : List Fact} {e ee : TypeId} {v v' u : Value} {l l' : List Sh} (h : Shs Z e ee v l) (h' : Shs Z e ee v' l') (hu : Sl (Z' ++ Z) e 5 u (l.flatMap cS ++ l'.flatMap cS)) : Shs (Z' ++ Z) e ee u (l ++ l') := by
  refine ⟨by rw [List.flatMap_append]; exact hu, fun s hs => ?_⟩
  rcases List.mem_append.1 hs with h1 | h1
  · exact (h.2 s h1).mono fun p hp => List.mem_append_right _ hp
  · exact (h'.2 s h1).mono fun p hp => List.mem_append_right _ hp
end Sc
end
section
set_option linter.unusedVariables false
namespace Sc
open Go
section
variable {P : Program} {ρ : Operand → Value} {w w' w0 : World} {ty : TypeId} {X : List Nat} {L : List Ent} {Z : List Fact} {V : Value → Prop} {ks : List Int}
theorem ex_lookupE {T : TypeId} {m kx : Operand} {b : Nat} {o : Obj} {k n : Int} (i : Nat) (hS : St X w0 w L Z) (hi : L[i]? = some (some (b, o))) (hM : IMap V ks o) (hn : lookV o k = .int .i64 n) (hT : mapInt P T = true) (hm : ρ m = .map (some b)) (hk : ρ kx = .int .i64 k) :
    Ex P ρ (.lookup T m kx false) ty w (.int .i64 n) w := hn ▸ ex_lookup i hS hi hM hT hm hk
end
def leV (K : Int) (v : Value) : Prop := ∃ n : Int, v = .int .i64 n ∧ 0 ≤ n ∧ n ≤ K
theorem leV.mono {K K' : Int} {v : Value} (h : leV K v) (hk : K ≤ K') : leV K' v := by obtain ⟨n, h1, h2, h3⟩ := h; exact ⟨n, h1, h2, by omega⟩
theorem look_le {K : Int} {ks : List Int} {o : Obj} (h : IMap (leV K) ks o) (k : Int) (hK : 0 ≤ K) : ∃ n : Int, lookV o k = .int .i64 n ∧ 0 ≤ n ∧ n ≤ K := by
  rcases lookV_spec h k with h1 | h1
  · exact h1
  · exact ⟨0, h1, by omega, hK⟩
def gC : List Value := fdC F1 ++ fdC F2
theorem fid1 {F : PrF} (h : FOk F) (h1 : F1.id = F.id) : F1 = F := by rcases h with rfl | rfl; rfl; exact absurd h1 (by decide)
theorem fid2 {F : PrF} (h : FOk F) (h1 : F2.id = F.id) : F2 = F := by rcases h with rfl | rfl; exact absurd h1 (by decide); rfl
theorem fid_or {F : PrF} (h : FOk F) : F.id = 1 ∨ F.id = 2 := by rcases h with rfl | rfl; exact .inl rfl; exact .inr rfl
theorem f1_id : F1.id = 1 := rfl
theorem f2_id : F2.id = 2 := rfl
def cntI (n : Int) : Int := if 0 ≤ n ∧ n ≤ 65535 then (n + 30) / 31 else 0
def fieldOf' (id : Int) : PrF := if id = 1 then F1 else F2
theorem fieldOf'_ok (id : Int) : FOk (fieldOf' id) := by unfold fieldOf'; split; exact .inl rfl; exact .inr rfl
theorem fieldOf'_id {id : Int} (h : id = 1 ∨ id = 2) : id = (fieldOf' id).id := by rcases h with rfl | rfl <;> rfl
theorem fieldOf'_eq {F : PrF} (h : FOk F) {id : Int} (hi : id = F.id) : fieldOf' id = F := by rcases h with rfl | rfl <;> subst hi <;> rfl
def ckSh (s : Sh) : Int :=
  if ¬ (s.f = 1 ∨ s.f = 2) then 3 else if ¬ (1 ≤ s.t ∧ s.t ≤ 255) then 4 else if ¬ (1 ≤ s.i ∧ s.i ≤ 255) then 12 else if ¬ (0 ≤ s.n ∧ s.n ≤ 65535) then 6
  else if ¬ ((s.p.length : Int) = cntI s.n) then 8 else if s.p.all (fun y => decide (y < (fieldOf' s.f).p)) then 0 else 9
def ckEach : List Sh → Int
  | [] => 0
  | s :: l => if ckSh s ≠ 0 then ckSh s else ckEach l
def sameH (s t : Sh) : Bool := decide (s.f = t.f ∧ s.t = t.t ∧ s.n = t.n)
def mixH (l : List Sh) : Bool := match l with
  | [] => false
  | s :: l => l.any fun t => !sameH t s
def keysOf' (xs : List Int) : List Int := xs.foldl addKey []
theorem keysOf'_snoc (xs : List Int) (x : Int) : keysOf' (xs ++ [x]) = addKey (keysOf' xs) x := by unfold keysOf'; rw [List.foldl_append]; rfl
def ckShs (l : List Sh) : Int :=
  if ckEach l ≠ 0 then ckEach l else if mixH l then 14 else if (keysOf' (l.map (·.i))).length < l.length then 15
  else match l with
    | [] => 16
    | s :: _ => if (l.length : Int) < s.t then 16 else 0
theorem ckEach_take {l : List Sh} : ∀ {k : Nat} {s : Sh}, l[k]? = some s → ckEach (l.take k) = 0 → ckEach (l.take (k + 1)) = ckSh s := by
  induction l with
  | nil => intro k s h; simp at h
  | cons a l ih =>
    intro k s h h0
    cases k with
    | zero => simp at h; subst h; simp only [List.take_succ_cons, List.take_zero, ckEach]; split <;> simp_all
    | succ k =>
      simp only [List.take_succ_cons, ckEach] at h0 ⊢
      split at h0
      · contradiction
      · rename_i h1
        rw [if_neg h1]; exact ih (by simpa using h) h0
theorem ckEach_bad {l : List Sh} : ∀ {k : Nat} {s : Sh}, l[k]? = some s → ckEach (l.take k) = 0 → ckSh s ≠ 0 → ckEach l = ckSh s := by
  induction l with
  | nil => intro k s h; simp at h
  | cons a l ih =>
    intro k s h h0 hs
    cases k with
    | zero => simp at h; subst h; rw [ckEach, if_pos hs]
    | succ k =>
      simp only [List.take_succ_cons, ckEach] at h0
      split at h0
      · contradiction
      · rename_i h1
        rw [ckEach, if_neg h1]; exact ih (by simpa using h) h0 hs
theorem mixH_take {l : List Sh} {k : Nat} {s s0 : Sh} (h : l[k]? = some s) (h0 : l[0]? = some s0) : mixH (l.take (k + 1)) = (mixH (l.take k) || !sameH s s0) := by
  cases l with
  | nil => simp at h
  | cons a l =>
    simp at h0; subst h0
    cases k with
    | zero => simp at h; subst h; simp [mixH, sameH]
    | succ k =>
      have h1 : l[k]? = some s := by simpa using h
      simp only [List.take_succ_cons, mixH]
      rw [take_snoc h1, List.any_append]; simp
end Sc
namespace Sc
open Go
theorem ckShs_each {l : List Sh} {k : Nat} {s : Sh} (h : l[k]? = some s) (h0 : ckEach (l.take k) = 0) (hs : ckSh s ≠ 0) : ckSh s = ckShs l := by
  have := ckEach_bad h h0 hs
  unfold ckShs; rw [if_pos (by rw [this]; exact hs), this]
theorem ckShs_14 {l : List Sh} (h : ckEach l = 0) (hm : true = mixH l) : 14 = ckShs l := by unfold ckShs; rw [if_neg (by omega), if_pos hm.symm]
theorem ckShs_15 {l : List Sh} (h : ckEach l = 0) (hm : false = mixH l) (hk : (keysOf' (l.map (·.i))).length < l.length) : 15 = ckShs l := by unfold ckShs; rw [if_neg (by omega), if_neg (by rw [← hm]; decide), if_pos hk]
theorem ckShs_16a {l : List Sh} (h : ckEach l = 0) (hm : false = mixH l) (hk : ¬ (keysOf' (l.map (·.i))).length < l.length) (hl : l.length = 0) : 16 = ckShs l := by
  unfold ckShs; rw [if_neg (by omega), if_neg (by rw [← hm]; decide), if_neg hk]
  cases l with
  | nil => rfl
  | cons a l => simp at hl
theorem ckShs_16b {l : List Sh} {s : Sh} (h : ckEach l = 0) (hm : false = mixH l) (hk : ¬ (keysOf' (l.map (·.i))).length < l.length) (h0 : l[0]? = some s) (hl : (l.length : Int) < s.t) : 16 = ckShs l := by
  unfold ckShs; rw [if_neg (by omega), if_neg (by rw [← hm]; decide), if_neg hk]
  cases l with
  | nil => simp at h0
  | cons a l => simp at h0; subst h0; simp only; rw [if_pos hl]
theorem ckShs_0 {l : List Sh} {s : Sh} (h : ckEach l = 0) (hm : false = mixH l) (hk : ¬ (keysOf' (l.map (·.i))).length < l.length) (h0 : l[0]? = some s) (hl : ¬ (l.length : Int) < s.t) : 0 = ckShs l := by
  unfold ckShs; rw [if_neg (by omega), if_neg (by rw [← hm]; decide), if_neg hk]
  cases l with
  | nil => simp at h0
  | cons a l => simp at h0; subst h0; simp only; rw [if_neg hl]
theorem mk_zero {b : Bool} : (mk b = 0) ↔ b = false := by cases b <;> decide
theorem ckSh_9 {s : Sh} (h1 : s.f = 1 ∨ s.f = 2) (h2 : 1 ≤ s.t ∧ s.t ≤ 255) (h3 : 1 ≤ s.i ∧ s.i ≤ 255) (h4 : 0 ≤ s.n ∧ s.n ≤ 65535) (h5 : (s.p.length : Int) = cntI s.n) {b : Bool} (hb : b = s.p.all fun y => decide (y < (fieldOf' s.f).p)) : ckSh s = if b then 0 else 9 := by
  rw [ckSh, if_neg (fun h => h h1), if_neg (fun h => h h2), if_neg (fun h => h h3), if_neg (fun h => h h4), if_neg (fun h => h h5), hb]
end Sc
end
section
set_option linter.unusedVariables false
namespace Sc
open Go
def fitB (F : PrF) (xs : List Int) (ys : List Nat) (K : Int) : Bool := ((intL F (ptsL F xs) ys).drop K.toNat).all fun y => decide (y = 0)
theorem intL_len (F : PrF) (X ys : List Nat) : (intL F X ys).length = X.length := intF_len F X ys _
theorem intL_lt {F : PrF} (h : FOk F) (X ys : List Nat) : ∀ z ∈ intL F X ys, z < F.p := intF_lt h X ys _
def fEv (n : Nat) (K : Int) : List Ev := iEv n ++ bel K n
theorem sq_900 {n : Nat} (h : n < 900) : n * n ≤ 810000 := Nat.le_trans (Nat.mul_le_mul (Nat.le_of_lt h) (Nat.le_of_lt h)) (Nat.le_refl _)
theorem iEv_len {n : Nat} (h : n < 900) : (iEv n).length ≤ 1900000 := by
  have h1 := wEv_len n
  have h2 := ppEv_len n n
  have h3 := sq_900 h
  simp only [iEv, List.length_append]; omega
theorem fEv_len {n : Nat} (h : n < 900) (K : Int) : (fEv n K).length ≤ 1990000 := by
  have h1 := iEv_len h
  have h2 := bel_len K n
  simp only [fEv, List.length_append]; omega
def aEv (n : Nat) (K : Int) : Nat → List Ev
  | 0 => []
  | k + 1 => aEv n K k ++ (⟨4, (k : Int), 0⟩ :: fEv n K)
theorem aEv_len {n : Nat} (h : n < 900) (K : Int) : ∀ k, (aEv n K k).length ≤ k * 1990001
  | 0 => by simp [aEv]
  | k + 1 => by
    have := aEv_len h K k
    have := fEv_len h K
    simp only [aEv, List.length_append, List.length_cons]; omega
def mskL (F : PrF) (l : List Sh) (K : Int) : Nat → List Int
  | 0 => []
  | k + 1 => mskL F l K k ++ [mk (fitB F (idxL l) (colL l k) K)]
theorem mskL_len (F : PrF) (l : List Sh) (K : Int) : ∀ m, (mskL F l K m).length = m
  | 0 => rfl
  | k + 1 => by simp [mskL, mskL_len F l K k]
def conB (F : PrF) (l : List Sh) (K : Int) (m : Nat) : Bool := (List.range m).all fun k => fitB F (idxL l) (colL l k) K
def chuL (F : PrF) (l : List Sh) (K : Int) (m : Nat) : List Bool := (List.range m).map fun k => fitB F (idxL l) (colL l k) K
theorem mskL_get {F : PrF} {l : List Sh} {K : Int} : ∀ {m k : Nat}, k < m → (mskL F l K m)[k]? = some (mk (fitB F (idxL l) (colL l k) K))
  | 0, k, h => by omega
  | m + 1, k, h => by
    rw [mskL]
    by_cases hk : k < m
    · rw [List.getElem?_append_left (by rw [mskL_len]; exact hk)]; exact mskL_get hk
    · obtain rfl : k = m := by omega
      rw [List.getElem?_append_right (by rw [mskL_len]; exact Nat.le_refl _), mskL_len, Nat.sub_self]; rfl
def omitL (l : List Sh) (i : Nat) : List Sh := l.take i ++ l.drop (i + 1)
theorem omit_len {l : List Sh} {i : Nat} (h : i < l.length) : (omitL l i).length + 1 = l.length := by simp [omitL]; omega
theorem omit_sub (l : List Sh) (i : Nat) : ∀ s ∈ omitL l i, s ∈ l := by
  intro s h
  rcases List.mem_append.1 h with h | h
  · exact List.mem_of_mem_take h
  · exact List.mem_of_mem_drop h
def susL (F : PrF) (l : List Sh) (K : Int) (m : Nat) : Nat → List Int
  | 0 => []
  | i + 1 => susL F l K m i ++ (if conB F (omitL l i) K m then [(i : Int)] else [])
theorem susL_len (F : PrF) (l : List Sh) (K : Int) (m : Nat) : ∀ i, (susL F l K m i).length ≤ i
  | 0 => Nat.le_refl _
  | i + 1 => by
    have := susL_len F l K m i
    simp only [susL, List.length_append]
    split <;> simp <;> omega
def sEv (n : Nat) (K : Int) (m : Nat) : Nat → List Ev
  | 0 => []
  | i + 1 => sEv n K m i ++ (⟨5, (i : Int), 0⟩ :: aEv (n - 1) K m)
theorem sEv_len {n : Nat} (h : n < 900) (K : Int) (m : Nat) : ∀ i, (sEv n K m i).length ≤ i * (m * 2000000 + 1)
  | 0 => by simp [sEv]
  | i + 1 => by
    have h1 := sEv_len h K m i
    have h2 := aEv_len (n := n - 1) (by omega) K m
    have h3 : (i + 1) * (m * 2000000 + 1) = i * (m * 2000000 + 1) + (m * 2000000 + 1) := by rw [Nat.add_mul, Nat.one_mul]
    simp only [sEv, List.length_append, List.length_cons]; omega
end Sc
end
section
set_option linter.unusedVariables false
namespace Sc
open Go
theorem getD_someI {l : List Int} {j : Nat} {y : Int} (h : l[j]? = some y) : l.getD j 0 = y := by rw [List.getD_eq_getElem?_getD, h]; rfl
def lo (l : List Int) : Nat → Int
  | 0 => 0
  | k + 1 => lo l k + l.getD k 0 * (18446744073709551616 : Int) ^ k
theorem lo_set {l : List Int} {z : Int} : ∀ {k j : Nat}, k ≤ j → lo (l.set j z) k = lo l k
  | 0, _, _ => rfl
  | k + 1, j, h => by
    have h1 : (l.set j z).getD k 0 = l.getD k 0 := by simp only [List.getD_eq_getElem?_getD]; rw [List.getElem?_set, if_neg (by omega)]
    rw [lo, lo, lo_set (by omega), h1]
theorem lo_put {l : List Int} {z : Int} {k : Nat} (h : k < l.length) : lo (l.set k z) (k + 1) = lo l k + z * (18446744073709551616 : Int) ^ k := by
  have h1 : (l.set k z).getD k 0 = z := by simp only [List.getD_eq_getElem?_getD]; rw [List.getElem?_set, if_pos rfl, if_pos h]; rfl
  rw [lo, lo_set (Nat.le_refl _), h1]
theorem lo_step {l : List Int} {y : Int} {k : Nat} (h : l[k]? = some y) : lo l (k + 1) = lo l k + y * (18446744073709551616 : Int) ^ k := by rw [lo, getD_someI h]
theorem lo_limbs (a : Nat) (h : a < B256) : lo [limb a 0, limb a 1, limb a 2, limb a 3] 4 = a := by
  have := limb_sum a h
  show (((0 + limb a 0 * (18446744073709551616 : Int) ^ 0) + limb a 1 * (18446744073709551616 : Int) ^ 1) + limb a 2 * (18446744073709551616 : Int) ^ 2) + limb a 3 * (18446744073709551616 : Int) ^ 3 = a
  omega
theorem lo_done {o : List Int} (hl : o.length = 4) (hr : ∀ z ∈ o, 0 ≤ z ∧ z < 18446744073709551616) {N : Nat} (hN : N < B256) (h : lo o 4 = N) : o = [limb N 0, limb N 1, limb N 2, limb N 3] := by
  match o, hl with
  | [s0, s1, s2, s3], _ =>
    have h0 := hr s0 (by simp)
    have h1 := hr s1 (by simp)
    have h2 := hr s2 (by simp)
    have h3 := hr s3 (by simp)
    have hs := limb_sum N hN
    have e : (((0 + s0 * (18446744073709551616 : Int) ^ 0) + s1 * (18446744073709551616 : Int) ^ 1) + s2 * (18446744073709551616 : Int) ^ 2) + s3 * (18446744073709551616 : Int) ^ 3 = N := h
    have l0 := limb_nonneg N 0; have m0 := limb_lt N 0
    have l1 := limb_nonneg N 1; have m1 := limb_lt N 1
    have l2 := limb_nonneg N 2; have m2 := limb_lt N 2
    have l3 := limb_nonneg N 3; have m3 := limb_lt N 3
    have e0 : s0 = limb N 0 := by omega
    have e1 : s1 = limb N 1 := by omega
    have e2 : s2 = limb N 2 := by omega
    have e3 : s3 = limb N 3 := by omega
    rw [e0, e1, e2, e3]
theorem all_setI {o : List Int} {j : Nat} {v : Int} (h : ∀ z ∈ o, 0 ≤ z ∧ z < 18446744073709551616) (hv : 0 ≤ v ∧ v < 18446744073709551616) : ∀ z ∈ o.set j v, 0 ≤ z ∧ z < 18446744073709551616 := by
  intro z hz
  rcases List.mem_or_eq_of_mem_set hz with h1 | h1
  · exact h z h1
  · rw [h1]; exact hv
theorem sum_step {o A B : List Int} {k : Nat} {a b c c' z : Int} (h : lo o k + c * (18446744073709551616 : Int) ^ k = lo A k + lo B k) (ha : A[k]? = some a) (hb : B[k]? = some b) (hk : k < o.length) (hz : z + c' * 18446744073709551616 = a + b + c) :
    lo (o.set k z) (k + 1) + c' * (18446744073709551616 : Int) ^ (k + 1) = lo A (k + 1) + lo B (k + 1) := by
  rw [lo_put hk, lo_step ha, lo_step hb, Int.pow_succ]
  generalize (18446744073709551616 : Int) ^ k = P at *
  have : z * P + c' * (P * 18446744073709551616) = (z + c' * 18446744073709551616) * P := by grind
  rw [hz] at this; grind
theorem dif_step {o A B : List Int} {k : Nat} {a b c c' z : Int} (h : lo o k - c * (18446744073709551616 : Int) ^ k = lo A k - lo B k) (ha : A[k]? = some a) (hb : B[k]? = some b) (hk : k < o.length) (hz : z - c' * 18446744073709551616 = a - b - c) :
    lo (o.set k z) (k + 1) - c' * (18446744073709551616 : Int) ^ (k + 1) = lo A (k + 1) - lo B (k + 1) := by
  rw [lo_put hk, lo_step ha, lo_step hb, Int.pow_succ]
  generalize (18446744073709551616 : Int) ^ k = P at *
  have : z * P - c' * (P * 18446744073709551616) = (z - c' * 18446744073709551616) * P := by grind
  rw [hz] at this; grind
theorem pow64_4 : (18446744073709551616 : Int) ^ 4 = 115792089237316195423570985008687907853269984665640564039457584007913129639936 := by decide
theorem lo_bound {o : List Int} (hl : o.length = 4) (hr : ∀ z ∈ o, 0 ≤ z ∧ z < 18446744073709551616) : 0 ≤ lo o 4 ∧ lo o 4 < 115792089237316195423570985008687907853269984665640564039457584007913129639936 := by
  match o, hl with
  | [s0, s1, s2, s3], _ =>
    have h0 := hr s0 (by simp)
    have h1 := hr s1 (by simp)
    have h2 := hr s2 (by simp)
    have h3 := hr s3 (by simp)
    have e : lo [s0, s1, s2, s3] 4 = (((0 + s0 * (18446744073709551616 : Int) ^ 0) + s1 * (18446744073709551616 : Int) ^ 1) + s2 * (18446744073709551616 : Int) ^ 2) + s3 * (18446744073709551616 : Int) ^ 3 := rfl
    omega
theorem sum_done {o : List Int} {a b : Nat} {c : Int} (ha : a < B256) (hb : b < B256) (hl : o.length = 4) (hr : ∀ z ∈ o, 0 ≤ z ∧ z < 18446744073709551616) (hc : c = 0 ∨ c = 1)
    (h : lo o 4 + c * (18446744073709551616 : Int) ^ 4 = lo [limb a 0, limb a 1, limb a 2, limb a 3] 4 + lo [limb b 0, limb b 1, limb b 2, limb b 3] 4) :
    o = [limb (addN a b) 0, limb (addN a b) 1, limb (addN a b) 2, limb (addN a b) 3] ∧ c = bI (decide (B256 ≤ a + b)) := by
  rw [lo_limbs a ha, lo_limbs b hb, pow64_4] at h
  have hb4 := lo_bound hl hr
  unfold B256 at *
  have hN : addN a b < B256 := Nat.mod_lt _ (by decide)
  refine ⟨lo_done hl hr hN ?_, ?_⟩
  · unfold addN B256; omega
  · unfold bI
    by_cases hd : 115792089237316195423570985008687907853269984665640564039457584007913129639936 ≤ a + b
    · simp [hd]; omega
    · simp [hd]; omega
theorem dif_done {o : List Int} {a b : Nat} {c : Int} (ha : a < B256) (hb : b < B256) (hl : o.length = 4) (hr : ∀ z ∈ o, 0 ≤ z ∧ z < 18446744073709551616) (hc : c = 0 ∨ c = 1)
    (h : lo o 4 - c * (18446744073709551616 : Int) ^ 4 = lo [limb a 0, limb a 1, limb a 2, limb a 3] 4 - lo [limb b 0, limb b 1, limb b 2, limb b 3] 4) :
    o = [limb (subN a b) 0, limb (subN a b) 1, limb (subN a b) 2, limb (subN a b) 3] ∧ c = bI (decide (a < b)) := by
  rw [lo_limbs a ha, lo_limbs b hb, pow64_4] at h
  have hb4 := lo_bound hl hr
  unfold B256 at *
  have hN : subN a b < B256 := Nat.mod_lt _ (by decide)
  refine ⟨lo_done hl hr hN ?_, ?_⟩
  · unfold subN B256; omega
  · unfold bI
    by_cases hd : a < b
    · simp [hd]; omega
    · simp [hd]; omega
theorem wuq {x y r : Int} (h : r = x / y) (hx : 0 ≤ x ∧ x < 18446744073709551616) (hy : 0 < y) : r = IntKind.wrap .u64 (Int.tdiv x y) := by
  rw [h, Int.tdiv_eq_ediv_of_nonneg hx.1, IntKind.wrap_u64, Int.emod_eq_of_lt (Int.ediv_nonneg hx.1 (by omega)) (Int.lt_of_le_of_lt (Int.ediv_le_self _ hx.1) hx.2)]
theorem half_step {w y x : Int} {k : Nat} (hw : w = y / (2 : Int) ^ k) (hx : x = w / 2) : x = y / (2 : Int) ^ (k + 1) := by
  have := Int.pow_pos (n := (2 : Int)) (m := k) (by decide)
  rw [hx, hw, Int.pow_succ, Int.ediv_ediv, if_neg (by omega), Int.sub_zero]
def bitN (a i : Nat) : Nat := a / 2 ^ i % 2
theorem bit_done {a x : Nat} {y w : Int} {j k : Nat} (hy : [limb a 0, limb a 1, limb a 2, limb a 3][j]? = some y) (hj : j = x / 64) (hk : k = x % 64) (hw : w = y / (2 : Int) ^ k) : w % 2 = (bitN a x : Int) := by
  obtain rfl := limbs4 hy
  subst hw
  unfold limb bitN
  rw [show ((2 : Int) ^ k) = ((2 ^ k : Nat) : Int) from by norm_cast]
  have hk64 : k < 64 := by omega
  have hx : x = 64 * j + k := by omega
  rw [show (18446744073709551616 : Nat) = 2 ^ 64 from by decide]
  have h1 : a / 2 ^ (64 * j) % 2 ^ 64 / 2 ^ k % 2 = a / 2 ^ x % 2 := by
    have h2 := Nat.testBit_mod_two_pow (a / 2 ^ (64 * j)) 64 k
    rw [Nat.testBit_div_two_pow] at h2
    simp only [Nat.testBit_eq_decide_div_mod_eq, hk64, decide_true, Bool.true_and] at h2
    rw [show k + 64 * j = x from by omega] at h2
    have h3 := decide_eq_decide.1 h2
    omega
  rw [← h1]; norm_cast
def sbN (m a : Nat) (c : Int) : Nat := if c % 2 = 0 ∧ a < m then a else subN a m
theorem sbN_lt {m a : Nat} {c : Int} (ha : a < B256) : sbN m a c < B256 := by unfold sbN; split; exact ha; exact Nat.mod_lt _ (by decide)
theorem subN_ge {a m : Nat} (h : m ≤ a) (ha : a < B256) : subN a m = a - m := by unfold subN B256 at *; omega
theorem addN_lt (a b : Nat) : addN a b < B256 := Nat.mod_lt _ (by decide)
theorem subN_lt (a b : Nat) : subN a b < B256 := Nat.mod_lt _ (by decide)
def rAdd (p a b : Nat) : Nat := (a + b) % p
def rMul (p a b : Nat) : Nat := a * b % p
theorem rAdd_lt {p a b : Nat} (h : 0 < p) : rAdd p a b < p := Nat.mod_lt _ h
theorem rMul_lt {p a b : Nat} (h : 0 < p) : rMul p a b < p := Nat.mod_lt _ h
theorem rAdd_eq {p a b : Nat} (hp : p < B256) (ha : a < p) (hb : b < p) : sbN p (addN a b) (bI (decide (B256 ≤ a + b))) = rAdd p a b := by
  unfold sbN rAdd
  by_cases h : B256 ≤ a + b
  · rw [show bI (decide (B256 ≤ a + b)) = 1 from by simp [h, bI], if_neg (by omega)]
    have h1 : addN a b = a + b - B256 := by unfold addN B256 at *; omega
    rw [h1]
    have h2 : subN (a + b - B256) p = a + b - p := by unfold subN B256 at *; omega
    rw [h2, Nat.mod_eq_sub_mod (by omega), Nat.mod_eq_of_lt (by omega)]
  · rw [show bI (decide (B256 ≤ a + b)) = 0 from by simp [h, bI]]
    have h1 : addN a b = a + b := by unfold addN B256 at *; omega
    rw [h1]
    by_cases h2 : a + b < p
    · rw [if_pos ⟨rfl, h2⟩, Nat.mod_eq_of_lt h2]
    · rw [if_neg (fun hh => h2 hh.2), subN_ge (by omega) (by omega), Nat.mod_eq_sub_mod (by omega), Nat.mod_eq_of_lt (by omega)]
theorem bit_step (b k : Nat) (hk : k < 256) : b / 2 ^ (256 - (k + 1)) = 2 * (b / 2 ^ (256 - k)) + bitN b (255 - k) := by
  unfold bitN
  have h1 : 256 - k = (256 - (k + 1)) + 1 := by omega
  rw [h1, Nat.pow_succ, ← Nat.div_div_eq_div_mul, show 255 - k = 256 - (k + 1) from by omega]
  omega
theorem bitN_01 (a i : Nat) : bitN a i = 0 ∨ bitN a i = 1 := by unfold bitN; omega
theorem mul_step1 {p a b k o : Nat} (hk : k < 256) (ho : o = rMul p a (b / 2 ^ (256 - k))) (h1 : bitN b (255 - k) = 1) : rAdd p (rAdd p o o) a = rMul p a (b / 2 ^ (256 - (k + 1))) := by
  rw [ho, bit_step b k hk, h1]
  unfold rAdd rMul
  rw [← Nat.add_mod, Nat.mod_add_mod]
  congr 1; rw [Nat.mul_add, Nat.mul_one]; grind
theorem mul_step0 {p a b k o : Nat} (hk : k < 256) (ho : o = rMul p a (b / 2 ^ (256 - k))) (h1 : bitN b (255 - k) ≠ 1) : rAdd p o o = rMul p a (b / 2 ^ (256 - (k + 1))) := by
  have h0 := (bitN_01 b (255 - k)).resolve_right h1
  rw [ho, bit_step b k hk, h0]
  unfold rAdd rMul
  rw [← Nat.add_mod]
  congr 1; grind
theorem mul_init {p a b : Nat} (hb : b < B256) : 0 = rMul p a (b / 2 ^ (256 - 0)) := by
  rw [Nat.div_eq_of_lt (Nat.lt_of_lt_of_le hb (by decide))]; simp [rMul]
def rRad (p : Nat) : Nat := B256 % p
def dblN (p : Nat) : Nat → Nat
  | 0 => 1
  | k + 1 => rAdd p (dblN p k) (dblN p k)
theorem dblN_eq {p : Nat} (hp : 1 < p) : ∀ k, dblN p k = 2 ^ k % p
  | 0 => (Nat.mod_eq_of_lt hp).symm
  | k + 1 => by rw [dblN, dblN_eq hp k, rAdd, ← Nat.add_mod, Nat.pow_succ]; congr 1; omega
theorem dblN_rad {p : Nat} (hp : 1 < p) : dblN p 256 = rRad p := by rw [dblN_eq hp, rRad]; congr 1
def rForm (p v : Nat) : Nat := rMul p (rRad p) v
end Sc
namespace Sc
theorem setk_get {l : List Int} {k : Nat} {z y : Int} (hk : k < l.length) (h : (l.set k z)[k]? = some y) : y = z := by
  rw [List.getElem?_set, if_pos rfl, if_pos hk] at h; exact (Option.some.inj h).symm
theorem limb_rng {b k : Nat} {y : Int} (h : [limb b 0, limb b 1, limb b 2, limb b 3][k]? = some y) : 0 ≤ y ∧ y < 18446744073709551616 := by
  rw [limbs4 h]; exact ⟨limb_nonneg _ _, limb_lt _ _⟩
end Sc
end
section
set_option linter.unusedVariables false
namespace Sc
open Go
end Sc
end
section
set_option linter.unusedVariables false
namespace Sc
open Go
theorem getD_lt {p : Nat} (hp : 0 < p) {a : List Nat} (h : ∀ z ∈ a, z < p) (i : Nat) : a.getD i 0 < p := by
  rw [List.getD_eq_getElem?_getD]
  cases hq : a[i]? with
  | none => exact hp
  | some y => exact h y (List.mem_of_getElem? hq)
theorem getD_none {l : List Nat} {j : Nat} (h : l.length ≤ j) : l.getD j 0 = 0 := by rw [List.getD_eq_getElem?_getD, List.getElem?_eq_none h]; rfl
end Sc
end
section
set_option linter.unusedVariables false
namespace Sc
open Go
theorem sb_ne {p y : Nat} (hp : 0 < p) (hpb : p < B256) (hy : y < B256) : sbN p y 0 ≠ y ↔ ¬ y < p := by
  unfold sbN
  by_cases h : y < p
  · rw [if_pos ⟨rfl, h⟩]; simp [h]
  · rw [if_neg (fun hh => h hh.2), subN_ge (by omega) hy]; omega
theorem all_take {l : List Nat} {k y : Nat} {p : Nat} (h : ((l.take k).all fun y => decide (y < p)) = true) (hy : l[k]? = some y) (hlt : y < p) : ((l.take (k + 1)).all fun y => decide (y < p)) = true := by
  rw [take_snoc hy, List.all_append, h]; simpa using hlt
theorem all_bad {l : List Nat} {k y : Nat} {p : Nat} (hy : l[k]? = some y) (hlt : ¬ y < p) : (l.all fun y => decide (y < p)) = false :=
  List.all_eq_false.2 ⟨y, List.mem_of_getElem? hy, by simpa using hlt⟩
theorem mix_bad {l : List Sh} {k : Nat} {y z : Sh} (hk : 1 ≤ k) (hy : l[k]? = some y) (h0 : l[0]? = some z) (h : ¬ (y.f = z.f ∧ y.t = z.t ∧ y.n = z.n)) : true = mixH l := by
  cases l with
  | nil => simp at h0
  | cons a l =>
    simp at h0; subst h0
    cases k with
    | zero => omega
    | succ k => exact (List.any_eq_true.2 ⟨y, List.mem_of_getElem? (by simpa using hy), by simp only [sameH, decide_eq_false h]; rfl⟩).symm
theorem mix_ok {l : List Sh} {k : Nat} {y z : Sh} (hm : mixH (l.take k) = false) (hy : l[k]? = some y) (h0 : l[0]? = some z) (h : y.f = z.f ∧ y.t = z.t ∧ y.n = z.n) : mixH (l.take (k + 1)) = false := by
  rw [mixH_take hy h0, hm, sameH, decide_eq_true h]; rfl
theorem mix_1 (l : List Sh) : mixH (l.take 1) = false := by cases l <;> rfl
theorem nd_ok {l : List Sh} {i : Nat} {y : Sh} (h : (idxL (l.take i)).Nodup) (hy : l[i]? = some y) (hd : ∀ j z, j < i → l[j]? = some z → y.i ≠ z.i) : (idxL (l.take (i + 1))).Nodup := by
  rw [take_snoc hy]
  unfold idxL
  rw [List.map_append, List.nodup_append]
  refine ⟨h, by simp, fun a ha b hb => ?_⟩
  simp at hb; subst hb
  obtain ⟨z, hz, rfl⟩ := List.mem_map.1 ha
  obtain ⟨j, hj⟩ := List.mem_iff_getElem?.1 hz
  have hji : j < i := by have := (List.getElem?_eq_some_iff.1 hj).1; simp at this; omega
  rw [List.getElem?_take, if_pos hji] at hj
  exact fun e => hd j z hji hj e.symm
theorem nd_bad {l : List Sh} {i j : Nat} {y z : Sh} (hji : j < i) (hy : l[i]? = some y) (hz : l[j]? = some z) (h : y.i = z.i) : ¬ (idxL l).Nodup := by
  intro hn
  have h1 : (idxL l)[i]? = some y.i := by rw [idxL, List.getElem?_map, hy]; rfl
  have h2 : (idxL l)[j]? = some z.i := by rw [idxL, List.getElem?_map, hz]; rfl
  obtain ⟨hi, e1⟩ := List.getElem?_eq_some_iff.1 h1
  obtain ⟨hj, e2⟩ := List.getElem?_eq_some_iff.1 h2
  exact absurd (e2.trans (h.symm.trans e1.symm)) (List.pairwise_iff_getElem.1 hn j i hj hi hji)
end Sc
namespace Sc
open Go
section
variable {P : Program} {ρ : Operand → Value} {w w' w0 : World} {ty : TypeId} {X : List Nat} {L : List Ent} {Z : List Fact} {α : Type} {f : α → List Value} {xs : List α} {v : Value}
end
end Sc
end
section
set_option linter.unusedVariables false
namespace Sc
open Go
def boolOf (P : Program) (t : TypeId) : Bool := match P.underlying t with | some .bool => true | _ => false
theorem ex_eqB {P : Program} {ρ : Operand → Value} {w : World} {ty : TypeId} {T T' : TypeId} {op : BinOp} {a b : Operand} {t x y : Bool} (hT : boolOf P T = true) (ha : ρ a = .bool x) (hb : ρ b = .bool y) (hop : (match op with | .neq => t = decide (x ≠ y) | .eql => t = decide (x = y) | _ => False)) : Ex P ρ (.binOp op T a b T') ty w (.bool t) w := by
  have hu : P.underlying T = some .bool := by unfold boolOf at hT; split at hT <;> simp_all
  show Sem.run P _ w = _
  cases op <;> simp only at hop <;> subst hop <;> simp [exec1, execOp, ha, hb, eqGuard, run_eql_bool w T x y hu, run_neq_bool w T x y hu] <;> cases x <;> cases y <;> rfl
theorem eq_step {α : Type} {xs ys : List α} {k : Nat} {x y : α} (h : xs.take k = ys.take k) (hx : xs[k]? = some x) (hy : ys[k]? = some y) (e : x = y) : xs.take (k + 1) = ys.take (k + 1) := by rw [take_snoc hx, take_snoc hy, h, e]
theorem ne_at {α : Type} {xs ys : List α} {k : Nat} {x y : α} (hx : xs[k]? = some x) (hy : ys[k]? = some y) (e : x ≠ y) : xs ≠ ys := by
  rintro rfl; rw [hx] at hy; exact e (Option.some.inj hy)
theorem ne_len {α : Type} {xs ys : List α} (h : xs.length ≠ ys.length) : xs ≠ ys := fun e => h (congrArg _ e)
def susX (l : List Sh) : List Int := if ckShs l = 0 then (match l with | [] => [] | s0 :: _ => if s0.t < l.length then susL (fieldOf' s0.f) l s0.t s0.p.length l.length else []) else []
def susE (l : List Sh) : Int := if ckShs l = 0 then (match l with | [] => 16 | s0 :: _ => if s0.t < l.length then 0 else 16) else ckShs l
def susEv (l : List Sh) : List Ev := if ckShs l = 0 then (match l with | [] => [] | s0 :: _ => if s0.t < l.length then sEv l.length s0.t s0.p.length l.length else []) else []
theorem sus_err {l : List Sh} (h : ckShs l ≠ 0) : susX l = [] ∧ susE l = ckShs l ∧ susEv l = [] := by unfold susX susE susEv; simp [h]
theorem sus_few {l : List Sh} {s0 : Sh} (h : ckShs l = 0) (h0 : l[0]? = some s0) (ht : ¬ s0.t < l.length) : susX l = [] ∧ susE l = 16 ∧ susEv l = [] := by
  cases l with
  | nil => simp at h0
  | cons a l => simp at h0; subst h0; simp only [susX, susE, susEv, h, if_true]; rw [if_neg ht, if_neg ht, if_neg ht]; exact ⟨rfl, rfl, rfl⟩
theorem sus_ok {l : List Sh} {s0 : Sh} (h : ckShs l = 0) (h0 : l[0]? = some s0) (ht : s0.t < l.length) : susX l = susL (fieldOf' s0.f) l s0.t s0.p.length l.length ∧ susE l = 0 ∧ susEv l = sEv l.length s0.t s0.p.length l.length := by
  cases l with
  | nil => simp at h0
  | cons a l => simp at h0; subst h0; simp only [susX, susE, susEv, h, if_true]; rw [if_pos ht, if_pos ht, if_pos ht]; exact ⟨rfl, rfl, rfl⟩
def lrg (l : List Sh) : Int := if 12 < l.length then 1 else if l.all (fun s => decide (s.p.length ≤ 4)) then 0 else 1
theorem lrg_1 {l : List Sh} (h : (12 : Int) < l.length) : 1 = lrg l := by unfold lrg; rw [if_pos (by omega)]
theorem lrg_2 {l : List Sh} (h : ¬ (12 : Int) < l.length) {k : Nat} {s : Sh} (hs : l[k]? = some s) (hp : (4 : Int) < s.p.length) : 1 = lrg l := by
  unfold lrg; rw [if_neg (by omega), if_neg]
  intro ha
  have := List.all_eq_true.1 ha s (List.mem_of_getElem? hs)
  simp at this; omega
theorem lrg_0 {l : List Sh} (h : ¬ (12 : Int) < l.length) (ha : (l.all fun s => decide (s.p.length ≤ 4)) = true) : 0 = lrg l := by unfold lrg; rw [if_neg (by omega), if_pos ha]
theorem lrg_le {l : List Sh} (h : lrg l = 0) : l.length ≤ 12 ∧ ∀ s ∈ l, s.p.length ≤ 4 := by
  unfold lrg at h
  split at h
  · omega
  · split at h
    · rename_i h1 h2
      exact ⟨by omega, fun s hs => by simpa using List.all_eq_true.1 h2 s hs⟩
    · omega
theorem lrg_step {l : List Sh} {k : Nat} {s : Sh} (h : ((l.take k).all fun s => decide (s.p.length ≤ 4)) = true) (hs : l[k]? = some s) (hp : ¬ (4 : Int) < s.p.length) : ((l.take (k + 1)).all fun s => decide (s.p.length ≤ 4)) = true := by
  rw [take_snoc hs, List.all_append, h]; simp; omega
theorem lrg_01 (l : List Sh) : lrg l = 0 ∨ lrg l = 1 := by unfold lrg; split; exact .inr rfl; split; exact .inl rfl; exact .inr rfl
end Sc
namespace Sc
open Go
theorem deep_cons {Z : List Fact} {ee : TypeId} {s : Sh} {l : List Sh} (h : Sl Z ee 4 s.v (s.p.flatMap el)) (ht : ∀ s ∈ l, Sl Z ee 4 s.v (s.p.flatMap el)) : ∀ t ∈ s :: l, Sl Z ee 4 t.v (t.p.flatMap el) :=
  fun t h1 => (List.mem_cons.1 h1).elim (fun e => e ▸ h) (ht t)
theorem shs_lit {Z Z' : List Fact} {e ee : TypeId} {v : Value} {l : List Sh} (h : Sl Z e 5 v (l.flatMap cS)) (hd : ∀ s ∈ l, Sl (Z ++ Z') ee 4 s.v (s.p.flatMap el)) : Shs (Z ++ Z') e ee v l := ⟨h.mono fun _ hp => List.mem_append_left _ hp, hd⟩
end Sc
end
section
set_option linter.unusedVariables false
open Go
namespace Sc
abbrev fdA (F : PrF) : Array Value := (fdC F).toArray
abbrev elA (x : Nat) : Array Value := (el x).toArray
abbrev pt (b : Nat) : Value := .pointer (some ⟨b, 0, none⟩)
abbrev so (b : Nat) : Option Addr := some ⟨b, 0, none⟩
theorem tt : True := True.intro
def ndB : List Nat → Bool
  | [] => true
  | a :: t => !t.contains a && ndB t
theorem nd : ∀ {l : List Nat}, ndB l = true → l.Nodup
  | [], _ => List.Pairwise.nil
  | a :: t, h => by
    simp only [ndB, Bool.and_eq_true, Bool.not_eq_true'] at h
    obtain ⟨h1, h2⟩ := h
    exact List.nodup_cons.2 ⟨fun hm => (by rw [List.contains_iff_mem.2 hm] at h1; cases h1), nd h2⟩
section
variable {P : Program} {ops : Array Oper} {n : Nat} {m m' : Nat → Value} {ds : List Deferred} {l : List (Option Nat × Value)} {J : World → Prop} {D : List Nat} {S : Nat → Bool} {w w' : World} {k a b : Nat} {o : Oper} {v : Value}
theorem n0 (hc : D.contains k = false) (hg : o.guard = none) (hd : isDefer o.op = false) (hx : Ex P (ev n (mS m S 0 l)) o.op o.type w v w') (hl : l[k]? = some (o.dst, v)) (hJ : J w') :
    bif D.contains k then True else (AllT S (predsOf o) → Non ops S k → Does P ops n (mS m S 0 l) ds o w fun v w' => l[k]? = some (o.dst, v) ∧ J w') :=
  needG hc fun _ _ => dx (wanted_none hg) hd hx ⟨hl, hJ⟩
theorem n1 (hc : D.contains k = false) (hg : o.guard = none) (hd : isDefer o.op = false) (hp : predsOf o = [a]) (hx : S a = true → Ex P (ev n (mS m S 0 l)) o.op o.type w v w') (hl : l[k]? = some (o.dst, v)) (hJ : J w') :
    bif D.contains k then True else (AllT S (predsOf o) → Non ops S k → Does P ops n (mS m S 0 l) ds o w fun v w' => l[k]? = some (o.dst, v) ∧ J w') :=
  needG hc fun h _ => dx (wanted_none hg) hd (hx (by rw [hp] at h; exact h.1)) ⟨hl, hJ⟩
theorem n2 (hc : D.contains k = false) (hg : o.guard = none) (hd : isDefer o.op = false) (hp : predsOf o = [a, b]) (hx : S a = true → S b = true → Ex P (ev n (mS m S 0 l)) o.op o.type w v w') (hl : l[k]? = some (o.dst, v)) (hJ : J w') :
    bif D.contains k then True else (AllT S (predsOf o) → Non ops S k → Does P ops n (mS m S 0 l) ds o w fun v w' => l[k]? = some (o.dst, v) ∧ J w') :=
  needG hc fun h _ => dx (wanted_none hg) hd (hx (by rw [hp] at h; exact h.1) (by rw [hp] at h; exact h.2.1)) ⟨hl, hJ⟩
theorem sG {A : Prop} (h : D.contains k = true) : bif D.contains k then True else A := skipG h
theorem C_sr {ro : Option Nat} {id : Nat} {y : Code} {Q : Exit → Act → World → Prop} {a : Act} (h : wpL ro P ops (thn (C ro P y Q) Q) ops.toList a w) : C ro P (.seq (.region id ops false) y) Q a w := C_seq (C_region h)
end
end Sc
end
section
set_option linter.unusedVariables false
set_option linter.unusedSectionVars false
namespace Sm
universe u
theorem pw_succ {q : Nat} [NeZero q] (a : Fin q) (n : Nat) : a ^ (n + 1) = a ^ n * a := rfl
theorem pw_add {q : Nat} [NeZero q] (a : Fin q) (m : Nat) : ∀ n : Nat, a ^ (m + n) = a ^ m * a ^ n
  | 0 => by grind
  | n + 1 => by rw [← Nat.add_assoc, pw_succ, pw_succ, pw_add a m n]; grind
section
variable {nn : Nat} [NeZero nn]
def ev (x : (Fin nn)) : List (Fin nn) → (Fin nn)
  | [] => 0
  | c :: cs => c + x * ev x cs
def qr (x : (Fin nn)) : List (Fin nn) → List (Fin nn)
  | [] => []
  | c :: cs => (c + x * ev x cs) :: qr x cs
theorem qr_len (x : (Fin nn)) : ∀ cs : List (Fin nn), (qr x cs).length = cs.length
  | [] => rfl
  | c :: cs => by simp [qr, qr_len x cs]
theorem qr_spec (x y : (Fin nn)) : ∀ cs : List (Fin nn), ev y cs = (y - x) * ev y (qr x cs).tail + ev x cs
  | [] => by simp only [ev, qr, List.tail]; grind
  | [c] => by simp only [ev, qr, List.tail]; grind
  | c :: d :: cs => by
    have ih := qr_spec x y (d :: cs)
    have : (qr x (c :: d :: cs)).tail = (d + x * ev x cs) :: (qr x (d :: cs)).tail := rfl
    rw [this]
    simp only [ev] at ih ⊢
    grind
def Un (a : (Fin nn)) : Prop := ∃ b, a * b = 1
theorem Un.canc {a b : (Fin nn)} (h : Un a) (e : a * b = 0) : b = 0 := by obtain ⟨c, hc⟩ := h; grind
theorem Un.mul {a b : (Fin nn)} (h : Un a) (h' : Un b) : Un (a * b) := by obtain ⟨c, hc⟩ := h; obtain ⟨d, hd⟩ := h'; exact ⟨c * d, by grind⟩
theorem Un.neg {a : (Fin nn)} (h : Un a) : Un (-a) := by obtain ⟨c, hc⟩ := h; exact ⟨-c, by grind⟩
def Far (xs : List (Fin nn)) : Prop := xs.Pairwise fun x y => Un (x - y)
theorem ev_zero {x : (Fin nn)} : ∀ {cs : List (Fin nn)}, (∀ c ∈ cs, c = 0) → ev x cs = 0
  | [], _ => rfl
  | c :: cs, h => by
    have h1 := ev_zero (x := x) (cs := cs) fun d hd => h d (List.mem_cons_of_mem _ hd)
    have h2 := h c List.mem_cons_self
    simp only [ev]; grind
theorem zeros : ∀ (xs cs : List (Fin nn)), Far xs → cs.length ≤ xs.length → (∀ x ∈ xs, ev x cs = 0) → ∀ c ∈ cs, c = 0
  | _, [], _, _, _ => fun c hc => by simp at hc
  | [], c :: cs, _, hl, _ => by simp at hl
  | x :: xs, c :: cs, hf, hl, h => by
    have hx := h x List.mem_cons_self
    have hf' := List.pairwise_cons.1 hf
    have hq := zeros xs (qr x (c :: cs)).tail hf'.2 (by rw [List.length_tail, qr_len]; simp at hl ⊢; exact hl) fun y hy => by
      have h1 := h y (List.mem_cons_of_mem _ hy)
      rw [qr_spec x y] at h1
      refine Un.canc (a := y - x) ?_ ?_
      · have := (hf'.1 y hy).neg
        rwa [show -(x - y) = y - x from by grind] at this
      · grind
    have hq' : ∀ d ∈ qr x cs, d = 0 := hq
    have back : ∀ ds : List (Fin nn), (∀ d ∈ qr x ds, d = 0) → ∀ d ∈ ds, d = 0 := by
      intro ds
      induction ds with
      | nil => intro _ d hd; simp at hd
      | cons d ds ih =>
        intro hh e he
        have h1 := hh _ (show (d + x * ev x ds) ∈ qr x (d :: ds) from List.mem_cons_self)
        have h2 := ih fun z hz => hh z (List.mem_cons_of_mem _ hz)
        rcases List.mem_cons.1 he with rfl | he
        · rw [ev_zero h2] at h1; grind
        · exact h2 e he
    intro d hd
    have hcs := back cs hq'
    rcases List.mem_cons.1 hd with rfl | hd
    · simp only [ev] at hx; rw [ev_zero hcs] at hx; grind
    · exact hcs d hd
def subL : List (Fin nn) → List (Fin nn) → List (Fin nn)
  | a :: as, b :: bs => (a - b) :: subL as bs
  | _, _ => []
theorem ev_sub (x : (Fin nn)) : ∀ as bs : List (Fin nn), as.length = bs.length → ev x (subL as bs) = ev x as - ev x bs
  | [], [], _ => by simp only [ev, subL]; grind
  | a :: as, b :: bs, h => by
    have := ev_sub x as bs (by simpa using h)
    simp only [ev, subL]; grind
theorem subL_len : ∀ as bs : List (Fin nn), as.length = bs.length → (subL as bs).length = as.length
  | [], [], _ => rfl
  | a :: as, b :: bs, h => by simp [subL, subL_len as bs (by simpa using h)]
theorem subL_zero : ∀ as bs : List (Fin nn), as.length = bs.length → (∀ c ∈ subL as bs, c = 0) → as = bs
  | [], [], _, _ => rfl
  | a :: as, b :: bs, h, hz => by
    have h1 := hz (a - b) List.mem_cons_self
    have h2 := subL_zero as bs (by simpa using h) fun c hc => hz c (List.mem_cons_of_mem _ hc)
    rw [h2, show a = b from by grind]
theorem unique (xs as bs : List (Fin nn)) (hf : Far xs) (hl : as.length = bs.length) (hx : as.length ≤ xs.length) (h : ∀ x ∈ xs, ev x as = ev x bs) : as = bs :=
  subL_zero as bs hl (zeros xs _ hf (by rw [subL_len _ _ hl]; exact hx) fun x hm => by rw [ev_sub x _ _ hl, h x hm]; grind)
theorem ev_app (x : (Fin nn)) : ∀ as bs : List (Fin nn), ev x (as ++ bs) = ev x as + x ^ as.length * ev x bs
  | [], bs => by simp only [ev, List.nil_append, List.length_nil]; grind
  | a :: as, bs => by
    have := ev_app x as bs
    simp only [ev, List.cons_append, List.length_cons, this]; grind
theorem ev_pad (x : (Fin nn)) (as : List (Fin nn)) (n : Nat) : ev x (as ++ List.replicate n 0) = ev x as := by
  rw [ev_app, ev_zero (cs := List.replicate n 0) fun c hc => (List.mem_replicate.1 hc).2]; grind
end
section
variable {nn : Nat} [NeZero nn]
def prd (z : (Fin nn)) : List (Fin nn) → (Fin nn)
  | [] => 1
  | y :: ys => (z - y) * prd z ys
theorem prd_app (z : (Fin nn)) : ∀ as bs : List (Fin nn), prd z (as ++ bs) = prd z as * prd z bs
  | [], bs => by simp only [prd, List.nil_append]; grind
  | a :: as, bs => by
    have := prd_app z as bs
    simp only [prd, List.cons_append, this]; grind
theorem prd_zero {z : (Fin nn)} : ∀ {ys : List (Fin nn)}, z ∈ ys → prd z ys = 0
  | y :: ys, h => by
    rcases List.mem_cons.1 h with rfl | h
    · simp only [prd]; grind
    · have := prd_zero h
      simp only [prd, this]; grind
theorem prd_erase (z : (Fin nn)) : ∀ (ys : List (Fin nn)) (i : Nat) (y : (Fin nn)), ys[i]? = some y → prd z ys = (z - y) * prd z (ys.eraseIdx i)
  | [], i, y, h => by simp at h
  | a :: ys, 0, y, h => by simp at h; subst h; rfl
  | a :: ys, i + 1, y, h => by
    have := prd_erase z ys i y (by simpa using h)
    simp only [prd, List.eraseIdx_cons_succ, this]; grind
def mulLin (y : (Fin nn)) : List (Fin nn) → (Fin nn) → List (Fin nn)
  | [], p => [p]
  | c :: cs, p => (p - y * c) :: mulLin y cs c
theorem mulLin_len (y : (Fin nn)) : ∀ cs p, (mulLin y cs p).length = cs.length + 1
  | [], _ => rfl
  | c :: cs, p => by simp [mulLin, mulLin_len y cs c]
theorem ev_mulLin (z y : (Fin nn)) : ∀ cs p, ev z (mulLin y cs p) = p + (z - y) * ev z cs
  | [], p => by simp only [ev, mulLin]; grind
  | c :: cs, p => by
    have := ev_mulLin z y cs c
    simp only [ev, mulLin, this]; grind
def prdP : List (Fin nn) → List (Fin nn)
  | [] => [1]
  | y :: ys => mulLin y (prdP ys) 0
theorem prdP_len : ∀ ys : List (Fin nn), (prdP ys).length = ys.length + 1
  | [] => rfl
  | y :: ys => by rw [prdP, mulLin_len, prdP_len ys]; rfl
theorem ev_prdP (z : (Fin nn)) : ∀ ys : List (Fin nn), ev z (prdP ys) = prd z ys
  | [] => by simp only [ev, prdP, prd]; grind
  | y :: ys => by
    have := ev_prdP z ys
    simp only [prdP, prd, ev_mulLin, this]; grind
theorem Far.erase {X : List (Fin nn)} (h : Far X) (i : Nat) : Far (X.eraseIdx i) := List.Pairwise.sublist (List.eraseIdx_sublist X i) h
theorem Far.ne {X : List (Fin nn)} (h : Far X) {i j : Nat} {x y : (Fin nn)} (hi : X[i]? = some x) (hj : X[j]? = some y) (hne : i ≠ j) : Un (x - y) := by
  obtain ⟨hil, rfl⟩ := List.getElem?_eq_some_iff.1 hi
  obtain ⟨hjl, rfl⟩ := List.getElem?_eq_some_iff.1 hj
  rcases Nat.lt_or_gt_of_ne hne with h1 | h1
  · exact List.pairwise_iff_getElem.1 h i j hil hjl h1
  · have := (List.pairwise_iff_getElem.1 h j i hjl hil h1).neg
    rwa [show -(X[j] - X[i]) = X[i] - X[j] from by grind] at this
theorem mem_erase {X : List (Fin nn)} {i j : Nat} {y : (Fin nn)} (hj : X[j]? = some y) (hne : i ≠ j) : y ∈ X.eraseIdx i := by
  rw [List.mem_eraseIdx_iff_getElem?]
  exact ⟨j, fun e => hne e.symm, hj⟩
theorem of_erase {X : List (Fin nn)} {i : Nat} {y : (Fin nn)} (h : y ∈ X.eraseIdx i) : ∃ j, j ≠ i ∧ X[j]? = some y := by
  rw [List.mem_eraseIdx_iff_getElem?] at h
  exact h
theorem quot {X q : List (Fin nn)} {i : Nat} {x : (Fin nn)} (hX : Far X) (h0 : ∀ y ∈ X, Un y) (hi : X[i]? = some x) (hl : q.length = X.length) (hq : ∀ z, (z - x) * ev z q = prd z X) (z : (Fin nn)) : ev z q = prd z (X.eraseIdx i) := by
  have hil := (List.getElem?_eq_some_iff.1 hi).1
  have hlen : (X.eraseIdx i).length + 1 = X.length := by rw [List.length_eraseIdx]; split <;> omega
  have : q = prdP (X.eraseIdx i) := by
    refine unique ((0 : (Fin nn)) :: X.eraseIdx i) _ _ (List.pairwise_cons.2 ⟨fun y hy => ?_, hX.erase i⟩) (by rw [prdP_len]; omega) (by simp; omega) fun z hz => ?_
    · have := (h0 y ((List.eraseIdx_sublist X i).subset hy)).neg
      rwa [show -y = 0 - y from by grind] at this
    · rw [ev_prdP]
      have h1 := hq z
      rw [prd_erase z X i x hi] at h1
      have hu : Un (z - x) := by
        rcases List.mem_cons.1 hz with rfl | hz
        · have := (h0 x (List.mem_of_getElem? hi)).neg
          rwa [show -x = 0 - x from by grind] at this
        · obtain ⟨j, hj, hjx⟩ := of_erase hz
          exact hX.ne hjx hi hj
      have := hu.canc (b := ev z q - prd z (X.eraseIdx i)) (by grind)
      grind
  rw [this, ev_prdP]
def lag (X : List (Fin nn)) (w y : List (Fin nn)) (z : (Fin nn)) : Nat → (Fin nn)
  | 0 => 0
  | k + 1 => lag X w y z k + w.getD k 0 * y.getD k 0 * prd z (X.eraseIdx k)
theorem lag_at {X w y : List (Fin nn)} (hw : ∀ i x, X[i]? = some x → w.getD i 0 * prd x (X.eraseIdx i) = 1) {j : Nat} {x : (Fin nn)} (hj : X[j]? = some x) : ∀ k, k ≤ X.length → lag X w y x k = if j < k then y.getD j 0 else 0
  | 0, _ => by simp [lag]
  | k + 1, hk => by
    rw [lag, lag_at hw hj k (by omega)]
    by_cases h : j = k
    · subst h
      have := hw j x hj
      rw [if_neg (by omega), if_pos (by omega)]; grind
    · have := prd_zero (mem_erase (i := k) hj fun e => h e.symm)
      rw [this]
      by_cases h1 : j < k
      · rw [if_pos h1, if_pos (by omega)]; grind
      · rw [if_neg h1, if_neg (by omega)]; grind
theorem lag_val {X w y : List (Fin nn)} (hw : ∀ i x, X[i]? = some x → w.getD i 0 * prd x (X.eraseIdx i) = 1) {j : Nat} {x : (Fin nn)} (hj : X[j]? = some x) : lag X w y x X.length = y.getD j 0 := by
  rw [lag_at hw hj _ (Nat.le_refl _), if_pos (List.getElem?_eq_some_iff.1 hj).1]
end
end Sm
end
section
set_option linter.unusedVariables false
set_option linter.unusedSectionVars false
namespace Sm
open Sc
section
variable {p : Nat} [NeZero p]
def I (p : Nat) [NeZero p] (a : Nat) : Fin p := Fin.ofNat p a
theorem I_val (a : Nat) : (I p a).val = a % p := rfl
theorem I_add (a b : Nat) : I p (a + b) = I p a + I p b := by apply Fin.ext; rw [Fin.val_add]; simp only [I_val]; rw [← Nat.add_mod]
theorem I_mul (a b : Nat) : I p (a * b) = I p a * I p b := by apply Fin.ext; rw [Fin.val_mul]; simp only [I_val]; rw [← Nat.mul_mod]
theorem I_mod (a : Nat) : I p (a % p) = I p a := by apply Fin.ext; simp only [I_val]; rw [Nat.mod_mod]
theorem I_p : I p p = 0 := by apply Fin.ext; rw [I_val, Nat.mod_self]; rfl
theorem I_0 : I p 0 = 0 := by apply Fin.ext; rw [I_val, Nat.zero_mod]; rfl
theorem I_1 : I p 1 = 1 := rfl
theorem I_inj {a b : Nat} (ha : a < p) (hb : b < p) (h : I p a = I p b) : a = b := by
  have := congrArg Fin.val h
  rwa [I_val, I_val, Nat.mod_eq_of_lt ha, Nat.mod_eq_of_lt hb] at this
theorem I_rMul (a b : Nat) : I p (rMul p a b) = I p a * I p b := by rw [rMul, I_mod, I_mul]
theorem I_sub' {a b : Nat} (hb : b ≤ p) : I p (a + (p - b)) = I p a - I p b := by
  have h1 : I p (p - b) + I p b = 0 := by rw [← I_add, Nat.sub_add_cancel hb, I_p]
  rw [I_add]; grind
theorem I_pow (a : Nat) : ∀ n, I p (a ^ n) = I p a ^ n
  | 0 => by rw [Nat.pow_zero, I_1]; grind
  | n + 1 => by rw [Nat.pow_succ, I_mul, I_pow a n]; grind
end
section
variable {p : Nat} [NeZero p]
theorem ev_set (x v : Fin p) : ∀ (l : List (Fin p)) (j : Nat) (h : j < l.length), ev x (l.set j v) = ev x l + (v - l[j]) * x ^ j
  | [], j, h => by simp at h
  | c :: cs, 0, h => by simp only [List.set_cons_zero, ev, List.getElem_cons_zero]; grind
  | c :: cs, j + 1, h => by
    have ih := ev_set x v cs j (by simpa using h)
    simp only [List.set_cons_succ, ev, List.getElem_cons_succ, ih]; grind
end
end Sm
end
section
set_option linter.unusedVariables false
set_option linter.unusedSectionVars false
namespace Sm
open Sc
theorem neF {F : PrF} (h : FOk F) : NeZero F.p := ⟨by have := p_pos h; omega⟩
section
variable {F : PrF} [NeZero F.p]
def V (F : PrF) [NeZero F.p] (a : Nat) : Fin F.p := I F.p a * I F.p (rI F)
theorem R_rI (hF : FOk F) : I F.p B256 * I F.p (rI F) = 1 := by
  rw [← I_mul, ← I_mod, f_rI hF, I_1]
theorem V_0 : V F 0 = 0 := by rw [V, I_0]; grind
theorem V_fAdd (a b : Nat) : V F (fAdd F a b) = V F a + V F b := by rw [V, fAdd, I_mod, I_add]; simp only [V]; grind
theorem V_fSub {a b : Nat} (hb : b ≤ F.p) : V F (fSub F a b) = V F a - V F b := by rw [V, fSub, I_mod, I_sub' hb]; simp only [V]; grind
theorem V_fMul (a b : Nat) : V F (fMul F a b) = V F a * V F b := by rw [V, fMul, I_mod, I_mul, I_mul]; simp only [V]; grind
theorem V_one (hF : FOk F) : V F F.one = 1 := by rw [V, f_one hF, I_mod, R_rI hF]
theorem V_pt (hF : FOk F) (x : Nat) : V F (fMul F x F.sq) = I F.p x := by
  have := R_rI hF
  rw [V_fMul]; simp only [V]; rw [f_sq hF, I_mod, I_mul]; grind
theorem V_inj (hF : FOk F) {a b : Nat} (ha : a < F.p) (hb : b < F.p) (h : V F a = V F b) : a = b := by
  have := R_rI hF
  refine I_inj ha hb ?_
  simp only [V] at h
  have h1 : I F.p a * (I F.p B256 * I F.p (rI F)) = I F.p b * (I F.p B256 * I F.p (rI F)) := by grind
  rw [this] at h1; grind
theorem V_form (hF : FOk F) (v : Nat) : V F (rForm F.p v) = I F.p v := by
  have := R_rI hF
  rw [V, rForm, I_rMul, rRad, I_mod]; grind
theorem V_pws (hF : FOk F) (x : Nat) : ∀ k, V F (pws F x k) = V F x ^ k
  | 0 => by rw [pws, V_one hF]; grind
  | k + 1 => by rw [pws, V_fMul, V_pws hF x k]; grind
theorem pw16 (a : Fin F.p) (n : Nat) : (a ^ n * a ^ n) * (a ^ n * a ^ n) * ((a ^ n * a ^ n) * (a ^ n * a ^ n)) * ((a ^ n * a ^ n) * (a ^ n * a ^ n) * ((a ^ n * a ^ n) * (a ^ n * a ^ n))) = a ^ (16 * n) := by
  have h2 : a ^ n * a ^ n = a ^ (2 * n) := by rw [Nat.two_mul, pw_add]
  have h4 : a ^ (2 * n) * a ^ (2 * n) = a ^ (4 * n) := by rw [← pw_add]; congr 1; omega
  have h8 : a ^ (4 * n) * a ^ (4 * n) = a ^ (8 * n) := by rw [← pw_add]; congr 1; omega
  have h16 : a ^ (8 * n) * a ^ (8 * n) = a ^ (16 * n) := by rw [← pw_add]; congr 1; omega
  rw [h2, h4, h8, h16]
theorem nib_step (e k : Nat) (hk : k < 64) : e / 2 ^ (4 * (64 - (k + 1))) = 16 * (e / 2 ^ (4 * (64 - k))) + nib e (63 - k) := by
  unfold nib
  have h1 : 4 * (64 - k) = 4 * (64 - (k + 1)) + 4 := by omega
  rw [h1, Nat.pow_add, ← Nat.div_div_eq_div_mul, show 63 - k = 64 - (k + 1) from by omega]
  omega
theorem V_powW (hF : FOk F) (x e : Nat) (he : e < B256) : ∀ k, k ≤ 64 → V F (powW F x e k) = V F x ^ (e / 2 ^ (4 * (64 - k)))
  | 0, _ => by
    rw [Nat.div_eq_of_lt (Nat.lt_of_lt_of_le he (by decide)), powW, V_one hF]; grind
  | k + 1, h => by
    have ih := V_powW hF x e he k (by omega)
    rw [powW]
    simp only [V_fMul, V_pws hF, ih]
    rw [pw16, ← pw_add, nib_step e k (by omega)]
theorem V_fInv (hF : FOk F) (x : Nat) : V F (fInv F x) = V F x ^ (F.p - 2) := by
  have h1 := f_lt hF
  have h2 := f_big hF
  have h3 : subN F.p 2 = F.p - 2 := by unfold subN B256 at *; omega
  have h4 := V_powW hF x (subN F.p 2) (subN_lt _ _) 64 (Nat.le_refl _)
  rw [fInv, h4, h3, show 4 * (64 - 64) = 0 from rfl, Nat.pow_zero, Nat.div_one]
def VL (F : PrF) [NeZero F.p] (l : List Nat) : List (Fin F.p) := l.map (V F)
theorem VL_len (l : List Nat) : (VL F l).length = l.length := by simp [VL]
theorem VL_get {l : List Nat} {j : Nat} (h : j < (VL F l).length) : (VL F l)[j] = V F (l.getD j 0) := by
  simp only [VL, List.getElem_map]
  rw [List.getD_eq_getElem?_getD, List.getElem?_eq_getElem (by rw [VL_len] at h; exact h)]; rfl
theorem VL_getD (l : List Nat) (j : Nat) : (VL F l)[j]?.getD 0 = V F (l.getD j 0) := by
  rw [VL, List.getElem?_map, List.getD_eq_getElem?_getD]
  cases l[j]? with
  | none => simp [V_0]
  | some y => rfl
theorem VL_set (l : List Nat) (j v : Nat) : VL F (l.set j v) = (VL F l).set j (V F v) := by simp [VL, List.map_set]
theorem V_horn (x : Nat) : ∀ ys, V F (horn F x ys) = ev (V F x) (VL F ys)
  | [] => by rw [horn, V_0]; rfl
  | y :: ys => by rw [horn, V_fAdd, V_fMul, V_horn x ys]; simp only [VL, List.map_cons, ev]; grind
theorem VL_quoT (x : Nat) : ∀ ys, VL F (quoT F x ys) = qr (V F x) (VL F ys)
  | [] => rfl
  | y :: ys => by
    have h1 : VL F (horn F x (y :: ys) :: quoT F x ys) = V F (horn F x (y :: ys)) :: VL F (quoT F x ys) := rfl
    rw [quoT, h1, VL_quoT x ys, V_horn]; rfl
theorem vev_mulRow (z : Fin F.p) (x : Nat) : ∀ (b : List Nat) (j : Nat) (out : List Nat), j + b.length ≤ out.length → ev z (VL F (mulRow F x b j out)) = ev z (VL F out) + V F x * z ^ j * ev z (VL F b)
  | [], j, out, _ => by simp only [mulRow, VL, List.map_nil, ev]; grind
  | y :: ys, j, out, h => by
    simp only [List.length_cons] at h
    rw [mulRow, vev_mulRow z x ys (j + 1) _ (by rw [List.length_set]; omega), VL_set, ev_set _ _ _ _ (by rw [VL_len]; omega), VL_get, V_fAdd, V_fMul]
    simp only [VL, List.map_cons, ev]; grind
theorem vev_mulAll (z : Fin F.p) (b : List Nat) : ∀ (a : List Nat) (i : Nat) (out : List Nat), (a ≠ [] → i + a.length + b.length ≤ out.length + 1) → ev z (VL F (mulAll F a b i out)) = ev z (VL F out) + z ^ i * ev z (VL F a) * ev z (VL F b)
  | [], i, out, _ => by simp only [mulAll, VL, List.map_nil, ev]; grind
  | x :: xs, i, out, h => by
    have h' := h (by simp)
    simp only [List.length_cons] at h'
    rw [mulAll, vev_mulAll z b xs (i + 1) _ (fun _ => by rw [mulRow_len]; omega), vev_mulRow z x b i out (by omega)]
    simp only [VL, List.map_cons, ev]; grind
theorem vev_rep (z : Fin F.p) (n : Nat) : ev z (VL F (List.replicate n 0)) = 0 := ev_zero (by
  intro c hc
  simp only [VL, List.map_replicate] at hc
  rw [(List.mem_replicate.1 hc).2, V_0])
theorem vev_pMul (z : Fin F.p) {a b : List Nat} (ha : a.length ≠ 0) (hb : b.length ≠ 0) : ev z (VL F (pMul F a b)) = ev z (VL F a) * ev z (VL F b) := by
  unfold pMul
  rw [if_neg (by omega), vev_mulAll z b a 0 _ (fun _ => by rw [List.length_replicate]; omega), vev_rep]; grind
theorem vev_mast (hF : FOk F) (z : Fin F.p) : ∀ (ys out : List Nat), (∀ y ∈ ys, y < F.p) → out.length ≠ 0 → ev z (VL F (mastF F ys out)) = ev z (VL F out) * prd z (VL F ys)
  | [], out, _, _ => by simp only [mastF, VL, List.map_nil, prd]; grind
  | y :: ys, out, hy, ho => by
    have h1 : (pMul F out [fSub F 0 y, F.one]).length ≠ 0 := by rw [pMul_len ho (by simp)]; simp
    rw [mastF, vev_mast hF z ys _ (fun w hw => hy w (List.mem_cons_of_mem _ hw)) h1, vev_pMul z ho (by simp)]
    have h2 : ev z (VL F [fSub F 0 y, F.one]) = z - V F y := by
      simp only [VL, List.map_cons, List.map_nil, ev, V_fSub (Nat.le_of_lt (hy y List.mem_cons_self)), V_0, V_one hF]; grind
    rw [h2]
    simp only [VL, List.map_cons, prd]; grind
theorem vev_quo (hF : FOk F) {X : List Nat} (hX : ∀ y ∈ X, y < F.p) (hfar : Far (VL F X)) (h0 : ∀ y ∈ VL F X, Un y) {i x : Nat} (hi : X[i]? = some x) (z : Fin F.p) : ev z (VL F (quoT F x (mastF F X [F.one]).tail)) = prd z ((VL F X).eraseIdx i) := by
  have hm : ∀ w, ev w (VL F (mastF F X [F.one])) = prd w (VL F X) := fun w => by
    rw [vev_mast hF w X [F.one] hX (by simp)]
    simp only [VL, List.map_cons, List.map_nil, ev, V_one hF]; grind
  have hvi : (VL F X)[i]? = some (V F x) := by rw [VL, List.getElem?_map, hi]; rfl
  refine quot hfar h0 hvi (by rw [VL_len, VL_len, quo_len]) (fun w => ?_) z
  have h1 := qr_spec (V F x) w (VL F (mastF F X [F.one]))
  rw [hm, hm, prd_zero (List.mem_of_getElem? hvi)] at h1
  have h2 : VL F (quoT F x (mastF F X [F.one]).tail) = (qr (V F x) (VL F (mastF F X [F.one]))).tail := by
    rw [VL_quoT]
    cases mastF F X [F.one] with
    | nil => rfl
    | cons a l => rfl
  rw [h2, h1]; grind
end
end Sm
end
section
set_option linter.unusedVariables false
set_option linter.unusedSectionVars false
namespace Sm
open Sc
section
variable {F : PrF} [NeZero F.p]
def Fe (p : Nat) [NeZero p] (a : Fin p) : Prop := a ^ (p - 1) = 1
end
section
variable {p : Nat} [NeZero p]
theorem Fe.one : Fe p 1 := by
  have : ∀ n : Nat, (1 : Fin p) ^ n = 1 := by
    intro n
    induction n with
    | zero => grind
    | succ n ih => rw [pw_succ, ih]; grind
  exact this _
theorem mul_pow' (a b : Fin p) : ∀ n : Nat, (a * b) ^ n = a ^ n * b ^ n
  | 0 => by grind
  | n + 1 => by rw [pw_succ, pw_succ, pw_succ, mul_pow' a b n]; grind
theorem Fe.mul {a b : Fin p} (ha : Fe p a) (hb : Fe p b) : Fe p (a * b) := by
  unfold Fe at *; rw [mul_pow', ha, hb]; grind
theorem Fe.inv {a : Fin p} (hp : 2 < p) (ha : Fe p a) : a ^ (p - 2) * a = 1 := by
  unfold Fe at ha; rw [← ha, show p - 1 = p - 2 + 1 from by omega, pw_succ]
theorem Fe.un {a : Fin p} (hp : 2 < p) (ha : Fe p a) : Un a := ⟨a ^ (p - 2), by have := ha.inv hp; grind⟩
theorem Fe.ne {a : Fin p} (hp : 2 < p) (ha : Fe p a) : a ≠ 0 := by
  intro h0
  have h1 := ha.inv hp
  have h2 : (1 : Fin p) = 0 := by rw [h0] at h1; grind
  have h3 := congrArg Fin.val h2
  have h4 : (1 : Fin p).val = 1 % p := rfl
  rw [h4, Nat.mod_eq_of_lt (by omega)] at h3
  exact absurd h3 (by simp)
theorem Fe.neg {a : Fin p} (hp : p % 2 = 1) (ha : Fe p a) : Fe p (-a) := by
  have h2 : ∀ n : Nat, (-a) ^ (2 * n) = a ^ (2 * n) := by
    intro n
    induction n with
    | zero => grind
    | succ n ih => rw [show 2 * (n + 1) = 2 * n + 1 + 1 from by omega, pw_succ, pw_succ, pw_succ, pw_succ, ih]; grind
  unfold Fe at *
  have h3 : p - 1 = 2 * (p / 2) := by omega
  rw [h3] at ha ⊢
  rw [h2, ha]
end
def pm (m : Nat) : Nat → Nat → Nat → Nat
  | 0, _, _ => 1
  | f + 1, b, e => match e with
    | 0 => 1
    | e' + 1 => let h := pm m f (b * b % m) ((e' + 1) / 2); if (e' + 1) % 2 = 1 then b * h % m else h
theorem pm_eq {m : Nat} (hm : 1 < m) : ∀ (f b e : Nat), e < 2 ^ f → pm m f b e = b ^ e % m
  | 0, b, e, h => by
    have : e = 0 := by simpa using h
    subst this; rw [pm, Nat.pow_zero, Nat.mod_eq_of_lt hm]
  | f + 1, b, 0, h => by rw [pm, Nat.pow_zero, Nat.mod_eq_of_lt hm]
  | f + 1, b, e + 1, h => by
    have hlt : (e + 1) / 2 < 2 ^ f := by rw [Nat.pow_succ] at h; omega
    have ih := pm_eq hm f (b * b % m) ((e + 1) / 2) hlt
    have hsq : (b * b % m) ^ ((e + 1) / 2) % m = b ^ (2 * ((e + 1) / 2)) % m := by rw [← Nat.pow_mod, Nat.pow_mul, Nat.pow_two]
    simp only [pm]
    rw [ih, hsq]
    split
    · rename_i h1
      rw [Nat.mul_mod_mod, ← Nat.pow_succ']
      congr 2; omega
    · congr 2; omega
theorem small1 : (List.range 255).all (fun s => pm F1.p 256 (s + 1) (F1.p - 1) == 1) = true := by kernel_rfl
theorem small2 : (List.range 255).all (fun s => pm F2.p 256 (s + 1) (F2.p - 1) == 1) = true := by kernel_rfl
theorem f_p255 {F : PrF} (h : FOk F) : 255 < F.p := fOk h (P := fun F => 255 < F.p) (by decide) (by decide)
theorem f_odd {F : PrF} (h : FOk F) : F.p % 2 = 1 := fOk h (P := fun F => F.p % 2 = 1) (by decide) (by decide)
theorem small {F : PrF} (h : FOk F) {s : Nat} (h1 : 1 ≤ s) (h2 : s ≤ 255) : s ^ (F.p - 1) % F.p = 1 := by
  have h3 := f_p255 h
  have h4 := f_lt h
  have h5 : pm F.p 256 s (F.p - 1) = 1 := by
    have : (List.range 255).all (fun s => pm F.p 256 (s + 1) (F.p - 1) == 1) = true := fOk h (P := fun F => (List.range 255).all (fun s => pm F.p 256 (s + 1) (F.p - 1) == 1) = true) small1 small2
    have := List.all_eq_true.1 this (s - 1) (by simp; omega)
    rw [show s - 1 + 1 = s from by omega] at this
    simpa using this
  rw [← pm_eq (by omega) 256 s _ (by rw [show (2 : Nat) ^ 256 = B256 from by decide]; omega), h5]
section
variable {F : PrF} [NeZero F.p]
theorem Fe_small (h : FOk F) {s : Nat} (h1 : 1 ≤ s) (h2 : s ≤ 255) : Fe F.p (I F.p s) := by
  unfold Fe
  rw [← I_pow, ← I_mod, small h h1 h2, I_1]
theorem I_diff {a b : Nat} (h : b ≤ a) : I F.p (a - b) = I F.p a - I F.p b := by
  have := I_add (p := F.p) (a - b) b
  rw [Nat.sub_add_cancel h] at this; grind
theorem Fe_diff (h : FOk F) {a b : Nat} (ha : a ≤ 255) (hb : b ≤ 255) (hne : a ≠ b) : Fe F.p (I F.p a - I F.p b) := by
  rcases Nat.lt_or_gt_of_ne hne with hlt | hlt
  · have := (Fe_small h (s := b - a) (by omega) (by omega)).neg (f_odd h)
    rw [I_diff (by omega)] at this
    rwa [show -(I F.p b - I F.p a) = I F.p a - I F.p b from by grind] at this
  · have := Fe_small h (s := a - b) (by omega) (by omega)
    rwa [I_diff (by omega)] at this
end
end Sm
end
section
set_option linter.unusedVariables false
set_option linter.unusedSectionVars false
namespace Sm
open Sc
theorem erase_snoc {α : Type} {l : List α} {a : α} {i : Nat} (h : i < l.length) : (l ++ [a]).eraseIdx i = l.eraseIdx i ++ [a] := by rw [List.eraseIdx_append_of_lt_length h]
theorem erase_ge {α : Type} {l : List α} {i : Nat} (h : l.length ≤ i) : l.eraseIdx i = l := List.eraseIdx_of_length_le h
section
variable {nn : Nat} [NeZero nn]
theorem prd_snoc (z : (Fin nn)) (l : List (Fin nn)) (a : (Fin nn)) : prd z (l ++ [a]) = prd z l * (z - a) := by rw [prd_app]; simp only [prd]; grind
theorem prd_step (z : (Fin nn)) (X : List (Fin nn)) (i j : Nat) (a : (Fin nn)) (h : X[j]? = some a) : prd z ((X.take (j + 1)).eraseIdx i) = if j = i then prd z ((X.take j).eraseIdx i) else prd z ((X.take j).eraseIdx i) * (z - a) := by
  have hj := (List.getElem?_eq_some_iff.1 h).1
  have hl : (X.take j).length = j := by rw [List.length_take]; omega
  rw [take_snoc h]
  by_cases hji : j = i
  · rw [if_pos hji, List.eraseIdx_append_of_length_le (by omega), hl, show i - j = 0 from by omega, erase_ge (l := X.take j) (by omega)]; simp
  · rw [if_neg hji]
    by_cases hlt : i < j
    · rw [erase_snoc (by omega), prd_snoc]
    · rw [erase_ge (by simp; omega), erase_ge (l := X.take j) (by omega), prd_snoc]
end
section
variable {F : PrF} [NeZero F.p]
theorem V_wRow (hF : FOk F) {X : List Nat} (hX : ∀ y ∈ X, y < F.p) (x i : Nat) : ∀ j, j ≤ X.length → V F (wRow F X x i j) = prd (V F x) (((VL F X).take j).eraseIdx i)
  | 0, _ => by rw [wRow, V_one hF]; simp [prd]
  | j + 1, h => by
    have ih := V_wRow hF hX x i j (by omega)
    have hg : (VL F X)[j]? = some (V F (X.getD j 0)) := by
      rw [List.getElem?_eq_getElem (by rw [VL_len]; omega), VL_get]
    rw [wRow, prd_step _ _ _ _ _ hg]
    split
    · exact ih
    · rw [V_fMul, V_fSub (Nat.le_of_lt (getD_lt (p_pos hF) hX j)), ih]
theorem V_wRow' (hF : FOk F) {X : List Nat} (hX : ∀ y ∈ X, y < F.p) (x i : Nat) : V F (wRow F X x i X.length) = prd (V F x) ((VL F X).eraseIdx i) := by
  rw [V_wRow hF hX x i _ (Nat.le_refl _), List.take_of_length_le (by rw [VL_len]; exact Nat.le_refl _)]
def prodL : List (Fin F.p) → Fin F.p
  | [] => 1
  | a :: l => a * prodL l
theorem prodL_app : ∀ a b : List (Fin F.p), prodL (a ++ b) = prodL a * prodL b
  | [], b => by simp only [prodL, List.nil_append]; grind
  | x :: a, b => by simp only [prodL, List.cons_append, prodL_app a b]; grind
theorem prodL_fe : ∀ {l : List (Fin F.p)}, (∀ a ∈ l, Fe F.p a) → Fe F.p (prodL l)
  | [], _ => Fe.one
  | a :: l, h => (h a List.mem_cons_self).mul (prodL_fe fun b hb => h b (List.mem_cons_of_mem _ hb))
theorem V_ne0 (hF : FOk F) {x : Nat} (h : Fe F.p (V F x)) : x ≠ 0 := fun e => h.ne (by have := f_p255 hF; omega) (by rw [e, V_0])
theorem nz_id (hF : FOk F) {x : Nat} (h : Fe F.p (V F x)) : nz F x = x := by unfold nz chN; simp [V_ne0 hF h]
theorem V_bpre (hF : FOk F) {D : List Nat} (hD : ∀ d ∈ D, Fe F.p (V F d)) : ∀ j, j ≤ D.length → V F (bpre F D j) = prodL (VL F (D.take j))
  | 0, _ => by simp only [bpre, List.take_zero, List.foldl_nil, VL, List.map_nil, prodL, V_one hF]
  | j + 1, h => by
    obtain ⟨d, hd⟩ := get_lt D j (by omega)
    rw [bpre_succ hd, V_fMul, V_bpre hF hD j (by omega), nz_id hF (hD d (List.mem_of_getElem? hd)), take_snoc hd]
    simp only [VL, List.map_append, List.map_cons, List.map_nil, prodL_app, prodL]; grind
theorem V_bsuf (hF : FOk F) (i0 : Nat) : ∀ {D : List Nat}, (∀ d ∈ D, Fe F.p (V F d)) → V F (bsuf F i0 D) = V F i0 * prodL (VL F D)
  | [], _ => by simp only [bsuf, List.foldr_nil, VL, List.map_nil, prodL]; grind
  | d :: D, h => by
    have ih := V_bsuf hF i0 (D := D) fun e he => h e (List.mem_cons_of_mem _ he)
    have h1 : bsuf F i0 (d :: D) = fMul F (bsuf F i0 D) (nz F d) := rfl
    rw [h1, V_fMul, ih, nz_id hF (h d List.mem_cons_self)]
    simp only [VL, List.map_cons, prodL]; grind
theorem V_bat (hF : FOk F) {D : List Nat} (hD : ∀ d ∈ D, Fe F.p (V F d)) {i d : Nat} (hd : D[i]? = some d) : V F ((batL F D).getD i 0) * V F d = 1 := by
  have hil := (List.getElem?_eq_some_iff.1 hd).1
  have hfe := hD d (List.mem_of_getElem? hd)
  rw [getD_some (batL_get hd)]
  have h1 : batE F D i d = fMul F (bpre F D i) (bsuf F (fInv F (bpre F D D.length)) (D.drop (i + 1))) := by
    unfold batE chN; simp [V_ne0 hF hfe]
  rw [h1, V_fMul, V_bpre hF hD i (by omega), V_bsuf hF _ (fun e he => hD e (List.mem_of_mem_drop he)), V_fInv hF, V_bpre hF hD _ (Nat.le_refl _), List.take_length]
  have h2 : prodL (VL F D) = prodL (VL F (D.take i)) * V F d * prodL (VL F (D.drop (i + 1))) := by
    have e : D = D.take i ++ (d :: D.drop (i + 1)) := by rw [← drop_get hd, List.take_append_drop]
    have e2 : VL F D = VL F (D.take i) ++ (V F d :: VL F (D.drop (i + 1))) := by
      have e3 : VL F (D.take i ++ (d :: D.drop (i + 1))) = VL F (D.take i) ++ (V F d :: VL F (D.drop (i + 1))) := by simp only [VL, List.map_append, List.map_cons]
      rw [← e3, ← e]
    rw [e2, prodL_app]; simp only [prodL]; grind
  have h3 := (prodL_fe (l := VL F D) (by
    intro a ha
    obtain ⟨e, he, rfl⟩ := List.mem_map.1 ha
    exact hD e he)).inv (by have := f_p255 hF; omega)
  generalize prodL (VL F D) ^ (F.p - 2) = Q at *
  rw [h2] at h3; grind
end
section
variable {F : PrF} [NeZero F.p]
structure Pts (xs : List Int) : Prop where
  rng : ∀ x ∈ xs, 1 ≤ x ∧ x ≤ 255
  nd : xs.Nodup
def PX (F : PrF) [NeZero F.p] (xs : List Int) : List (Fin F.p) := xs.map fun x => I F.p x.toNat
theorem PX_len (xs : List Int) : (PX F xs).length = xs.length := by simp [PX]
theorem PX_get {xs : List Int} {i : Nat} {x : Int} (h : xs[i]? = some x) : (PX F xs)[i]? = some (I F.p x.toNat) := by rw [PX, List.getElem?_map, h]; rfl
theorem VL_pts (hF : FOk F) (xs : List Int) : VL F (ptsL F xs) = PX F xs := by
  simp only [VL, ptsL, PX, List.map_map]
  exact List.map_congr_left fun x _ => V_pt hF _
theorem PX_fe (hF : FOk F) {xs : List Int} (h : Pts xs) : (PX F xs).Pairwise fun x y => Fe F.p (x - y) := by
  refine List.pairwise_map.2 ?_
  refine h.nd.imp_of_mem fun {a b} ha hb hne => ?_
  have h1 := h.rng a ha
  have h2 := h.rng b hb
  exact Fe_diff hF (by omega) (by omega) (by omega)
theorem PX_far (hF : FOk F) {xs : List Int} (h : Pts xs) : Far (PX F xs) := (PX_fe hF h).imp fun hf => hf.un (by have := f_p255 hF; omega)
theorem PX_un (hF : FOk F) {xs : List Int} (h : Pts xs) : ∀ y ∈ PX F xs, Un y := by
  intro y hy
  obtain ⟨x, hx, rfl⟩ := List.mem_map.1 hy
  have h1 := h.rng x hx
  exact (Fe_small hF (by omega) (by omega)).un (by have := f_p255 hF; omega)
theorem PX_prd (hF : FOk F) {xs : List Int} (h : Pts xs) {i : Nat} {x : Fin F.p} (hi : (PX F xs)[i]? = some x) : Fe F.p (prd x ((PX F xs).eraseIdx i)) := by
  have key : ∀ ys : List (Fin F.p), (∀ y ∈ ys, Fe F.p (x - y)) → Fe F.p (prd x ys) := by
    intro ys
    induction ys with
    | nil => exact fun _ => Fe.one
    | cons y ys ih => exact fun h => (h y List.mem_cons_self).mul (ih fun z hz => h z (List.mem_cons_of_mem _ hz))
  refine key _ fun y hy => ?_
  obtain ⟨j, hj, hjy⟩ := of_erase hy
  obtain ⟨hil, rfl⟩ := List.getElem?_eq_some_iff.1 hi
  obtain ⟨hjl, rfl⟩ := List.getElem?_eq_some_iff.1 hjy
  rcases Nat.lt_or_gt_of_ne hj with hlt | hlt
  · have := (List.pairwise_iff_getElem.1 (PX_fe hF h) j i hjl hil hlt).neg (f_odd hF)
    rwa [show -((PX F xs)[j] - (PX F xs)[i]) = (PX F xs)[i] - (PX F xs)[j] from by grind] at this
  · exact List.pairwise_iff_getElem.1 (PX_fe hF h) i j hil hjl hlt
theorem V_wL (hF : FOk F) {xs : List Int} (h : Pts xs) : ∀ i x, (PX F xs)[i]? = some x → (VL F (wL F (ptsL F xs))).getD i 0 * prd x ((PX F xs).eraseIdx i) = 1 := by
  intro i x hi
  have hil := (List.getElem?_eq_some_iff.1 hi).1
  rw [PX_len] at hil
  have hX := pts_lt hF xs
  have hrow : ∀ j, V F (wRow F (ptsL F xs) ((ptsL F xs).getD j 0) j (ptsL F xs).length) = prd (V F ((ptsL F xs).getD j 0)) ((PX F xs).eraseIdx j) := fun j => by
    rw [V_wRow' hF hX, VL_pts hF]
  have hvj : ∀ j, j < xs.length → (PX F xs)[j]? = some (V F ((ptsL F xs).getD j 0)) := fun j hj => by
    rw [← VL_pts hF, List.getElem?_eq_getElem (by rw [VL_len, pts_len]; exact hj), VL_get]
  have hD : ∀ d ∈ wDs F (ptsL F xs), Fe F.p (V F d) := by
    intro d hd
    obtain ⟨j, hj, rfl⟩ := List.mem_map.1 hd
    rw [hrow]
    exact PX_prd hF h (hvj j (by rw [← pts_len F xs]; simpa using hj))
  have hdi : (wDs F (ptsL F xs))[i]? = some (wRow F (ptsL F xs) ((ptsL F xs).getD i 0) i (ptsL F xs).length) := by
    rw [wDs, List.getElem?_map, List.getElem?_range (by rw [pts_len]; exact hil)]; rfl
  have h1 := V_bat hF hD hdi
  rw [hrow] at h1
  have h2 : x = V F ((ptsL F xs).getD i 0) := by have := hvj i hil; rw [hi] at this; exact Option.some.inj this
  rw [h2, List.getD_eq_getElem?_getD, VL_getD]
  exact h1
theorem ev_addS (z : Fin F.p) (f : Nat) {o q : List Nat} (hl : q.length = o.length) : ev z (VL F (addS F f o q)) = ev z (VL F o) + V F f * ev z (VL F q) := by
  have key : ∀ (o q s : List (Fin F.p)), q.length = o.length → s.length = o.length → (∀ j : Nat, s[j]?.getD 0 = o[j]?.getD 0 + V F f * q[j]?.getD 0) → ev z s = ev z o + V F f * ev z q := by
    intro o
    induction o with
    | nil =>
      intro q s h1 h2 _
      obtain rfl := List.length_eq_zero_iff.1 h1
      obtain rfl := List.length_eq_zero_iff.1 h2
      simp only [ev]; grind
    | cons a o ih =>
      intro q s h1 h2 h3
      match q, s, h1, h2 with
      | b :: q, c :: s, h1, h2 =>
        have e0 := h3 0
        simp at e0
        have e1 := ih q s (by simpa using h1) (by simpa using h2) fun j => by have := h3 (j + 1); simpa using this
        simp only [ev, e0, e1]; grind
  refine key _ _ _ (by rw [VL_len, VL_len]; exact hl) (by rw [VL_len, VL_len, addS_len]) fun j => ?_
  rw [VL_getD, VL_getD, VL_getD]
  by_cases hj : j < o.length
  · have : (addS F f o q).getD j 0 = fAdd F (o.getD j 0) (fMul F f (q.getD j 0)) := by
      refine getD_some ?_
      rw [addS, List.getElem?_map, List.getElem?_range hj]; rfl
    rw [this, V_fAdd, V_fMul]
  · rw [getD_none (l := addS F f o q) (by rw [addS_len]; omega), getD_none (l := o) (by omega), getD_none (l := q) (by omega), V_0]; grind
theorem V_intF (hF : FOk F) {xs : List Int} (h : Pts xs) (ys : List Nat) (z : Fin F.p) : ∀ i, i ≤ xs.length → ev z (VL F (intF F (ptsL F xs) ys i)) = lag (PX F xs) (VL F (wL F (ptsL F xs))) (VL F ys) z i
  | 0, _ => by rw [intF, vev_rep]; rfl
  | i + 1, hi => by
    obtain ⟨x, hx⟩ := get_lt (ptsL F xs) i (by rw [pts_len]; omega)
    rw [intF, getD_some hx, ev_addS z _ (by rw [quo_len, intF_len]), V_intF hF h ys z i (by omega), V_fMul, vev_quo hF (pts_lt hF xs) (by rw [VL_pts hF]; exact PX_far hF h) (by rw [VL_pts hF]; exact PX_un hF h) hx, VL_pts hF, lag, List.getD_eq_getElem?_getD (l := VL F _), List.getD_eq_getElem?_getD (l := VL F ys), VL_getD, VL_getD]
theorem V_int (hF : FOk F) {xs : List Int} (h : Pts xs) (ys : List Nat) {j : Nat} {x : Fin F.p} (hj : (PX F xs)[j]? = some x) : ev x (VL F (intL F (ptsL F xs) ys)) = V F (ys.getD j 0) := by
  have h1 := V_intF hF h ys x xs.length (Nat.le_refl _)
  rw [intL, pts_len, h1]
  have h2 := lag_val (y := VL F ys) (V_wL hF h) hj
  rw [PX_len] at h2
  rw [h2, List.getD_eq_getElem?_getD, VL_getD]
end
end Sm
end
section
set_option linter.unusedVariables false
set_option linter.unusedSectionVars false
set_option maxRecDepth 10000
namespace Sm
open Sc
section
variable {F : PrF} [NeZero F.p]
theorem Pts.take {xs : List Int} (h : Pts xs) (n : Nat) : Pts (xs.take n) := ⟨fun x hx => h.rng x (List.mem_of_mem_take hx), (List.take_sublist n xs).nodup h.nd⟩
theorem drop_all {l : List Nat} {K : Nat} : ((l.drop K).all fun y => decide (y = 0)) = true ↔ ∀ j, K ≤ j → l.getD j 0 = 0 := by
  rw [List.all_eq_true]
  constructor
  · intro h j hj
    by_cases hl : j < l.length
    · have : l[j] ∈ l.drop K := by rw [List.mem_drop_iff_getElem]; exact ⟨j - K, by omega, by congr 1; omega⟩
      have := h _ this
      rw [List.getD_eq_getElem?_getD, List.getElem?_eq_getElem hl]; simpa using this
    · exact getD_none (by omega)
  · intro h y hy
    obtain ⟨j, hj, rfl⟩ := List.mem_drop_iff_getElem.1 hy
    have := h (K + j) (by omega)
    rw [List.getD_eq_getElem?_getD, List.getElem?_eq_getElem (by omega)] at this
    simpa using this
theorem take_pad {l : List Nat} {K : Nat} (hK : K ≤ l.length) (h : ∀ j, K ≤ j → l.getD j 0 = 0) : l = l.take K ++ List.replicate (l.length - K) 0 := by
  apply List.ext_getElem (by simp; omega)
  intro j h1 h2
  rw [List.getElem_append]
  split
  · simp
  · rename_i h3
    simp only [List.length_take] at h3
    have := h j (by omega)
    rw [List.getD_eq_getElem?_getD, List.getElem?_eq_getElem h1] at this
    simpa using this
end
end Sm
end
section
set_option linter.unusedVariables false
set_option linter.unusedSectionVars false
set_option maxRecDepth 10000
namespace Sm
open Sc
section
variable {F : PrF} [NeZero F.p]
theorem fit_iff (hF : FOk F) {xs : List Int} (h : Pts xs) {ys : List Nat} {K : Nat} (hKn : K ≤ xs.length) :
    fitB F xs ys K = true ↔ ∃ d : List (Fin F.p), d.length = K ∧ ∀ (j : Nat) (x : Int), xs[j]? = some x → ev (I F.p x.toNat) d = V F (ys.getD j 0) := by
  have hp0 := p_pos hF
  rw [fitB, Int.toNat_natCast, drop_all]
  generalize hc : intL F (ptsL F xs) ys = c
  have hcl : c.length = xs.length := by rw [← hc, intL_len, pts_len]
  have hclt : ∀ z ∈ c, z < F.p := by rw [← hc]; exact intL_lt hF _ _
  have e1 : ∀ (j : Nat) (x : Int), xs[j]? = some x → ev (I F.p x.toNat) (VL F c) = V F (ys.getD j 0) := fun j x hx => by rw [← hc]; exact V_int hF h ys (PX_get hx)
  have hfar := PX_far hF h
  constructor
  · intro hh
    have hpad := take_pad (by rw [hcl]; exact hKn) hh
    have hvt : VL F c = VL F (c.take K) ++ List.replicate (c.length - K) 0 := by
      have h4 : VL F (c.take K ++ List.replicate (c.length - K) 0) = VL F (c.take K) ++ List.replicate (c.length - K) 0 := by simp only [VL, List.map_append, List.map_replicate, V_0]
      rw [← h4, ← hpad]
    refine ⟨VL F (c.take K), by rw [VL_len, List.length_take]; omega, fun j x hx => ?_⟩
    rw [← e1 j x hx, hvt, ev_pad]
  · rintro ⟨d, hd, hh⟩ j hj
    have hu : VL F c = d ++ List.replicate (xs.length - K) 0 := by
      refine unique (PX F xs) _ _ hfar (by simp [VL_len]; omega) (by rw [VL_len, PX_len, hcl]; exact Nat.le_refl _) fun z hz => ?_
      obtain ⟨x, hx, rfl⟩ := List.mem_map.1 hz
      obtain ⟨k, hk⟩ := List.mem_iff_getElem?.1 hx
      rw [ev_pad, hh k x hk, e1 k x hk]
    have h2 := VL_getD (F := F) c j
    rw [hu, List.getElem?_append_right (by omega), List.getElem?_replicate] at h2
    have h3 : V F (c.getD j 0) = 0 := by rw [← h2]; split <;> rfl
    exact V_inj hF (getD_lt hp0 hclt j) hp0 (by rw [h3, V_0])
theorem fit_full (hF : FOk F) {xs : List Int} (ys : List Nat) {K : Nat} (hK : xs.length ≤ K) : fitB F xs ys K = true := by
  rw [fitB, Int.toNat_natCast, List.drop_eq_nil_of_le (by rw [intL_len, pts_len]; exact hK)]; rfl
end
theorem nz1 : NeZero F1.p := neF (.inl rfl)
theorem pts3 : Pts [1, 2, 3] := ⟨by decide, by decide⟩
theorem fit_alive1 : fitB F1 [1, 2, 3] [rForm F1.p 8, rForm F1.p 11, rForm F1.p 14] 2 = true := by
  haveI := nz1
  have hF : FOk F1 := .inl rfl
  refine (fit_iff hF pts3 (K := 2) (by decide)).2 ⟨[I F1.p 5, I F1.p 3], rfl, fun j x hx => ?_⟩
  match j, hx with
  | 0, hx => cases hx; show _ = V F1 (rForm F1.p 8); rw [V_form hF]; simp only [ev]; rw [show (8 : Nat) = 5 + 3 * 1 from rfl, I_add, I_mul]; show _ + I F1.p 1 * _ = _; grind
  | 1, hx => cases hx; show _ = V F1 (rForm F1.p 11); rw [V_form hF]; simp only [ev]; rw [show (11 : Nat) = 5 + 3 * 2 from rfl, I_add, I_mul]; show _ + I F1.p 2 * _ = _; grind
  | 2, hx => cases hx; show _ = V F1 (rForm F1.p 14); rw [V_form hF]; simp only [ev]; rw [show (14 : Nat) = 5 + 3 * 3 from rfl, I_add, I_mul]; show _ + I F1.p 3 * _ = _; grind
  | j + 3, hx => simp at hx
theorem fit_alive2 : fitB F1 [1, 2, 3] [rForm F1.p 8, rForm F1.p 11, rForm F1.p 15] 2 = false := by
  haveI := nz1
  have hF : FOk F1 := .inl rfl
  rw [← Bool.not_eq_true]
  intro hh
  obtain ⟨d, hd, h⟩ := (fit_iff hF pts3 (K := 2) (by decide)).1 hh
  match d, hd with
  | [u, v], _ =>
    have h1 : ev (I F1.p 1) [u, v] = V F1 (rForm F1.p 8) := h 0 1 rfl
    have h2 : ev (I F1.p 2) [u, v] = V F1 (rForm F1.p 11) := h 1 2 rfl
    have h3 : ev (I F1.p 3) [u, v] = V F1 (rForm F1.p 15) := h 2 3 rfl
    rw [V_form hF] at h1 h2 h3
    simp only [ev] at h1 h2 h3
    have e2 : I F1.p 2 = I F1.p 1 + I F1.p 1 := I_add 1 1
    have e3 : I F1.p 3 = I F1.p 1 + I F1.p 1 + I F1.p 1 := by rw [← e2]; exact I_add 2 1
    have e22 : I F1.p 22 + I F1.p 1 = I F1.p 8 + I F1.p 15 := by rw [← I_add, ← I_add]
    have e11 : I F1.p 22 = I F1.p 11 + I F1.p 11 := I_add 11 11
    have hz : I F1.p 1 = 0 := by grind
    exact absurd (I_inj (p := F1.p) (a := 1) (b := 0) (by decide) (by decide) (hz.trans I_0.symm)) (by decide)
end Sm
end
