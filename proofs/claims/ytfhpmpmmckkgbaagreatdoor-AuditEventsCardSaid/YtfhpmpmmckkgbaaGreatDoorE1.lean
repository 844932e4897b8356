/- AuditEvents holds: the events that the audit records are those of the reference, for all arguments that the statement admits, with no further condition. Part 1 of 12. -/
import Derived.RangeFuncIn
import Derived.RangeFuncLeaves
import Derived.OrdersIn
import Derived.Below
import Derived.KernelRfl
import Derived.Laws.AppendOwn
import Derived.Laws.Rows
import Derived.Laws.Tables
import Derived.Laws.OwnMore
import Derived.Laws.Cover3
import Derived.Laws.Entries
import Derived.Laws.Slices
import Derived.Laws.Bits64
import Derived.Laws.BitsAllLaws
import Derived.Laws.Externs
set_option linter.unusedVariables false
set_option linter.unusedSimpArgs false
set_option linter.unusedSectionVars false
section
namespace Sc
open Go
abbrev FR (ro : Option Nat) : Fence := { fn := fun _ => True, depth := none, alive := false, round := ro }
def upd (m : Nat → Value) (d : Nat) (v : Value) : Nat → Value := fun t => bif Nat.beq t d then v else m t
def updO (m : Nat → Value) : Option Nat → Value → Nat → Value
  | some d, v => upd m d v
  | none, _ => m
def upds (m : Nat → Value) : List (Nat × Value) → Nat → Value
  | [] => m
  | (d, v) :: l => fun t => bif Nat.beq t d then v else upds m l t
def act (n : Nat) (m : Nat → Value) (ds : List Deferred) : Act := { tmps := Array.ofFn (n := n) fun i => m i.1, defers := ds }
def ev (n : Nat) (m : Nat → Value) : Operand → Value
  | .tmp t => bif Nat.ble (t + 1) n then m t else undef
  | .const v => v
  | .global g => .pointer (some ⟨g, 0, none⟩)
  | .func f => .func (.func f) #[] #[]
theorem getD_act (n : Nat) (m : Nat → Value) (ds : List Deferred) (t : Nat) : (act n m ds).tmps.getD t undef = bif Nat.ble (t + 1) n then m t else undef := by
  simp only [act, Array.getD_eq_getD_getElem?, Array.getElem?_ofFn]
  by_cases h : t < n
  · have : Nat.ble (t + 1) n = true := by rw [Nat.ble_eq]; omega
    simp [h, this]
  · have : Nat.ble (t + 1) n = false := by
      cases hb : Nat.ble (t + 1) n with
      | false => rfl
      | true => rw [Nat.ble_eq] at hb; omega
    simp [h, this]
theorem eval_act (n : Nat) (m : Nat → Value) (ds : List Deferred) : (act n m ds).eval = ev n m := by
  funext x
  cases x with
  | tmp t => exact getD_act n m ds t
  | const v => rfl
  | global g => rfl
  | func f => rfl
theorem put_act (n : Nat) (m : Nat → Value) (ds : List Deferred) (d : Option Nat) (v : Value) : (act n m ds).put d v = act n (updO m d v) ds := by
  cases d with
  | none => rfl
  | some d =>
    simp only [Act.put, act, updO]
    congr 1
    apply Array.ext_getElem?
    intro i
    simp only [Array.getElem?_setIfInBounds, Array.getElem?_ofFn, Array.size_ofFn, upd]
    by_cases hd : d = i
    · subst hd
      simp only [if_true]
      by_cases h : d < n <;> simp [h, Nat.beq_refl]
    · have hb : Nat.beq i d = false := by
        cases hb : Nat.beq i d with
        | false => rfl
        | true => exact absurd (Nat.eq_of_beq_eq_true hb).symm hd
      simp [hd, hb]
theorem upds_self {m : Nat → Value} : ∀ (l : List (Nat × Value)), (∀ p ∈ l, m p.1 = p.2) → upds m l = m
  | [], _ => rfl
  | (d, v) :: l, h => by
    have h1 := h (d, v) (by simp)
    have h2 := upds_self l (fun p hp => h p (by simp [hp]))
    funext t
    simp only [upds, h2]
    cases hb : Nat.beq t d with
    | false => rfl
    | true => have := Nat.eq_of_beq_eq_true hb; subst this; exact h1.symm
def allAre (m : Nat → Value) : List (Nat × Value) → Prop
  | [] => True
  | (d, v) :: l => m d = v ∧ allAre m l
theorem allAre.mem {m : Nat → Value} : ∀ {l : List (Nat × Value)}, allAre m l → ∀ p ∈ l, m p.1 = p.2
  | [], _, _, h => absurd h (by simp)
  | (d, v) :: l, ⟨h1, h2⟩, p, hp => by
    rcases List.mem_cons.1 hp with rfl | hp
    · exact h1
    · exact h2.mem p hp
theorem nm {α : Type} {p : Prop} (a : α) (h : ∀ r, r = a → p) : p := h a rfl
def exec1 (ρ : Operand → Value) (op : Op) (ty : TypeId) : Sem Next := execOp ρ { dst := none, op, type := ty, pos := "", after := #[], guard := none }
theorem exec1_eq (ρ : Operand → Value) (o : Oper) : execOp ρ o = exec1 ρ o.op o.type := by
  obtain ⟨dst, op, type, pos, after, guard⟩ := o
  cases op <;> rfl
def Ex (P : Program) (ρ : Operand → Value) (op : Op) (ty : TypeId) (w : World) (v : Value) (w' : World) : Prop :=
  (exec1 ρ op ty).run P w = .ok (.value v) w'
def ExU (P : Program) (ρ : Operand → Value) (op : Op) (ty : TypeId) (w : World) (w' : World) : Prop :=
  (exec1 ρ op ty).run P w = .ok .skip w'
def ExE (P : Program) (ρ : Operand → Value) (op : Op) (ty : TypeId) (w : World) (f : FuncId) (args : Array Value) : Prop :=
  (exec1 ρ op ty).run P w = .ok (.enter f args) w
def ExR (P : Program) (ρ : Operand → Value) (op : Op) (ty : TypeId) (w : World) (l f : Nat) (tmps : Array Value) (assign body : Code) : Prop :=
  (exec1 ρ op ty).run P w = .ok (.round l f tmps assign body) w
def isDefer : Op → Bool
  | .defer _ => true
  | _ => false
theorem semAt_eq (ro : Option Nat) (ρ : Operand → Value) (o : Oper) (h : isDefer o.op = false) : o.semAt ro ρ = exec1 ρ o.op o.type := by
  rw [← exec1_eq]
  unfold Oper.semAt
  split
  · rename_i l c hr ho
    simp [isDefer, ho] at h
  · rfl
def wpL (ro : Option Nat) (P : Program) (ops : Array Oper) (Q : Exit → Act → World → Prop) : List Oper → Act → World → Prop
  | [], a, w => Q .normal a w
  | o :: rest, a, w =>
    (Region.wanted o (yielded ops a.tmps) = true → o.wpIn (FR ro) 0 P a w (wpL ro P ops Q rest) Q) ∧
    (Region.wanted o (yielded ops a.tmps) = false → wpL ro P ops Q rest (a.put o.dst undef) w)
theorem wpL_sound (ro : Option Nat) (P : Program) (ops : Array Oper) (Q : Exit → Act → World → Prop) : ∀ (l : List Nat) (os : List Oper), l.map (ops[·]?) = os.map some →
    ∀ a w, wpL ro P ops Q os a w → wpOpsIn (FR ro) 0 P ops Q l a w
  | [], [], _, a, w, h => h
  | [], _ :: _, hm, _, _, _ => by simp at hm
  | _ :: _, [], hm, _, _, _ => by simp at hm
  | i :: l, o :: os, hm, a, w, h => by
    simp only [List.map_cons, List.cons.injEq] at hm
    obtain ⟨hi, hm⟩ := hm
    simp only [wpOpsIn, hi]
    simp only [wpL] at h
    split
    · rename_i hw
      exact Oper.wpIn_mono (fun a w => wpL_sound ro P ops Q l os hm a w) (h.1 hw)
    · rename_i hw
      exact ⟨fun _ _ => trivial, wpL_sound ro P ops Q l os hm _ _ (h.2 (by simpa using hw))⟩
theorem region_list (ops : Array Oper) : (List.range ops.size).map (ops[·]?) = ops.toList.map some := by
  apply List.ext_getElem?
  intro i
  simp only [List.getElem?_map, List.range_eq_range']
  by_cases h : i < ops.size
  · simp [h]
  · simp [h]
abbrev C (ro : Option Nat) (P : Program) (c : Code) (Q : Exit → Act → World → Prop) (a : Act) (w : World) : Prop := c.wpIn (FR ro) 0 P Q a w
theorem C_region {ro P id ops Q a w} (h : wpL ro P ops Q ops.toList a w) : C ro P (.region id ops false) Q a w :=
  wpIn_region (wpL_sound ro P ops Q _ _ (region_list ops) a w h)
def thn (K : Act → World → Prop) (Q : Exit → Act → World → Prop) : Exit → Act → World → Prop
  | .normal, a, w => K a w
  | e, a, w => Q e a w
theorem C_seq {ro P x y Q a w} (h : C ro P x (thn (C ro P y Q) Q) a w) : C ro P (.seq x y) Q a w :=
  wpIn_seq (wpIn_mono h fun e a w hq => by cases e <;> exact hq)
theorem C_skip {ro P Q a w} (h : Q .normal a w) : C ro P .skip Q a w := wpIn_skip h
theorem C_exit {ro P id Q a w} (h : Q (.exit id) a w) : C ro P (.exit id) Q a w := wpIn_exit h
theorem C_ret {ro P Q a w} (h : Q .ret a w) : C ro P .ret Q a w := wpIn_ret h
def blk (id : Nat) (Q : Exit → Act → World → Prop) : Exit → Act → World → Prop
  | .exit id', a, w => bif Nat.beq id' id then Q .normal a w else Q (.exit id') a w
  | e, a, w => Q e a w
theorem C_block {ro P id c Q a w} (h : C ro P c (blk id Q) a w) : C ro P (.block id c) Q a w :=
  wpIn_block (wpIn_mono h fun e a w hq => by
    cases e with
    | exit id' =>
      simp only [blk] at hq
      simp only [Exit.inBlock]
      by_cases he : id' = id
      · subst he; simpa [Nat.beq_refl] using hq
      · have hb : Nat.beq id' id = false := by
          cases hb : Nat.beq id' id with
          | false => rfl
          | true => exact absurd (Nat.eq_of_beq_eq_true hb) he
        simpa [he, hb] using hq
    | _ => exact hq)
theorem C_true {ro P n m ds c x y Q w} (hc : ev n m c = .bool true) (h : C ro P x Q (act n m ds) w) : C ro P (.cond c x y) Q (act n m ds) w :=
  wpIn_cond_true (by rw [eval_act]; exact hc) h
theorem C_false {ro P n m ds c x y Q w} (hc : ev n m c = .bool false) (h : C ro P y Q (act n m ds) w) : C ro P (.cond c x y) Q (act n m ds) w :=
  wpIn_cond_false (by rw [eval_act]; exact hc) h
theorem C_if {ro P n m ds c x y Q w t} (hc : ev n m c = .bool t) (h1 : t = true → C ro P x Q (act n m ds) w) (h0 : t = false → C ro P y Q (act n m ds) w) :
    C ro P (.cond c x y) Q (act n m ds) w :=
  wpIn_cond_split (by rw [eval_act]; exact hc) h1 h0
theorem C_dec {ro P n m ds c x y Q w} (p : Prop) [d : Decidable p] (hc : ev n m c = .bool (decide p)) (h1 : p → C ro P x Q (act n m ds) w) (h0 : ¬ p → C ro P y Q (act n m ds) w) :
    C ro P (.cond c x y) Q (act n m ds) w :=
  C_if hc (fun h => h1 (of_decide_eq_true h)) (fun h => h0 (of_decide_eq_false h))
theorem C_loop {ro P c Q a w} (I : Nat → Act → World → Prop) (k : Nat) (h0 : I k a w)
    (hr : ∀ k a w, I k a w → C ro P c (thn (fun a' w' => ∃ k', k' < k ∧ I k' a' w') Q) a w) : C ro P (.loop c) Q a w := by
  intro b kk cs hro hb hr'
  have key : ∀ k a w, I k a w →
      ∃ e a' w', Q e a' w' ∧ ArrivesIn (Machine.fenced P (FR ro)) P (lone (b.atR a (.code c :: .inLoop c :: kk)) cs w) b kk cs e a' w' := by
    intro k
    induction k using Nat.strongRecOn with
    | _ k ih =>
      intro a w hI
      obtain ⟨e, a₁, w₁, hq, harr⟩ := hr k a w hI b (.inLoop c :: kk) cs hro hb hr'
      cases e with
      | normal =>
        obtain ⟨k', hlt, hI₁⟩ := hq
        obtain ⟨e₂, a₂, w₂, hq₂, harr₂⟩ := ih k' hlt a₁ w₁ hI₁
        exact ⟨e₂, a₂, w₂, hq₂, .of_steps (StepsIn.trans harr (.one (fenced_calm hb hr' rfl) stepR_inLoop)) harr₂⟩
      | exit id => exact ⟨_, a₁, w₁, hq, .pass (x := .inLoop c) rfl (fun _ _ => .inl (by simp)) harr⟩
      | goto l => exact ⟨_, a₁, w₁, hq, .pass (x := .inLoop c) rfl (fun _ _ => .inl (by simp)) harr⟩
      | ret => exact ⟨_, a₁, w₁, hq, .pass (x := .inLoop c) rfl (fun _ _ => .inl (by simp)) harr⟩
      | panic ch => exact ⟨_, a₁, w₁, hq, .pass (x := .inLoop c) rfl (fun _ _ => .inl (by simp)) harr⟩
      | outgrown => exact ⟨_, a₁, w₁, hq, .pass (x := .inLoop c) rfl (fun _ _ => .inl (by simp)) harr⟩
  obtain ⟨e, a', w', hq, harr⟩ := key _ a w h0
  exact ⟨e, a', w', hq, .of_steps (.one (fenced_calm hb hr' rfl) stepR_loop) harr⟩
section
variable {ro : Option Nat} {P : Program} {ops : Array Oper} {Q : Exit → Act → World → Prop} {rest : List Oper} {n : Nat} {m : Nat → Value} {ds : List Deferred} {w w' : World}
  {dst : Option Nat} {op : Op} {ty : TypeId} {pos : String} {af : Array Edge}
theorem wpL_one {o : Oper} {a : Act} (hg : o.guard = none) (h : o.wpIn (FR ro) 0 P a w (wpL ro P ops Q rest) Q) : wpL ro P ops Q (o :: rest) a w := by
  exact ⟨fun _ => h, fun hw => by simp [Region.wanted, hg] at hw⟩
theorem sqv {v : Value} (hx : Ex P (ev n m) op ty w v w') (h : wpL ro P ops Q rest (act n (updO m dst v) ds) w') (hd : isDefer op = false := by rfl) :
    wpL ro P ops Q (⟨dst, op, ty, pos, af, none⟩ :: rest) (act n m ds) w := by
  refine wpL_one rfl ⟨fun _ _ => trivial, ?_⟩
  rw [semAt_eq _ _ _ hd, eval_act, show Sem.run P (exec1 (ev n m) op ty) w = _ from hx]
  simp only [Oper.uponIn, put_act]
  exact h
theorem squ (hx : ExU P (ev n m) op ty w w') (h : wpL ro P ops Q rest (act n (updO m dst undef) ds) w') (hd : isDefer op = false := by rfl) :
    wpL ro P ops Q (⟨dst, op, ty, pos, af, none⟩ :: rest) (act n m ds) w := by
  refine wpL_one rfl ⟨fun _ _ => trivial, ?_⟩
  rw [semAt_eq _ _ _ hd, eval_act, show Sem.run P (exec1 (ev n m) op ty) w = _ from hx]
  simp only [Oper.uponIn, put_act]
  exact h
def Ret (R : Value → World → Prop) : Ending → World → Prop
  | .returned v, w => R v w
  | _, _ => False
theorem callsIn_of {k : Nat} {f : FuncId} {args : Array Value} {R : Ending → World → Prop} (h : Calls P f args w R) : CallsIn (FR ro) k P f args w R := by
  have h1 : CallsIn Fence.wide k P f args w R := callsIn_wide.2 h
  exact h1
theorem sqc {f : FuncId} {args : Array Value} {R : Value → World → Prop} (hx : ExE P (ev n m) op ty w f args) (hc : Calls P f args w (Ret R))
    (h : ∀ v w', R v w' → wpL ro P ops Q rest (act n (updO m dst v) ds) w') (hd : isDefer op = false := by rfl) :
    wpL ro P ops Q (⟨dst, op, ty, pos, af, none⟩ :: rest) (act n m ds) w := by
  refine wpL_one rfl ⟨fun _ _ => trivial, ?_⟩
  rw [semAt_eq _ _ _ hd, eval_act, show Sem.run P (exec1 (ev n m) op ty) w = _ from hx]
  simp only [Oper.uponIn]
  refine ⟨(fun h => by cases h), CallsIn.mono (callsIn_of hc) fun e w' he => ?_⟩
  cases e with
  | returned v => simp only [put_act]; exact h v w' he
  | panicked => exact he.elim
  | outgrown => exact he.elim
def Rounds (P : Program) (l : Nat) (f : FuncId) (tmps : Array Value) (assign body : Code) (w : World) (R : Value → World → Prop) : Prop :=
  RoundIn Fence.wide 0 P l f tmps assign body w (Ret R)
theorem sqr {l f : Nat} {tmps : Array Value} {assign body : Code} {R : Value → World → Prop} (hx : ExR P (ev n m) op ty w l f tmps assign body) (hc : Rounds P l f tmps assign body w R)
    (h : ∀ v w', R v w' → wpL ro P ops Q rest (act n (updO m dst v) ds) w') (hd : isDefer op = false := by rfl) :
    wpL ro P ops Q (⟨dst, op, ty, pos, af, none⟩ :: rest) (act n m ds) w := by
  refine wpL_one rfl ⟨fun _ _ => trivial, ?_⟩
  rw [semAt_eq _ _ _ hd, eval_act, show Sem.run P (exec1 (ev n m) op ty) w = _ from hx]
  simp only [Oper.uponIn]
  have hc' : RoundIn (FR ro) (0 - 1) P l f tmps assign body w (Ret R) := hc
  refine ⟨(fun h => by cases h), RoundIn.mono hc' fun e w' he => ?_⟩
  cases e with
  | returned v => simp only [put_act]; exact h v w' he
  | panicked => exact he.elim
  | outgrown => exact he.elim
theorem yielded_act {j d : Nat} {b : Bool} (hj : (ops[j]?).bind (·.dst) = some d) (hv : ev n m (.tmp d) = .bool b) : yielded ops (act n m ds).tmps j = some b := by
  have hd : (act n m ds).tmps.getD d undef = .bool b := by rw [getD_act]; exact hv
  unfold yielded
  rw [hj]
  simp only [Option.bind_some]
  rw [Array.getD_eq_getD_getElem?] at hd
  cases hq : (act n m ds).tmps[d]? with
  | none => simp [hq, undef] at hd
  | some x => simp [hq] at hd; simp [hd]
theorem guard_yes {j d : Nat} {b : Bool} (hj : (ops[j]?).bind (·.dst) = some d) (hv : ev n m (.tmp d) = .bool b)
    (h : wpL ro P ops Q (⟨dst, op, ty, pos, af, none⟩ :: rest) (act n m ds) w) : wpL ro P ops Q (⟨dst, op, ty, pos, af, some (j, b)⟩ :: rest) (act n m ds) w := by
  exact ⟨fun _ => h.1 rfl, fun hw => by simp [Region.wanted, yielded_act (ds := ds) hj hv] at hw⟩
theorem guard_no {j d : Nat} {b b' : Bool} (hj : (ops[j]?).bind (·.dst) = some d) (hv : ev n m (.tmp d) = .bool b') (hb : b' ≠ b)
    (h : wpL ro P ops Q rest (act n (updO m dst undef) ds) w) : wpL ro P ops Q (⟨dst, op, ty, pos, af, some (j, b)⟩ :: rest) (act n m ds) w := by
  exact ⟨fun hw => by simp [Region.wanted, yielded_act (ds := ds) hj hv, hb] at hw, fun _ => by rw [put_act]; exact h⟩
end
theorem entry_tmps (args : Array Value) (n : Nat) (h : args.size ≤ n) : args ++ Array.replicate (n - args.size) undef = Array.ofFn (n := n) fun i => args.getD i.1 undef := by
  apply Array.ext_getElem?
  intro i
  simp only [Array.getElem?_append, Array.getElem?_ofFn, Array.getElem?_replicate, Array.getD_eq_getD_getElem?]
  by_cases h1 : i < args.size
  · have : i < n := by omega
    simp [h1, this]
  · by_cases h2 : i < n
    · have : i - args.size < n - args.size := by omega
      simp [h1, h2, this]
    · have : ¬ i - args.size < n - args.size := by omega
      simp [h1, h2, this]
def done (P : Program) (fn : Func) (R : Value → World → Prop) : Exit → Act → World → Prop
  | .normal, a, w | .ret, a, w => a.defers = [] ∧ ∃ v, (results fn a.tmps).run P w = .ok v w ∧ R v w
  | _, _, _ => False
theorem calls_of {P : Program} {f : FuncId} {fn : Func} {c : Code} {args : Array Value} {w : World} {R : Value → World → Prop} {n : Nat} (hf : P.funcs[f]? = some fn) (hb : fn.body = some c)
    (hn : fn.ntmps = n) (hs : args.size ≤ n) (h : C none P c (done P fn R) (act n (fun t => args.getD t undef) []) w) : Calls P f args w (Ret R) := by
  refine (callsIn_wide (n := 0)).1 (callsIn_of_wp hf hb trivial ?_)
  rw [hn, entry_tmps args n hs]
  exact wpIn_mono h fun e a w hq => by cases e <;> first | exact hq | exact False.elim hq
end Sc
end
section
namespace Sc
open Go
abbrev Ent := Option (Nat × Obj)
abbrev Fact := Nat × Obj
structure Frm (X : List Nat) (w w' : World) : Prop where
  os : w'.os = w.os
  tape : w'.tape = w.tape
  output : w'.output = w.output
  size : w.heap.size ≤ w'.heap.size
  block : ∀ k, k < w.heap.size → k ∉ X → w'.heap[k]? = w.heap[k]?
theorem Frm.refl (X : List Nat) (w : World) : Frm X w w := ⟨rfl, rfl, rfl, Nat.le_refl _, fun _ _ _ => rfl⟩
theorem Frm.below {w w' : World} (h : Frm [] w w') : Go.RowKit.Below w.heap.size w w' := ⟨h.os, h.tape, h.output, h.size, fun k hk => h.block k hk (by simp)⟩
structure St (X : List Nat) (w0 w : World) (L : List Ent) (Z : List Fact) : Prop where
  frm : Frm X w0 w
  own : ∀ p, some p ∈ L → (p.1 ∈ X ∨ w0.heap.size ≤ p.1) ∧ w.heap[p.1]? = some p.2
  dis : L.Pairwise fun a b => ∀ p q, a = some p → b = some q → p.1 ≠ q.1
  ro : ∀ p ∈ Z, w0.heap.size ≤ p.1 ∧ w.heap[p.1]? = some p.2
  sep : ∀ p ∈ Z, ∀ q, some q ∈ L → q.1 ≠ p.1
def Holds (w : World) (Z : List Fact) : Prop := ∀ p ∈ Z, w.heap[p.1]? = some p.2
theorem Holds.nil (w : World) : Holds w [] := fun _ h => absurd h (by simp)
theorem Holds.app {w : World} {Z Z' : List Fact} (h : Holds w Z) (h' : Holds w Z') : Holds w (Z ++ Z') := fun p hp => (List.mem_append.1 hp).elim (h p) (h' p)
theorem Holds.cons {w : World} {p : Fact} {Z : List Fact} (h : w.heap[p.1]? = some p.2) (h' : Holds w Z) : Holds w (p :: Z) := fun q hq => (List.mem_cons.1 hq).elim (fun e => e ▸ h) (h' q)
theorem lt_of_some {w : World} {b : Nat} {o : Obj} (h : w.heap[b]? = some o) : b < w.heap.size := (Array.getElem?_eq_some_iff.1 h).1
section
variable {X : List Nat} {w0 w w' : World} {L : List Ent} {Z Z0 : List Fact}
theorem St.nil (w : World) : St [] w w [] [] := ⟨.refl _ _, (fun _ h => absurd h (by simp)), .nil, (fun _ h => absurd h (by simp)), (fun _ h => absurd h (by simp))⟩
theorem St.one {b : Nat} {o : Obj} (h : w.heap[b]? = some o) : St [b] w w [some (b, o)] [] :=
  ⟨.refl _ _, (fun p hp => by simp at hp; subst hp; exact ⟨.inl (by simp), h⟩), (by simp), (fun _ h => absurd h (by simp)), (fun _ h => absurd h (by simp))⟩
theorem St.ext (h : St X w0 w L Z) {b : Nat} {o : Obj} (h0 : w0.heap[b]? = some o) (hX : b ∉ X) : w.heap[b]? = some o :=
  (h.frm.block b (lt_of_some h0) hX).trans h0
theorem St.holds0 (h : St [] w0 w L Z) (h0 : Holds w0 Z0) : Holds w Z0 := fun p hp => h.ext (h0 p hp) (by simp)
theorem St.holdsX (h : St X w0 w L Z) (h0 : Holds w0 Z0) (hX : ∀ p ∈ Z0, p.1 ∉ X) : Holds w Z0 := fun p hp => h.ext (h0 p hp) (hX p hp)
theorem St.holdsZ (h : St X w0 w L Z) : Holds w Z := fun p hp => (h.ro p hp).2
theorem St.at (h : St X w0 w L Z) (i : Nat) {b : Nat} {o : Obj} (hi : L[i]? = some (some (b, o))) : w.heap[b]? = some o := (h.own (b, o) (List.mem_of_getElem? hi)).2
theorem Frm.trans {a b c : World} {X' : List Nat} (h : Frm X a b) (k : Frm X' b c) (hX : ∀ x ∈ X', x ∈ X ∨ a.heap.size ≤ x) : Frm X a c :=
  ⟨k.os.trans h.os, k.tape.trans h.tape, k.output.trans h.output, Nat.le_trans h.size k.size, fun i hi hn =>
    (k.block i (Nat.lt_of_lt_of_le hi h.size) (fun hx => by rcases hX i hx with hx | hx <;> first | exact hn hx | omega)).trans (h.block i hi hn)⟩
theorem St.call {Ln : List Ent} {Zn : List Fact} (h : St X w0 w L Z) (k : St [] w w' Ln Zn) : St X w0 w' (Ln ++ L) (Zn ++ Z) where
  frm := h.frm.trans k.frm (fun _ hx => absurd hx (by simp))
  own := fun p hp => by
    rcases List.mem_append.1 hp with hp | hp
    · obtain ⟨h1, h2⟩ := k.own p hp
      exact ⟨.inr (Nat.le_trans h.frm.size (h1.resolve_left (by simp))), h2⟩
    · obtain ⟨h1, h2⟩ := h.own p hp
      exact ⟨h1, (k.frm.block p.1 (lt_of_some h2) (by simp)).trans h2⟩
  dis := List.pairwise_append.2 ⟨k.dis, h.dis, fun a ha b hb p q hp hq => by
    subst hp; subst hq
    have h1 := (k.own p ha).1.resolve_left (by simp)
    have h2 := lt_of_some (h.own q hb).2
    omega⟩
  ro := fun p hp => by
    rcases List.mem_append.1 hp with hp | hp
    · obtain ⟨h1, h2⟩ := k.ro p hp
      exact ⟨Nat.le_trans h.frm.size h1, h2⟩
    · obtain ⟨h1, h2⟩ := h.ro p hp
      exact ⟨h1, (k.frm.block p.1 (lt_of_some h2) (by simp)).trans h2⟩
  sep := fun p hp q hq => by
    rcases List.mem_append.1 hp with hp | hp <;> rcases List.mem_append.1 hq with hq | hq
    · exact k.sep p hp q hq
    · have h1 := (k.ro p hp).1
      have h2 := lt_of_some (h.own q hq).2
      omega
    · have h1 := lt_of_some (h.ro p hp).2
      have h2 := (k.own q hq).1.resolve_left (by simp)
      omega
    · exact h.sep p hp q hq
theorem St.pick (h : St X w0 w L Z) (is : List Nat) (hnd : is.Nodup) : St X w0 w (is.map fun i => L.getD i none) Z where
  frm := h.frm
  own := fun p hp => by
    obtain ⟨i, hi, hip⟩ := List.mem_map.1 hp
    refine h.own p ?_
    rw [List.getD_eq_getElem?_getD] at hip
    cases hq : L[i]? with
    | none => simp [hq] at hip
    | some x => simp [hq] at hip; exact hip ▸ List.mem_of_getElem? hq
  dis := by
    rw [List.pairwise_map]
    refine hnd.imp_of_mem ?_
    intro i j _ _ hij p q hp hq
    rw [List.getD_eq_getElem?_getD] at hp hq
    cases h1 : L[i]? with
    | none => simp [h1] at hp
    | some x =>
      cases h2 : L[j]? with
      | none => simp [h2] at hq
      | some y =>
        simp [h1] at hp; simp [h2] at hq
        obtain ⟨hil, hie⟩ := List.getElem?_eq_some_iff.1 h1
        obtain ⟨hjl, hje⟩ := List.getElem?_eq_some_iff.1 h2
        subst hp; subst hq
        rcases Nat.lt_or_gt_of_ne hij with hlt | hlt
        · exact List.pairwise_iff_getElem.1 h.dis i j hil hjl hlt p q hie hje
        · exact fun e => List.pairwise_iff_getElem.1 h.dis j i hjl hil hlt q p hje hie e.symm
  ro := h.ro
  sep := fun p hp q hq => by
    obtain ⟨i, hi, hip⟩ := List.mem_map.1 hq
    refine h.sep p hp q ?_
    rw [List.getD_eq_getElem?_getD] at hip
    cases hq : L[i]? with
    | none => simp [hq] at hip
    | some x => simp [hq] at hip; exact hip ▸ List.mem_of_getElem? hq
theorem St.less (h : St X w0 w L Z) {Z' : List Fact} (hz : ∀ p ∈ Z', p ∈ Z) : St X w0 w L Z' := ⟨h.frm, h.own, h.dis, fun p hp => h.ro p (hz p hp), fun p hp => h.sep p (hz p hp)⟩
theorem St.to {L' : List Ent} (h : St X w0 w L Z) (e : L = L') : St X w0 w L' Z := e ▸ h
theorem St.shut (i : Nat) {b : Nat} {o : Obj} (h : St [] w0 w L Z) (hi : L[i]? = some (some (b, o))) : St [] w0 w (L.set i none) ((b, o) :: Z) := by
  have hb := h.own (b, o) (List.mem_of_getElem? hi)
  have hset : ∀ p, some p ∈ L.set i none → some p ∈ L ∧ p.1 ≠ b := by
    intro p hp
    obtain ⟨j, hj, hjp⟩ := List.mem_iff_getElem.1 hp
    have hjl : j < L.length := by simpa using hj
    rw [List.getElem_set] at hjp
    by_cases hij : i = j
    · simp [hij] at hjp
    · simp [hij] at hjp
      refine ⟨hjp ▸ List.getElem_mem hjl, fun e => ?_⟩
      obtain ⟨hil, hie⟩ := List.getElem?_eq_some_iff.1 hi
      rcases Nat.lt_or_gt_of_ne hij with hlt | hlt
      · exact List.pairwise_iff_getElem.1 h.dis i j hil hjl hlt (b, o) p hie hjp e.symm
      · exact List.pairwise_iff_getElem.1 h.dis j i hjl hil hlt p (b, o) hjp hie e
  refine ⟨h.frm, fun p hp => h.own p (hset p hp).1, ?_, fun p hp => ?_, fun p hp q hq => ?_⟩
  · rw [List.pairwise_iff_getElem]
    intro a c ha hc hac p q hp hq
    have ha' : a < L.length := by simpa using ha
    have hc' : c < L.length := by simpa using hc
    rw [List.getElem_set] at hp hq
    by_cases h1 : i = a
    · simp [h1] at hp
    · by_cases h2 : i = c
      · simp [h2] at hq
      · simp [h1] at hp
        simp [h2] at hq
        exact List.pairwise_iff_getElem.1 h.dis a c ha' hc' hac p q hp hq
  · rcases List.mem_cons.1 hp with rfl | hp
    · exact ⟨hb.1.resolve_left (by simp), hb.2⟩
    · exact h.ro p hp
  · rcases List.mem_cons.1 hp with rfl | hp
    · exact (hset q hq).2
    · exact h.sep p hp q (hset q hq).1
theorem St.new (h : St X w0 w L Z) (o : Obj) : St X w0 (w.alloc o) (some (w.heap.size, o) :: L) Z := by
  have k : St [] w (w.alloc o) [some (w.heap.size, o)] [] :=
    ⟨⟨rfl, rfl, rfl, by simp, fun k hk _ => heap_alloc_old w o k hk⟩, (fun p hp => by simp at hp; subst hp; exact ⟨.inr (Nat.le_refl _), heap_alloc_new w o⟩), by simp,
      (fun _ h => absurd h (by simp)), (fun _ h => absurd h (by simp))⟩
  exact h.call k
theorem St.draw (h : St X w0 w L Z) (k : Nat) : St X w0 { w with drawn := k } L Z := ⟨⟨h.frm.os, h.frm.tape, h.frm.output, h.frm.size, h.frm.block⟩, h.own, h.dis, h.ro, h.sep⟩
theorem St.turn (i : Nat) {b : Nat} {o o' : Obj} (h : St X w0 w L Z) (hi : L[i]? = some (some (b, o))) (hf : Frm [b] w w') (hn : w'.heap[b]? = some o') :
    St X w0 w' (L.set i (some (b, o'))) Z := by
  have hoth : ∀ p : Fact, p.1 ≠ b → w.heap[p.1]? = some p.2 → w'.heap[p.1]? = some p.2 := fun p hp hw => (hf.block p.1 (lt_of_some hw) (by simpa using hp)).trans hw
  have hown := h.own (b, o) (List.mem_of_getElem? hi)
  obtain ⟨hil, hie⟩ := List.getElem?_eq_some_iff.1 hi
  have hset : ∀ p, some p ∈ L.set i (some (b, o')) → p = (b, o') ∨ (some p ∈ L ∧ p.1 ≠ b) := by
    intro p hp
    obtain ⟨j, hj, hjp⟩ := List.mem_iff_getElem.1 hp
    have hjl : j < L.length := by simpa using hj
    rw [List.getElem_set] at hjp
    by_cases hij : i = j
    · simp [hij] at hjp; exact .inl hjp.symm
    · simp [hij] at hjp
      refine .inr ⟨hjp ▸ List.getElem_mem hjl, fun e => ?_⟩
      rcases Nat.lt_or_gt_of_ne hij with hlt | hlt
      · exact List.pairwise_iff_getElem.1 h.dis i j hil hjl hlt (b, _) p hie hjp e.symm
      · exact List.pairwise_iff_getElem.1 h.dis j i hjl hil hlt p (b, _) hjp hie e
  refine ⟨h.frm.trans hf (fun x hx => by simp at hx; subst hx; exact hown.1), fun p hp => ?_, ?_, fun p hp => ?_, fun p hp q hq => ?_⟩
  · rcases hset p hp with rfl | ⟨hp, hne⟩
    · exact ⟨hown.1, hn⟩
    · exact ⟨(h.own p hp).1, hoth p hne (h.own p hp).2⟩
  · rw [List.pairwise_iff_getElem]
    intro a c ha hc hac p q hp hq
    have ha' : a < L.length := by simpa using ha
    have hc' : c < L.length := by simpa using hc
    rw [List.getElem_set] at hp hq
    by_cases h1 : i = a
    · by_cases h2 : i = c
      · omega
      · simp [h1] at hp; simp [h2] at hq
        subst h1
        rw [← hp]
        exact List.pairwise_iff_getElem.1 h.dis i c hil hc' hac (b, o) q hie hq
    · by_cases h2 : i = c
      · simp [h1] at hp; simp [h2] at hq
        subst h2
        rw [← hq]
        exact List.pairwise_iff_getElem.1 h.dis a i ha' hil hac p (b, o) hp hie
      · simp [h1] at hp; simp [h2] at hq
        exact List.pairwise_iff_getElem.1 h.dis a c ha' hc' hac p q hp hq
  · exact ⟨(h.ro p hp).1, hoth p (fun e => h.sep p hp (b, o) (List.mem_of_getElem? hi) e.symm) (h.ro p hp).2⟩
  · rcases hset q hq with rfl | ⟨hq, _⟩
    · exact h.sep p hp (b, o) (List.mem_of_getElem? hi)
    · exact h.sep p hp q hq
theorem frm_setRow (w : World) (b : Nat) (cs' : Array Value) : Frm [b] w (w.setRow b cs') :=
  ⟨rfl, rfl, rfl, by simp [World.setRow], fun k _ hk => by
    simp only [World.setRow, Array.getElem?_modify]
    rw [if_neg (fun e => hk (by simp [e]))]⟩
theorem St.put (i : Nat) {b : Nat} {cs : Array Value} (cs' : Array Value) {t : TypeId} {fr : Nat × Nat} (h : St X w0 w L Z) (hi : L[i]? = some (some (b, .cells cs t fr))) :
    St X w0 (w.setRow b cs') (L.set i (some (b, .cells cs' t fr))) Z :=
  h.turn i hi (frm_setRow w b cs') (setRow_heap w b cs cs' t fr (h.at i hi))
theorem St.obj (i : Nat) {b : Nat} {o : Obj} (o' : Obj) (h : St X w0 w L Z) (hi : L[i]? = some (some (b, o))) :
    St X w0 { w with heap := w.heap.setIfInBounds b o' } (L.set i (some (b, o'))) Z :=
  h.turn i hi ⟨rfl, rfl, rfl, by simp, fun k _ hn => by
    rw [Array.getElem?_setIfInBounds_ne]; exact fun e => hn (by simp [e])⟩ (by simp [lt_of_some (h.at i hi)])
end
end Sc
end
section
namespace Sc
open Go
def aggOf (P : Program) (t : TypeId) : Option Nat :=
  match P.underlying t with
  | some (.struct _) | some (.array _ _) => (P.info? t).map (·.size)
  | _ => none
def oneOf (P : Program) (t : TypeId) : Bool :=
  match P.underlying t with
  | some (.struct _) | some (.array _ _) => false
  | some _ => ((P.info? t).map (·.size)) == some 1
  | none => false
def zeroOf (P : Program) (t : TypeId) : Option (Array Value) := (P.info? t).bind fun i => i.zero.map (·.cells)
def sliceOf (P : Program) (t : TypeId) : Option (TypeId × Nat × Nat) :=
  match P.underlying t with
  | some (.slice e) => (P.info? e).map fun i => (e, i.size, i.bytes)
  | _ => none
def arrOf (P : Program) (t : TypeId) : Option (Nat × Nat) :=
  match P.underlying t with
  | some (.array n e) => (P.info? e).map fun i => (n, i.size)
  | _ => none
def fieldOf (P : Program) (t : TypeId) (f : Nat) : Option Nat :=
  match P.underlying t with
  | some (.struct fs) => match fs[f]? with
    | some x => match P.info? x.type with
      | some i => if i.size = 0 then none else some x.offset
      | none => none
    | none => none
  | _ => none
def enters (P : Program) (f : FuncId) : Bool :=
  match P.funcs[f]? with
  | some fn => !(fn.name == "runtime.NumGoroutine") && !fn.body.isNone
  | none => false
section
variable {P : Program} {ρ : Operand → Value} {w w' : World} {ty : TypeId}
theorem ex_move {x : Operand} {v : Value} (h : ρ x = v) : Ex P ρ (.move x) ty w v w := by subst h; rfl
theorem ex_assign {x : Operand} {v : Value} (h : ρ x = v) : Ex P ρ (.assign x) ty w v w := by subst h; rfl
theorem ex_pick {c a b : Operand} {t : Bool} {v : Value} (hc : ρ c = .bool t) (h : (bif t then ρ a else ρ b) = v) : Ex P ρ (.pick c a b) ty w v w := by
  subst h
  show Sem.run P _ w = _
  cases t <;> simp [exec1, execOp, hc, asBool]
theorem ex_extract {x : Operand} {vs : Array Value} {i : Nat} {v : Value} (h : ρ x = .tuple vs) (hv : vs[i]? = some v) : Ex P ρ (.extract x i) ty w v w := by
  show Sem.run P _ w = _
  simp [exec1, execOp, h, Instr.extract, hv]
theorem ex_func {fn : Fn} {first captured : Array Operand} {a b : Array Value} (ha : first.map ρ = a) (hb : captured.map ρ = b) : Ex P ρ (.makeFunc fn first captured) ty w (.func fn a b) w := by
  subst ha; subst hb; rfl
theorem ex_nilCheck {x : Operand} {a : Addr} (h : ρ x = .pointer (some a)) : Ex P ρ (.nilCheck x) ty w (.pointer (some a)) w := by
  show Sem.run P _ w = _
  simp [exec1, execOp, h]
theorem ex_add {T T' : TypeId} {a b : Operand} {k : IntKind} {x y r : Int} (ha : ρ a = .int k x) (hb : ρ b = .int k y) (hr : r = k.wrap (x + y)) : Ex P ρ (.binOp .add T a b T') ty w (.int k r) w := by
  show Sem.run P _ w = _
  simp [exec1, execOp, ha, hb, eqGuard, binOp, Op.intArith, hr]
theorem ex_sub {T T' : TypeId} {a b : Operand} {k : IntKind} {x y r : Int} (ha : ρ a = .int k x) (hb : ρ b = .int k y) (hr : r = k.wrap (x - y)) : Ex P ρ (.binOp .sub T a b T') ty w (.int k r) w := by
  show Sem.run P _ w = _
  simp [exec1, execOp, ha, hb, eqGuard, binOp, Op.intArith, hr]
theorem ex_mul {T T' : TypeId} {a b : Operand} {k : IntKind} {x y r : Int} (ha : ρ a = .int k x) (hb : ρ b = .int k y) (hr : r = k.wrap (x * y)) : Ex P ρ (.binOp .mul T a b T') ty w (.int k r) w := by
  show Sem.run P _ w = _
  simp [exec1, execOp, ha, hb, eqGuard, binOp, Op.intArith, hr]
def isCmp : BinOp → Bool
  | .eql | .neq | .lss | .leq | .gtr | .geq => true
  | _ => false
def cmpv : BinOp → Int → Int → Bool
  | .eql, x, y => decide (x = y)
  | .neq, x, y => decide (x ≠ y)
  | .lss, x, y => decide (x < y)
  | .leq, x, y => decide (x ≤ y)
  | .gtr, x, y => decide (y < x)
  | .geq, x, y => decide (y ≤ x)
  | _, _, _ => false
theorem ex_cmp {T T' : TypeId} {op : BinOp} {a b : Operand} {k : IntKind} {x y : Int} {r : Bool} (ha : ρ a = .int k x) (hb : ρ b = .int k y) (hr : r = cmpv op x y) (ho : isCmp op = true := by rfl) :
    Ex P ρ (.binOp op T a b T') ty w (.bool r) w := by
  show Sem.run P _ w = _
  subst hr
  cases op <;> simp [isCmp] at ho <;> simp [exec1, execOp, ha, hb, eqGuard, binOp, Op.intCmp, cmpv, bne] <;> rfl
theorem ex_quo {T T' : TypeId} {a b : Operand} {k : IntKind} {x y r : Int} (ha : ρ a = .int k x) (hb : ρ b = .int k y) (h0 : y ≠ 0) (hr : r = k.wrap (x.tdiv y)) : Ex P ρ (.binOp .quo T a b T') ty w (.int k r) w := by
  show Sem.run P _ w = _
  simp [exec1, execOp, ha, hb, eqGuard, binOp, Op.intDiv, hr, h0]
theorem ex_rem {T T' : TypeId} {a b : Operand} {k : IntKind} {x y r : Int} (ha : ρ a = .int k x) (hb : ρ b = .int k y) (h0 : y ≠ 0) (hr : r = x.tmod y) : Ex P ρ (.binOp .rem T a b T') ty w (.int k r) w := by
  show Sem.run P _ w = _
  simp [exec1, execOp, ha, hb, eqGuard, binOp, Op.intDiv, hr, h0]
def bitv (op : BinOp) (k : IntKind) (x y : Int) : Int :=
  match op with
  | .and => k.wrap (BitVec.ofInt k.bits x &&& BitVec.ofInt k.bits y).toNat
  | .or => k.wrap (BitVec.ofInt k.bits x ||| BitVec.ofInt k.bits y).toNat
  | .xor => k.wrap (BitVec.ofInt k.bits x ^^^ BitVec.ofInt k.bits y).toNat
  | _ => k.wrap (BitVec.ofInt k.bits x &&& ~~~ BitVec.ofInt k.bits y).toNat
def isBit : BinOp → Bool
  | .and | .or | .xor | .andNot => true
  | _ => false
theorem ex_bit {T T' : TypeId} {op : BinOp} {a b : Operand} {k : IntKind} {x y r : Int} (ha : ρ a = .int k x) (hb : ρ b = .int k y) (hr : r = bitv op k x y) (ho : isBit op = true := by rfl) :
    Ex P ρ (.binOp op T a b T') ty w (.int k r) w := by
  show Sem.run P _ w = _
  subst hr
  cases op <;> simp [isBit] at ho <;> simp [exec1, execOp, ha, hb, eqGuard, binOp, Op.intBits, bitv]
theorem ex_shl {T T' : TypeId} {a b : Operand} {k k' : IntKind} {x y r : Int} (ha : ρ a = .int k x) (hb : ρ b = .int k' y) (h0 : 0 ≤ y) (hr : r = k.wrap (x * 2 ^ (min y.toNat k.bits))) : Ex P ρ (.binOp .shl T a b T') ty w (.int k r) w := by
  show Sem.run P _ w = _
  simp [exec1, execOp, ha, hb, eqGuard, binOp, Op.shift, hr, Int.not_lt.2 h0]
theorem ex_shr {T T' : TypeId} {a b : Operand} {k k' : IntKind} {x y r : Int} (ha : ρ a = .int k x) (hb : ρ b = .int k' y) (h0 : 0 ≤ y) (hr : r = x.fdiv (2 ^ (min y.toNat k.bits))) : Ex P ρ (.binOp .shr T a b T') ty w (.int k r) w := by
  show Sem.run P _ w = _
  simp [exec1, execOp, ha, hb, eqGuard, binOp, Op.shift, hr, Int.not_lt.2 h0]
theorem ex_neg {T : TypeId} {a : Operand} {k : IntKind} {x r : Int} (ha : ρ a = .int k x) (hr : r = k.wrap (0 - x)) : Ex P ρ (.unOp .neg T a) ty w (.int k r) w := by
  show Sem.run P _ w = _
  simp [exec1, execOp, ha, Op.unary, Op.intArith, hr]
theorem ex_com {T : TypeId} {a : Operand} {k : IntKind} {x r : Int} (ha : ρ a = .int k x) (hr : r = bitv .xor k (if k.signed then -1 else k.max) x) : Ex P ρ (.unOp .xor T a) ty w (.int k r) w := by
  show Sem.run P _ w = _
  simp [exec1, execOp, ha, Op.unary, Op.intBits, hr, bitv]
theorem ex_not {T : TypeId} {a : Operand} {t : Bool} (ha : ρ a = .bool t) : Ex P ρ (.unOp .not T a) ty w (.bool (!t)) w := by
  show Sem.run P _ w = _
  simp [exec1, execOp, ha, Op.unary]
def intOf (P : Program) (t : TypeId) : Option IntKind :=
  match P.underlying t with
  | some (.int k) => some k
  | _ => none
theorem ex_conv {S T : TypeId} {a : Operand} {k k' : IntKind} {x r : Int} (hs : intOf P S = some k) (hd : intOf P T = some k') (ha : ρ a = .int k x) (hr : r = k'.wrap x) : Ex P ρ (.convert S T a) ty w (.int k' r) w := by
  show Sem.run P _ w = _
  have h1 : P.underlying S = some (.int k) := by unfold intOf at hs; split at hs <;> simp_all
  have h2 : P.underlying T = some (.int k') := by unfold intOf at hd; split at hd <;> simp_all
  simp [exec1, execOp, ha, convert, run_underlying h1, run_underlying h2, Conv.intToInt, hr]
theorem addr_add (b o n : Nat) : (⟨b, o, none⟩ : Addr).add n = ⟨b, o + n, none⟩ := by unfold Addr.add; split <;> simp_all
theorem run_isAgg {t : TypeId} {k : Nat} (h : aggOf P t = some k) (w : World) : (isAgg t).run P w = .ok true w ∧ (Go.sizeOf t).run P w = .ok k w := by
  unfold aggOf at h
  cases hu : P.underlying t with
  | none => simp [hu] at h
  | some d =>
    cases hi : P.info? t with
    | none => cases d <;> simp [hu, hi] at h
    | some i => cases d <;> simp [hu, hi] at h <;> subst h <;> simp [isAgg, Go.sizeOf, typeInfo, run_underlying hu, hi]
theorem run_isOne {t : TypeId} (h : oneOf P t = true) (w : World) : (isAgg t).run P w = .ok false w ∧ (Go.sizeOf t).run P w = .ok 1 w := by
  unfold oneOf at h
  cases hu : P.underlying t with
  | none => simp [hu] at h
  | some d =>
    cases hi : P.info? t with
    | none => cases d <;> simp [hu, hi] at h
    | some i => cases d <;> simp [hu, hi] at h <;> simp [isAgg, Go.sizeOf, typeInfo, run_underlying hu, hi, h]
theorem cell_at {b o : Nat} {cs : Array Value} {t : TypeId} {fr : Nat × Nat} (h : w.heap[b]? = some (.cells cs t fr)) : w.cell? ⟨b, o, none⟩ = cs[o]? := by simp [World.cell?, h]
theorem ex_loads {T : TypeId} {x : Operand} {b o k : Nat} {cs : Array Value} {t : TypeId} {fr : Nat × Nat} {vs : List Value} (ha : ρ x = .pointer (some ⟨b, o, none⟩)) (hc : w.heap[b]? = some (.cells cs t fr))
    (hk : aggOf P T = some k) (hv : (cs.toList.drop o).take k = vs) (hl : vs.length = k) : Ex P ρ (.load T x) ty w (.agg vs.toArray) w := by
  show Sem.run P _ w = _
  obtain ⟨h1, h2⟩ := run_isAgg hk w
  have h3 : (loadCells ⟨b, o, none⟩ k).run P w = .ok vs.toArray w := by
    rw [← hl]
    refine run_loadCells_list (P := P) w ⟨b, o, none⟩ vs (fun j v hj => ?_)
    rw [addr_add, cell_at hc]
    subst hv
    rw [List.getElem?_take] at hj
    split at hj
    · rw [List.getElem?_drop] at hj; simpa using hj
    · cases hj
  simp [exec1, execOp, ha, Instr.loadAt, Instr.sureAddr, loadVar, h1, h2, h3]
theorem ex_load {T : TypeId} {x : Operand} {b o : Nat} {cs : Array Value} {t : TypeId} {fr : Nat × Nat} {v : Value} (ha : ρ x = .pointer (some ⟨b, o, none⟩)) (hc : w.heap[b]? = some (.cells cs t fr))
    (hk : oneOf P T = true) (hv : cs[o]? = some v) : Ex P ρ (.load T x) ty w v w := by
  show Sem.run P _ w = _
  obtain ⟨h1, h2⟩ := run_isOne hk w
  have h3 : w.cell? ⟨b, o, none⟩ = some v := (cell_at hc).trans hv
  simp [exec1, execOp, ha, Instr.loadAt, Instr.sureAddr, loadVar, h1, h3]
theorem ex_field {S : TypeId} {x : Operand} {f off b o o' : Nat} (ha : ρ x = .pointer (some ⟨b, o, none⟩)) (hf : fieldOf P S f = some off) (ho : o + off = o') :
    Ex P ρ (.fieldAddr S x f) ty w (.pointer (some ⟨b, o', none⟩)) w := by
  show Sem.run P _ w = _
  subst ho
  unfold fieldOf at hf
  cases hu : P.underlying S with
  | none => simp [hu] at hf
  | some d =>
    cases d <;> simp [hu] at hf
    rename_i fs
    cases hx : fs[f]? with
    | none => simp [hx] at hf
    | some y =>
      cases hi : P.info? y.type with
      | none => simp [hx, hi] at hf
      | some i =>
        simp [hx, hi] at hf
        obtain ⟨h0, rfl⟩ := hf
        simp [exec1, execOp, ha, Instr.fieldAt, Instr.sureAddr, run_underlying hu, hx, fieldPlace, Go.sizeOf, typeInfo, hi, h0, addr_add]
theorem arrOf_spec {t : TypeId} {n k : Nat} (h : arrOf P t = some (n, k)) : ∃ e i, P.underlying t = some (.array n e) ∧ P.info? e = some i ∧ i.size = k := by
  unfold arrOf at h
  cases hu : P.underlying t with
  | none => simp [hu] at h
  | some d =>
    cases d <;> simp [hu] at h
    obtain ⟨i, hi, hn, hk⟩ := h
    exact ⟨_, i, by rw [hn], hi, hk⟩
theorem sliceOf_spec {t e : TypeId} {k b : Nat} (h : sliceOf P t = some (e, k, b)) : ∃ i, P.underlying t = some (.slice e) ∧ P.info? e = some i ∧ i.size = k ∧ i.bytes = b := by
  unfold sliceOf at h
  cases hu : P.underlying t with
  | none => simp [hu] at h
  | some d =>
    cases d <;> simp [hu] at h
    obtain ⟨i, hi, he, hk, hb⟩ := h
    subst he
    exact ⟨i, rfl, hi, hk, hb⟩
theorem ex_index {T : TypeId} {x i : Operand} {n k b o o' : Nat} {kk : IntKind} {j : Int} (ha : ρ x = .pointer (some ⟨b, o, none⟩)) (hi : ρ i = .int kk j) (ht : arrOf P T = some (n, k))
    (h0 : 0 ≤ j) (h1 : j < n) (ho : o' = o + j.toNat * k) : Ex P ρ (.indexAddr T x i) ty w (.pointer (some ⟨b, o', none⟩)) w := by
  show Sem.run P _ w = _
  subst ho
  obtain ⟨e, ii, hu, hi', rfl⟩ := arrOf_spec ht
  simp [exec1, execOp, ha, hi, Instr.indexAt, Instr.sureAddr, run_underlying hu, asIntOf, Go.sizeOf, typeInfo, hi', h0, h1, addr_add]
theorem ex_sindex {T e : TypeId} {x i : Operand} {n c k by' b o o' : Nat} {kk : IntKind} {j : Int} (ha : ρ x = .slice (some ⟨b, o, none⟩) n c) (hi : ρ i = .int kk j) (ht : sliceOf P T = some (e, k, by'))
    (h0 : 0 ≤ j) (h1 : j < n) (ho : o' = o + j.toNat * k) : Ex P ρ (.indexAddr T x i) ty w (.pointer (some ⟨b, o', none⟩)) w := by
  show Sem.run P _ w = _
  subst ho
  obtain ⟨ii, hu, hi', rfl, rfl⟩ := sliceOf_spec ht
  simp [exec1, execOp, ha, hi, Instr.indexAt, run_underlying hu, asIntOf, Go.sizeOf, typeInfo, hi', h0, h1, addr_add]
theorem ex_len {T : TypeId} {x : Operand} {a : Option Addr} {n c : Nat} {r : Int} {e : TypeId} {k by' : Nat} (ha : ρ x = .slice a n c) (ht : sliceOf P T = some (e, k, by')) (hr : r = n) :
    Ex P ρ (.call { callee := .builtin .len, args := #[x], argTypes := #[T] }) ty w (.int .i64 r) w := by
  show Sem.run P _ w = _
  subst hr
  obtain ⟨ii, hu, hi', rfl, rfl⟩ := sliceOf_spec ht
  simp [exec1, execOp, ha, resolve, invoke, builtin, Builtin.len_, run_underlying hu, goInt]
theorem ex_max {x y : Operand} {ts : Array TypeId} {k : IntKind} {a b r : Int} (ha : ρ x = .int k a) (hb : ρ y = .int k b) (hr : r = if a < b then b else a) :
    Ex P ρ (.call { callee := .builtin .max, args := #[x, y], argTypes := ts }) ty w (.int k r) w := by
  show Sem.run P _ w = _
  subst hr
  simp [exec1, execOp, ha, hb, resolve, invoke, builtin, Builtin.max_, Builtin.max2]
theorem exe_call {f : FuncId} {xs : Array Operand} {ts : Array TypeId} {args : Array Value} (hf : enters P f = true) (ha : xs.map ρ = args) (hρ : ρ (.func f) = .func (.func f) #[] #[] := by rfl) :
    ExE P ρ (.call { callee := .value (.func f), args := xs, argTypes := ts }) ty w f args := by
  show Sem.run P _ w = _
  unfold enters at hf
  cases hq : P.funcs[f]? with
  | none => simp [hq] at hf
  | some fn =>
    simp [hq] at hf
    obtain ⟨h1, h2⟩ := hf
    have h3 : fn.body ≠ none := by intro e; simp [e] at h2
    subst ha
    simp [exec1, execOp, resolve, hρ, Deferred.ofValue, invoke, callFunc, hq, h1, h3]
theorem exe_closure {g : Operand} {f : FuncId} {xs : Array Operand} {ts : Array TypeId} {first cap args : Array Value} (hg : ρ g = .func (.func f) first cap) (hf : enters P f = true) (ha : first ++ xs.map ρ ++ cap = args) :
    ExE P ρ (.call { callee := .value g, args := xs, argTypes := ts }) ty w f args := by
  show Sem.run P _ w = _
  unfold enters at hf
  cases hq : P.funcs[f]? with
  | none => simp [hq] at hf
  | some fn =>
    simp [hq] at hf
    obtain ⟨h1, h2⟩ := hf
    have h3 : fn.body ≠ none := by intro e; simp [e] at h2
    subst ha
    simp [exec1, execOp, resolve, hg, Deferred.ofValue, invoke, callFunc, hq, h1, h3]
end
end Sc
end
section
namespace Sc
open Go
section
variable {P : Program} {ρ : Operand → Value} {w w' w0 : World} {ty : TypeId} {X : List Nat} {L : List Ent} {Z : List Fact}
theorem zeroOf_spec {t : TypeId} {cs : Array Value} (h : zeroOf P t = some cs) (w : World) : ∃ z, (zeroValue t).run P w = .ok z w ∧ z.cells = cs := by
  unfold zeroOf at h
  cases hi : P.info? t with
  | none => simp [hi] at h
  | some i =>
    cases hz : i.zero with
    | none => simp [hi, hz] at h
    | some z => simp [hi, hz] at h; exact ⟨z, by simp [zeroValue, typeInfo, hi, hz], h⟩
theorem st_alloc {T : TypeId} {cs : Array Value} (hS : St X w0 w L Z) (hz : zeroOf P T = some cs) :
    ∃ b w', Ex P ρ (.alloc T) ty w (.pointer (some ⟨b, 0, none⟩)) w' ∧ St X w0 w' (some (b, .cells cs T) :: L) Z := by
  obtain ⟨z, hrun, rfl⟩ := zeroOf_spec hz w
  refine ⟨w.heap.size, w.alloc (.cells z.cells T), ?_, hS.new _⟩
  show Sem.run P _ w = _
  simp [exec1, execOp, Instr.alloc, hrun, newVar, newRow]
theorem st_box {T : TypeId} {x : Operand} {v : Value} {cs : Array Value} (hS : St X w0 w L Z) (hx : ρ x = v) (hc : v.cells = cs) :
    ∃ b w', Ex P ρ (.box T x) ty w (.pointer (some ⟨b, 0, none⟩)) w' ∧ St X w0 w' (some (b, .cells cs T) :: L) Z := by
  subst hx; subst hc
  refine ⟨w.heap.size, w.alloc (.cells (ρ x).cells T), ?_, hS.new _⟩
  show Sem.run P _ w = _
  simp [exec1, execOp, Instr.box, newVar, newRow]
def setCells (cs : Array Value) (o : Nat) (vs : List Value) : Array Value := (cs.toList.take o ++ vs ++ cs.toList.drop (o + vs.length)).toArray
theorem run_storeVar {T t : TypeId} {b o k : Nat} {cs : Array Value} {v : Value} (hc : w.heap[b]? = some (.cells cs t (0, 0))) (hk : (Go.sizeOf T).run P w = .ok k w) (hv : v.cells.size = k)
    (hl : o + k ≤ cs.size) (h1 : ∀ x ∈ v.cells.toList, x.oneCell' = true) : (storeVar T ⟨b, o, none⟩ v).run P w = .ok () (w.setRow b (setCells cs o v.cells.toList)) := by
  have h3 := run_storeCells_at P b o t v.cells.toList 0 cs w hc (by simp; omega) h1
  simp only [Nat.add_zero] at h3
  simp [storeVar, hk, hv, h3, setCells]
theorem st_stores {T t : TypeId} {x y : Operand} {b o k : Nat} {cs cs' : Array Value} {v : Value} (i : Nat) (hS : St X w0 w L Z) (ha : ρ x = .pointer (some ⟨b, o, none⟩)) (hy : ρ y = v)
    (hi : L[i]? = some (some (b, .cells cs t (0, 0)))) (hk : aggOf P T = some k) (hv : v.cells.size = k) (hl : o + k ≤ cs.size) (h1 : ∀ x ∈ v.cells.toList, x.oneCell' = true) (hs : setCells cs o v.cells.toList = cs') :
    ∃ w', ExU P ρ (.store T x y) ty w w' ∧ St X w0 w' (L.set i (some (b, .cells cs' t (0, 0)))) Z := by
  subst hs
  refine ⟨_, ?_, hS.put i _ hi⟩
  show Sem.run P _ w = _
  have h2 := run_storeVar (hS.at i hi) (run_isAgg hk w).2 hv hl h1
  simp [exec1, execOp, ha, hy, Instr.storeAt, Instr.sureAddr, h2]
theorem st_store {T t : TypeId} {x y : Operand} {b o : Nat} {cs cs' : Array Value} {v : Value} (i : Nat) (hS : St X w0 w L Z) (ha : ρ x = .pointer (some ⟨b, o, none⟩)) (hy : ρ y = v)
    (hi : L[i]? = some (some (b, .cells cs t (0, 0)))) (hk : oneOf P T = true) (hv : v.cells = #[v]) (hl : o < cs.size) (h1 : v.oneCell' = true) (hs : cs.setIfInBounds o v = cs') :
    ∃ w', ExU P ρ (.store T x y) ty w w' ∧ St X w0 w' (L.set i (some (b, .cells cs' t (0, 0)))) Z := by
  have hs' : setCells cs o v.cells.toList = cs' := by
    subst hs
    rw [hv]
    apply Array.ext'
    simp only [setCells, Array.toList_setIfInBounds, List.set_eq_take_append_cons_drop]
    rw [if_pos (by simpa using hl)]
    simp
  subst hs'
  refine ⟨_, ?_, hS.put i _ hi⟩
  show Sem.run P _ w = _
  have h2 := run_storeVar (v := v) (o := o) (hS.at i hi) (run_isOne hk w).2 (by rw [hv]; rfl) (by omega) (by rw [hv]; simpa using h1)
  simp [exec1, execOp, ha, hy, Instr.storeAt, Instr.sureAddr, h2]
end
end Sc
end
section
namespace Sc
open Go
def Sl (Z : List Fact) (e k : Nat) (v : Value) (cs : List Value) : Prop :=
  ∃ a n cap, v = .slice a n cap ∧ cs.length = n * k ∧ n ≤ cap ∧ cap ≤ maxLen ∧
    ((n = 0 ∧ cap = 0) ∨ ∃ b o, a = some ⟨b, o, none⟩ ∧ (n = 0 ∨ ∃ arr t fr, (b, .cells arr t fr) ∈ Z ∧ o + n * k ≤ arr.size ∧ (arr.toList.drop o).take (n * k) = cs))
def OwnSl (e k : Nat) (v : Value) (n : Nat) (xs : List Value) (x : Ent) : Prop :=
  xs.length = n * k ∧ ((v = .slice none 0 0 ∧ n = 0 ∧ x = none) ∨
    ∃ b arr cap, v = .slice (some ⟨b, 0, none⟩) n cap ∧ x = some (b, .cells arr e) ∧ n ≤ cap ∧ cap ≤ maxLen ∧ arr.size = cap * k ∧ arr.toList.take (n * k) = xs)
theorem OwnSl.nil (e k : Nat) : OwnSl e k (.slice none 0 0) 0 [] none := ⟨by simp, .inl ⟨rfl, rfl, rfl⟩⟩
def entF : Ent → List Fact
  | some p => [p]
  | none => []
theorem OwnSl.sl {e k : Nat} {v : Value} {n : Nat} {xs : List Value} {x : Ent} (h : OwnSl e k v n xs x) {Z : List Fact} (hz : ∀ p, x = some p → p ∈ Z) : Sl Z e k v xs := by
  obtain ⟨hl, ⟨rfl, rfl, rfl⟩ | ⟨b, arr, cap, rfl, rfl, hn, hc, ha, ht⟩⟩ := h
  · exact ⟨none, 0, 0, rfl, hl, Nat.le_refl _, Nat.zero_le _, .inl ⟨rfl, rfl⟩⟩
  · exact ⟨_, n, cap, rfl, hl, hn, hc, .inr ⟨b, 0, rfl, .inr ⟨arr, e, (0, 0), hz _ rfl, by rw [ha, Nat.zero_add]; exact Nat.mul_le_mul_right _ hn, by simpa using ht⟩⟩⟩
theorem Sl.mono {Z Z' : List Fact} {e k : Nat} {v : Value} {cs : List Value} (h : Sl Z e k v cs) (hz : ∀ p ∈ Z, p ∈ Z') : Sl Z' e k v cs := by
  obtain ⟨a, n, cap, h1, h2, h3, h3', h4⟩ := h
  refine ⟨a, n, cap, h1, h2, h3, h3', h4.imp id ?_⟩
  rintro ⟨b, o, h5, h6⟩
  refine ⟨b, o, h5, h6.imp id ?_⟩
  rintro ⟨arr, t, fr, h7, h8⟩
  exact ⟨arr, t, fr, hz _ h7, h8⟩
theorem Sl.nil (Z : List Fact) (e k : Nat) : Sl Z e k (.slice none 0 0) [] := ⟨none, 0, 0, rfl, by simp, Nat.le_refl _, Nat.zero_le _, .inl ⟨rfl, rfl⟩⟩
section
variable {X : List Nat} {w0 w w' : World} {L : List Ent} {Z : List Fact}
theorem St.into {e : Ent} (h : St X w0 w (e :: L) Z) (i : Nat) : St X w0 w (L.set i e) Z := by
  have hp := h.pick ((List.range L.length).map fun j => if j = i then 0 else j + 1) (by
    refine List.Pairwise.map _ ?_ List.nodup_range
    intro a c hac
    simp only [ne_eq]
    split <;> split <;> omega)
  refine hp.to ?_
  apply List.ext_getElem?
  intro j
  rw [List.getElem?_map, List.getElem?_map, List.getElem?_set]
  by_cases hj : j < L.length
  · simp only [List.getElem?_range hj, Option.map_some]
    by_cases hij : j = i
    · subst hij; simp [hj]
    · have : ¬ i = j := fun e => hij e.symm
      simp [hij, this, hj]
  · have h1 : L.length ≤ j := Nat.le_of_not_lt hj
    rw [List.getElem?_eq_none (by simpa using h1)]
    by_cases hij : i = j
    · simp [hij, hj]
    · simp [hij, h1]
end
section
variable {P : Program} {ρ : Operand → Value} {w w' w0 : World} {ty : TypeId} {X : List Nat} {L : List Ent} {Z : List Fact}
theorem fact_cells {b o m k : Nat} {arr : Array Value} {e : TypeId} {fr : Nat × Nat} {cs : List Value} (h : w.heap[b]? = some (.cells arr e fr)) (ht : (arr.toList.drop o).take (m * k) = cs) :
    ∀ j u, cs[j]? = some u → w.cell? ((⟨b, o, none⟩ : Addr).add j) = some u := by
  intro j u hu
  rw [addr_add, cell_at h]
  subst ht
  rw [List.getElem?_take] at hu
  split at hu
  · rw [List.getElem?_drop] at hu; simpa using hu
  · cases hu
theorem st_append {T e k by' : Nat} {x y : Operand} {v u : Value} {n : Nat} {xs ys : List Value} {en : Ent} {zc : Array Value} {Zr : List Fact} (i : Nat) (hS : St X w0 w L Z) (hx : ρ x = v) (hy : ρ y = u)
    (hi : L[i]? = some en) (ho : OwnSl e k v n xs en) (hu : Sl Zr e k u ys) (hr : Holds w Zr) (h1 : ∀ c ∈ ys, c.oneCell' = true) (ht : sliceOf P T = some (e, k, by')) (hz : zeroOf P e = some zc) (hzs : zc.size = k)
    (hk : 0 < k) (m : Nat) (hm : ys.length = m * k) (hb : (n + m) * by' ≤ 140737488355328) (hb' : n + m ≤ maxLen) :
    ∃ (p : Value × Ent) (w' : World), Ex P ρ (.call { callee := .builtin .append, args := #[x, y], argTypes := #[T, T] }) ty w p.1 w' ∧ St X w0 w' (L.set i p.2) Z ∧ OwnSl e k p.1 (n + m) (xs ++ ys) p.2 := by
  obtain ⟨ii, hT, hi', rfl, rfl⟩ := sliceOf_spec ht
  have hzv : ∃ z, ii.zero = some z ∧ z.cells = zc := by
    unfold zeroOf at hz
    simp only [hi', Option.bind_some] at hz
    cases hq : ii.zero with
    | none => simp [hq] at hz
    | some z => simp [hq] at hz; exact ⟨z, rfl, hz⟩
  obtain ⟨z, hz', hzc⟩ := hzv
  have hrun : ∀ (r : Value) (w' : World), (Builtin.append_ #[T, T] ty #[v, u]).run P w = .ok r w' →
      Ex P ρ (.call { callee := .builtin .append, args := #[x, y], argTypes := #[T, T] }) ty w r w' := by
    intro r w' h
    show Sem.run P _ w = _
    simp [exec1, execOp, resolve, invoke, builtin, hx, hy, h]
  obtain ⟨a, m', c, rfl, hlen, hmc, _, hua⟩ := hu
  have hmm : m' = m := Nat.eq_of_mul_eq_mul_right hk (hlen.symm.trans hm)
  subst hmm
  have hmx : n + m' ≤ 9223372036854775807 := by simpa [maxLen] using hb'
  have hlen2 : (xs ++ ys).length = (n + m') * ii.size := by rw [List.length_append, ho.1, hlen, Nat.add_mul]
  rcases Nat.eq_zero_or_pos m' with hm0 | hmp
  ·
    subst hm0
    have hys : ys = [] := List.length_eq_zero_iff.1 (by simpa using hlen)
    subst hys
    refine ⟨(v, en), w, hrun _ _ ?_, ?_, by simpa using ho⟩
    · obtain ⟨_, ⟨rfl, rfl, rfl⟩ | ⟨b, arr, cap, rfl, rfl, hn, hc, ha, htk⟩⟩ := ho
      · cases a <;> simp [Builtin.append_, run_underlying hT, Go.sizeOf, typeInfo, hi', Builtin.lenOf, Builtin.firstCells, loadCells, loadCellsFrom]
      · cases a <;> simp [Builtin.append_, run_underlying hT, Go.sizeOf, typeInfo, hi', Builtin.lenOf, Builtin.firstCells, loadCells, loadCellsFrom, hn, storeCells]
    · exact hS.to (by
        apply List.ext_getElem?
        intro j
        rw [List.getElem?_set]
        by_cases hij : i = j
        · subst hij
          obtain ⟨hil, hie⟩ := List.getElem?_eq_some_iff.1 hi
          simp [hil, hie]
        · simp [hij])
  · obtain ⟨hne, _, _⟩ | ⟨bu, ou, rfl, hu0 | ⟨arru, tru, fru, hzu, hou, htu⟩⟩ := hua
    · omega
    · omega
    have hnews := fact_cells (hr _ hzu) htu
    have hlong : ∀ (old : Nat) (olds : List Value), olds.length = n * ii.size → olds = xs → ∀ (cap : Nat), cap = grownCap w (n + m') old e → n + m' ≤ cap →
        OwnSl e ii.size (.slice (some ⟨w.heap.size, 0, none⟩) (n + m') cap) (n + m') (xs ++ ys) (some (w.heap.size, .cells (olds.toArray ++ ys.toArray ++ Builtin.zeroCells z.cells (cap - (n + m'))) e)) := by
      intro old olds hol hoe cap hcap hle
      subst hoe
      refine ⟨hlen2, .inr ⟨w.heap.size, _, cap, rfl, rfl, hle, ?_, ?_, ?_⟩⟩
      · rw [hcap]; exact grownCap_le_maxLen w (n + m') old e hb'
      · simp only [Array.size_append, List.size_toArray, hol, hlen, Builtin.zeroCells, Array.size_map, Array.size_range, hzc, hzs]
        rw [← Nat.add_mul, ← Nat.add_mul]
        congr 1
        omega
      · rw [← hlen2]
        simp only [Array.toList_append, List.toList_toArray]
        exact List.take_left' rfl
    have hdr : ∀ o, St X w0 (w.drew.alloc o) (some (w.heap.size, o) :: L) Z := fun o => (hS.draw (w.drawn + 1)).new o
    obtain ⟨_, ⟨rfl, rfl, rfl⟩ | ⟨b, arr, cap, rfl, rfl, hn, hc, ha, htk⟩⟩ := ho
    ·
      have hxs : xs = [] := List.length_eq_zero_iff.1 (by omega)
      subst hxs
      have h := run_append_nil (P := P) w T ty e ii z hT hi' hz' ⟨bu, ou, none⟩ m' c ys hlen hnews hmp (by omega) (by have h5 := hb; rw [Nat.zero_add] at h5; omega)
      refine ⟨(_, some _), _, hrun _ _ h, (hdr _).into i, ?_⟩
      have := hlong 0 [] (by simp) rfl (grownCap w (0 + m') 0 e) rfl (grownCap_ge _ _ _ _)
      simpa using this
    · have hold := hS.at i hi
      by_cases hroom : n + m' ≤ cap
      ·
        have h := run_append_room (P := P) w T ty e ii hT hi' b n cap arr hold ⟨bu, ou, none⟩ m' c ys hlen hnews h1 hroom (by rw [hlen, ha, ← Nat.add_mul]; exact Nat.mul_le_mul_right _ hroom)
        refine ⟨(_, some _), _, hrun _ _ h, hS.put i _ hi, hlen2, .inr ⟨b, _, cap, rfl, rfl, hroom, hc, ?_, ?_⟩⟩
        · have h3 : n * ii.size + ys.length ≤ arr.size := by rw [hlen, ha, ← Nat.add_mul]; exact Nat.mul_le_mul_right _ hroom
          simp only [List.size_toArray, List.length_append, List.length_take, List.length_drop, Array.length_toList, ← ha]
          omega
        · rw [← hlen2, htk]
          simp only [List.toList_toArray]
          exact List.take_left' rfl
      ·
        have holds : ∀ j u, xs[j]? = some u → w.cell? ((⟨b, 0, none⟩ : Addr).add j) = some u := fact_cells hold (by simpa using htk)
        have h := run_append_grow (P := P) w T ty e ii z hT hi' hz' ⟨b, 0, none⟩ n cap xs (by assumption) holds ⟨bu, ou, none⟩ m' c ys hlen hnews (by omega) (by omega) (growslice_fits (by omega) hb)
        refine ⟨(_, some _), _, hrun _ _ h, (hdr _).into i, ?_⟩
        exact hlong cap xs (by assumption) rfl _ rfl (grownCap_ge _ _ _ _)
theorem sc_cons (l : List Value) (q : Nat) (v : Value) (vs : List Value) (h : q < l.length) :
    (l.set q v).take (q + 1) ++ vs ++ (l.set q v).drop (q + 1 + vs.length) = l.take q ++ (v :: vs) ++ l.drop (q + (vs.length + 1)) := by
  have h1 : (l.set q v).take (q + 1) = l.take q ++ [v] := by
    rw [List.set_eq_take_append_cons_drop, if_pos h, List.take_append]
    have h2 : (l.take q).length = q := by simp; omega
    rw [h2, List.take_of_length_le (by omega)]
    simp
  rw [h1, List.drop_set_of_lt (by omega), show q + 1 + vs.length = q + (vs.length + 1) from by omega]
  simp
theorem sc_app (l : List Value) (o : Nat) (a b : List Value) (h : o + a.length ≤ l.length) :
    (l.take o ++ a ++ l.drop (o + a.length)).take (o + a.length) ++ b ++ (l.take o ++ a ++ l.drop (o + a.length)).drop (o + a.length + b.length) = l.take o ++ (a ++ b) ++ l.drop (o + (a ++ b).length) := by
  have h1 : (l.take o ++ a).length = o + a.length := by simp; omega
  rw [List.take_left' h1, List.drop_append, h1, List.drop_of_length_le (by omega), List.drop_drop]
  simp only [List.nil_append, List.append_assoc, List.length_append]
  congr 4
  omega
theorem fill_list0 (j : Nat) : ∀ (cs : List Value) (s : Nat) (acc : Array Value), j + s + cs.length ≤ acc.size →
    (cs.zipIdx s).foldl (fun a (p : Value × Nat) => a.setIfInBounds (j + p.2) p.1) acc = setCells acc (j + s) cs
  | [], s, acc, h => by simp [setCells]
  | v :: cs, s, acc, h => by
    simp only [List.zipIdx_cons, List.foldl_cons]
    simp only [List.length_cons] at h
    rw [fill_list0 j cs (s + 1) _ (by simp; omega)]
    simp only [setCells, Array.toList_setIfInBounds]
    have := sc_cons acc.toList (j + s) v cs (by simp; omega)
    rw [show j + (s + 1) = j + s + 1 from rfl, this]
    rfl
theorem fill_cells (j : Nat) (cs : Array Value) (acc : Array Value) (h : j + cs.size ≤ acc.size) :
    cs.zipIdx.foldl (fun a (p : Value × Nat) => a.setIfInBounds (j + p.2) p.1) acc = setCells acc j cs.toList := by
  have := fill_list0 j cs.toList 0 acc (by simpa using h)
  rw [← Array.foldl_toList, Array.toList_zipIdx]
  simpa using this
def flat : List Value → List Value
  | [] => []
  | v :: l => v.cells.toList ++ flat l
theorem fill_list (k : Nat) : ∀ (vs : List Value) (j : Nat) (acc : Array Value), (∀ v ∈ vs, v.cells.size = k) → (j + vs.length) * k ≤ acc.size →
    Instr.fill (fun i => some (i * k, k)) acc ((vs.zipIdx j).map fun p => (p.2, p.1)) = some (setCells acc (j * k) (flat vs))
  | [], j, acc, _, hs => by
    simp [Instr.fill, setCells, flat]
  | v :: vs, j, acc, hv, hs => by
    have h1 := hv v (by simp)
    have h2 : j * k + k ≤ acc.size := by
      have : (j + 1) * k ≤ (j + (v :: vs).length) * k := Nat.mul_le_mul_right _ (by simp)
      rw [Nat.add_mul] at this
      omega
    simp only [List.zipIdx_cons, List.map_cons, Instr.fill, h1]
    rw [if_neg (by simp; omega)]
    rw [fill_cells (j * k) v.cells acc (by omega)]
    rw [fill_list k vs (j + 1) _ (fun x hx => hv x (by simp [hx])) (by
      simp only [setCells, List.size_toArray, List.length_append, List.length_take, List.length_drop, Array.length_toList, h1]
      have : (j + 1 + vs.length) = (j + (v :: vs).length) := by simp; omega
      rw [this]
      omega)]
    congr 1
    have h3 := sc_app acc.toList (j * k) v.cells.toList (flat vs) (by simp [h1]; omega)
    have h4 : v.cells.toList.length = k := by simp [h1]
    rw [h4] at h3
    simp only [setCells, flat, h4, Nat.add_mul, Nat.one_mul]
    rw [h3]
end
end Sc
end
section
namespace Sc
open Go
section
variable {P : Program} {ρ : Operand → Value} {w w' w0 : World} {ty : TypeId} {X : List Nat} {L : List Ent} {Z : List Fact}
theorem flat_length (k : Nat) : ∀ (vs : List Value), (∀ v ∈ vs, v.cells.size = k) → (flat vs).length = vs.length * k
  | [], _ => by simp [flat]
  | v :: vs, h => by
    have h1 := h v (by simp)
    simp only [flat, List.length_append, Array.length_toList, h1, flat_length k vs (fun x hx => h x (by simp [hx])), List.length_cons, Nat.add_mul, Nat.one_mul]
    omega
theorem st_bslice {T e k by' n : Nat} {parts : Array (Nat × Operand)} {vs : List Value} {zc : Array Value} (hS : St X w0 w L Z) (ht : sliceOf P T = some (e, k, by')) (hz : zeroOf P e = some zc)
    (hp : parts.toList.map (fun p => (p.1, ρ p.2)) = (vs.zipIdx 0).map fun p => (p.2, p.1)) (hv : ∀ v ∈ vs, v.cells.size = k) (hn : n = vs.length) (hb : n * k ≤ 16777216) :
    ∃ b w', Ex P ρ (.buildSlice T n parts) ty w (.slice (some ⟨b, 0, none⟩) n n) w' ∧ St X w0 w' (some (b, .cells (flat vs).toArray e) :: L) Z := by
  obtain ⟨ii, hT, hi', rfl, rfl⟩ := sliceOf_spec ht
  subst hn
  refine ⟨w.heap.size, w.alloc (.cells (flat vs).toArray e), ?_, hS.new _⟩
  show Sem.run P _ w = _
  have hp' : (parts.map fun (p : Nat × Operand) => (p.1, ρ p.2)).toList = (vs.zipIdx 0).map fun p => (p.2, p.1) := by rw [Array.toList_map]; exact hp
  have hfill : ∀ acc : Array Value, acc.size = vs.length * ii.size → Instr.fill (fun i => some (i * ii.size, ii.size)) acc ((vs.zipIdx 0).map fun p => (p.2, p.1)) = some (flat vs).toArray := by
    intro acc ha
    rw [fill_list ii.size vs 0 acc hv (by rw [ha]; simp)]
    have hfl := flat_length ii.size vs hv
    simp [setCells, ha, hfl]
  obtain ⟨z, hrun, hzc⟩ := zeroOf_spec hz w
  have hle : ¬ (16777216 < vs.length * ii.size) := by omega
  by_cases h0 : vs.length * ii.size = 0
  · simp only [exec1, execOp, Instr.buildSlice]
    simp [run_underlying hT, Go.sizeOf, typeInfo, hi', h0, newRow]
    rw [hp, hfill _ (by simp [h0])]
    simp
  · simp only [exec1, execOp, Instr.buildSlice]
    simp [run_underlying hT, Go.sizeOf, typeInfo, hi', hle, h0, newRow, hrun]
    rw [hp, hfill _ (by simp)]
    simp
theorem ex_build {T : TypeId} {parts : Array (Nat × Operand)} {vs : List (Nat × Value)} {cells : Array Value} (hp : parts.toList.map (fun p => (p.1, ρ p.2)) = vs) (hb : P.built T vs = some cells) :
    Ex P ρ (.build T parts) ty w (.agg cells) w := by
  show Sem.run P _ w = _
  have hp' : (parts.map fun (p : Nat × Operand) => (p.1, ρ p.2)).toList = vs := by rw [Array.toList_map]; exact hp
  have h := run_build (P := P) w T (parts.map fun (p : Nat × Operand) => (p.1, ρ p.2)) cells (by rw [hp']; exact hb)
  simp only [exec1, execOp]
  simp [h]
def rep (zc : List Value) : Nat → List Value
  | 0 => []
  | n + 1 => zc ++ rep zc n
theorem rep_length (zc : List Value) : ∀ n, (rep zc n).length = n * zc.length
  | 0 => by simp [rep]
  | n + 1 => by simp only [rep, List.length_append, rep_length zc n, Nat.add_mul, Nat.one_mul]; omega
theorem rep_get (zc : List Value) (h0 : 0 < zc.length) : ∀ n j, j < n * zc.length → (rep zc n)[j]? = zc[j % zc.length]?
  | 0, j, h => by simp at h
  | n + 1, j, h => by
    simp only [rep]
    rw [List.getElem?_append]
    split
    · rename_i h1; rw [Nat.mod_eq_of_lt h1]
    · rename_i h1
      rw [Nat.add_mul, Nat.one_mul] at h
      rw [rep_get zc h0 n (j - zc.length) (by omega), Nat.mod_eq_sub_mod (a := j) (by omega)]
theorem range_rep (zc : Array Value) (n : Nat) (h0 : 0 < zc.size) : (Array.range (n * zc.size)).map (fun j => zc[j % zc.size]!) = (rep zc.toList n).toArray := by
  apply Array.ext_getElem?
  intro j
  simp only [Array.getElem?_map, List.getElem?_toArray]
  by_cases hj : j < n * zc.size
  · have h1 : (Array.range (n * zc.size))[j]? = some j := by simp [hj]
    have h2 := rep_get zc.toList (by simpa using h0) n j (by simpa using hj)
    rw [h1, h2]
    have h3 : j % zc.size < zc.size := Nat.mod_lt _ h0
    simp [h3]
  · have h1 : (Array.range (n * zc.size))[j]? = none := by simp; omega
    have h2 : (rep zc.toList n)[j]? = none := by rw [List.getElem?_eq_none]; rw [rep_length]; simpa using hj
    rw [h1, h2]; rfl
theorem wrap_i64 {z : Int} (h : -9223372036854775808 ≤ z ∧ z ≤ 9223372036854775807) : IntKind.i64.wrap z = z := by
  rw [IntKind.wrap_i64]; omega
theorem st_make {T e k by' : Nat} {l c : Int} {x y : Operand} {kx ky : IntKind} {zc : Array Value} (hS : St X w0 w L Z) (ht : sliceOf P T = some (e, k, by')) (hz : zeroOf P e = some zc) (hzk : zc.size = k) (hk : 0 < k)
    (hx : ρ x = .int kx l) (hy : ρ y = .int ky c) (h0 : 0 ≤ l) (hlc : l ≤ c) (hb : (by' : Int) * c ≤ 281474976710656) (hc : c ≤ 9223372036854775807) :
    ∃ b w', Ex P ρ (.makeSlice T x y) ty w (.slice (some ⟨b, 0, none⟩) l.toNat c.toNat) w' ∧ St X w0 w' (some (b, .cells (rep zc.toList c.toNat).toArray e) :: L) Z := by
  obtain ⟨ii, hT, hi', rfl, rfl⟩ := sliceOf_spec ht
  have hzv : ∃ z, ii.zero = some z ∧ z.cells = zc := by
    unfold zeroOf at hz
    simp only [hi', Option.bind_some] at hz
    cases hq : ii.zero with
    | none => simp [hq] at hz
    | some z => simp [hq] at hz; exact ⟨z, rfl, hz⟩
  obtain ⟨z, hz', rfl⟩ := hzv
  have h := run_make (P := P) w T e ii z hT hi' hz' kx ky l c h0 hlc hb hc
  rw [show madeCells z.cells (c.toNat * ii.size) = (rep z.cells.toList c.toNat).toArray by rw [← hzk]; exact range_rep z.cells c.toNat (by omega)] at h
  refine ⟨w.heap.size, _, ?_, hS.new _⟩
  show Sem.run P _ w = _
  simp [exec1, execOp, hx, hy, h]
end
end Sc
end
section
namespace Sc
open Go
def mS (m : Nat → Value) (S : Nat → Bool) : Nat → List (Option Nat × Value) → Nat → Value
  | _, [], t => m t
  | k, (some d, v) :: l, t => bif Nat.beq t d then (bif S k then v else m t) else mS m S (k + 1) l t
  | k, (none, _) :: l, t => mS m S (k + 1) l t
def AllT (S : Nat → Bool) : List Nat → Prop
  | [] => True
  | k :: l => S k = true ∧ AllT S l
def bindsB (e : Edge) : Bool := match e.ground with | .textOnly _ | .gcOnly _ => false | _ => true
def predsOf (o : Oper) : List Nat := o.after.toList.filterMap fun e => if bindsB e then some e.on else none
theorem AllT.iff {S : Nat → Bool} : ∀ {l : List Nat}, AllT S l ↔ ∀ k ∈ l, S k = true
  | [] => by simp [AllT]
  | k :: l => by simp [AllT, AllT.iff (l := l)]
theorem binds_any (e : Edge) : Region.binds .any e = bindsB e := by
  unfold Region.binds bindsB
  cases e.ground <;> rfl
section
variable {ro : Option Nat} {P : Program} {ops : Array Oper} {Q : Exit → Act → World → Prop} {n : Nat} {m : Nat → Value} {ds : List Deferred}
def Does (P : Program) (ops : Array Oper) (n : Nat) (m : Nat → Value) (ds : List Deferred) (o : Oper) (w : World) (R : Value → World → Prop) : Prop :=
  (Region.wanted o (yielded ops (act n m ds).tmps) = true ∧ isDefer o.op = false ∧
    ((∃ v w', Ex P (ev n m) o.op o.type w v w' ∧ R v w') ∨ (∃ w', ExU P (ev n m) o.op o.type w w' ∧ R undef w') ∨
     (∃ f args, ExE P (ev n m) o.op o.type w f args ∧ Calls P f args w (Ret R)))) ∨
  (Region.wanted o (yielded ops (act n m ds).tmps) = false ∧ R undef w)
theorem Does.wp {o : Oper} {w : World} {R : Value → World → Prop} {i : Nat} {K : Act → World → Prop} (hi : ops[i]? = some o) (h : Does P ops n m ds o w R)
    (hk : ∀ v w', R v w' → K (act n (updO m o.dst v) ds) w') : wpOpIn (FR ro) 0 P ops Q i K (act n m ds) w := by
  unfold wpOpIn
  simp only [hi]
  rcases h with ⟨hw, hd, h⟩ | ⟨hw, hR⟩
  · simp only [hw, if_true]
    refine ⟨fun _ _ => trivial, ?_⟩
    rw [semAt_eq _ _ _ hd, eval_act]
    rcases h with ⟨v, w', hx, hR⟩ | ⟨w', hx, hR⟩ | ⟨f, args, hx, hc⟩
    · rw [show Sem.run P (exec1 (ev n m) o.op o.type) w = _ from hx]
      simp only [Oper.uponIn, put_act]
      exact hk _ _ hR
    · rw [show Sem.run P (exec1 (ev n m) o.op o.type) w = _ from hx]
      simp only [Oper.uponIn, put_act]
      exact hk _ _ hR
    · rw [show Sem.run P (exec1 (ev n m) o.op o.type) w = _ from hx]
      simp only [Oper.uponIn]
      refine ⟨(fun h => by cases h), CallsIn.mono (callsIn_of hc) fun e w' he => ?_⟩
      cases e with
      | returned v => simp only [put_act]; exact hk v w' he
      | panicked => exact he.elim
      | outgrown => exact he.elim
  · simp only [hw, Bool.false_eq_true, if_false, put_act]
    exact ⟨fun _ _ => trivial, hk _ _ hR⟩
def lst (listed : Array Bool) (k : Nat) : Bool := listed.getD k false
structure At (ops : Array Oper) (p : Nat) (G E : List Nat) (fuel : Nat) (listed : Array Bool) : Prop where
  size : listed.size = ops.size
  fuel : fuel + (listed.toList.countP id) = ops.size
  later : ∀ k, p ≤ k → lst listed k = false
  none : ∀ g ∈ G, lst listed g = false
  done : ∀ g ∈ E, lst listed g = true
  closed : ∀ k o, ops[k]? = some o → lst listed k = true → AllT (lst listed) (predsOf o)
def Node (ro : Option Nat) (P : Program) (ops : Array Oper) (Q : Exit → Act → World → Prop) (n : Nat) (m : Nat → Value) (ds : List Deferred) (p : Nat) (l : List (Option Nat × Value)) (G E : List Nat) (J : World → Prop) : Prop :=
  ∀ fuel listed w, At ops p G E fuel listed → J w → wpAnyIn (FR ro) 0 P .any ops Q fuel listed (act n (mS m (lst listed) 0 l) ds) w
def goodL (ops : Array Oper) (p : Nat) (l : List (Option Nat × Value)) : Prop := l.map (·.1) = (ops.toList.take p).map (·.dst) ∧ (l.filterMap (·.1)).Nodup
theorem mS_congr (m : Nat → Value) (S S' : Nat → Bool) : ∀ (l : List (Option Nat × Value)) (k : Nat), (∀ j, k ≤ j → j < k + l.length → S j = S' j) → mS m S k l = mS m S' k l
  | [], k, _ => rfl
  | (none, v) :: l, k, h => by
    have := mS_congr m S S' l (k + 1) (fun j h1 h2 => h j (by omega) (by simp; omega))
    funext t
    simp only [mS, this]
  | (some d, v) :: l, k, h => by
    have := mS_congr m S S' l (k + 1) (fun j h1 h2 => h j (by omega) (by simp; omega))
    funext t
    simp only [mS, this, h k (Nat.le_refl _) (by simp)]
theorem beqF {a b : Nat} (h : a ≠ b) : Nat.beq a b = false := by
  cases hb : Nat.beq a b with
  | false => rfl
  | true => exact absurd (Nat.eq_of_beq_eq_true hb) h
theorem mS_step (m : Nat → Value) (S S' : Nat → Bool) (k : Nat) (hk' : S' k = true) (hoth : ∀ j, j ≠ k → S' j = S j) (d : Option Nat) (v : Value) :
    ∀ (l : List (Option Nat × Value)) (off i : Nat), k = off + i → (l[i]?).map (·.1) = some d → (l.filterMap (·.1)).Nodup →
      updO (mS m S off l) d v = mS m S' off (l.set i (d, v))
  | [], off, i, _, h, _ => by simp at h
  | (e, u) :: l, off, 0, hk, h, hn => by
    simp only [List.getElem?_cons_zero, Option.map_some, Option.some.injEq] at h
    subst h
    simp only [Nat.add_zero] at hk
    subst hk
    have hc : mS m S (k + 1) l = mS m S' (k + 1) l := mS_congr m S S' l (k + 1) (fun j h1 _ => (hoth j (by omega)).symm)
    cases e with
    | none => simp only [updO, List.set_cons_zero]; funext t; simp only [mS, hc]
    | some d =>
      funext t
      simp only [updO, upd, List.set_cons_zero, mS, hk', cond_true, hc]
      cases Nat.beq t d <;> rfl
  | (e, u) :: l, off, i + 1, hk, h, hn => by
    simp only [List.getElem?_cons_succ] at h
    have hn' : (l.filterMap (·.1)).Nodup := by
      cases e with
      | none => simpa using hn
      | some e0 => exact (List.nodup_cons.1 (show (e0 :: l.filterMap (·.1)).Nodup from hn)).2
    have ih := mS_step m S S' k hk' hoth d v l (off + 1) i (by omega) h hn'
    have hso : S' off = S off := hoth off (by omega)
    funext t
    have iht := congrFun ih t
    cases e with
    | none =>
      cases d with
      | none => simp only [updO, List.set_cons_succ, mS] at iht ⊢; exact iht
      | some d0 => simp only [updO, upd, List.set_cons_succ, mS] at iht ⊢; exact iht
    | some e0 =>
      cases d with
      | none =>
        simp only [updO, List.set_cons_succ, mS, hso] at iht ⊢
        rw [iht]
      | some d0 =>
        have hne : e0 ≠ d0 := by
          have hn2 := (List.nodup_cons.1 (show (e0 :: l.filterMap (·.1)).Nodup from hn)).1
          intro he
          subst he
          refine hn2 (List.mem_filterMap.2 ?_)
          cases hq : l[i]? with
          | none => simp [hq] at h
          | some x => simp [hq] at h; exact ⟨x, List.mem_of_getElem? hq, h⟩
        simp only [updO, upd, List.set_cons_succ, mS, hso] at iht ⊢
        by_cases ht : t = e0
        · subst ht
          rw [beqF hne, Nat.beq_refl]
          rfl
        · rw [beqF ht]
          exact iht
theorem lst_set {listed : Array Bool} {k : Nat} (hk : k < listed.size) : lst (listed.setIfInBounds k true) k = true := by
  simp [lst, Array.getD_eq_getD_getElem?, hk]
theorem lst_set_ne {listed : Array Bool} {k j : Nat} (h : j ≠ k) : lst (listed.setIfInBounds k true) j = lst listed j := by
  simp only [lst, Array.getD_eq_getD_getElem?]
  rw [Array.getElem?_setIfInBounds_ne (fun e => h e.symm)]
theorem ready_mem {listed : Array Bool} {k : Nat} (h : k ∈ Region.ready .any ops listed) (hs : listed.size = ops.size) : k < ops.size ∧ lst listed k = false ∧ ∃ o, ops[k]? = some o ∧ AllT (lst listed) (predsOf o) := by
  unfold Region.ready at h
  simp only [List.mem_filter, List.mem_range, Bool.and_eq_true, Bool.not_eq_true'] at h
  obtain ⟨h1, h2, h3⟩ := h
  refine ⟨h1, ?_, ?_⟩
  · have : k < listed.size := by omega
    simp only [lst, Array.getD_eq_getD_getElem?] at h2 ⊢
    simp [this] at h2 ⊢
    exact h2
  · cases ho : ops[k]? with
    | none => simp [ho] at h3
    | some o =>
      refine ⟨o, rfl, AllT.iff.2 ?_⟩
      simp only [ho, Option.map_some, Option.getD_some, Array.all_eq_true_iff_forall_mem] at h3
      intro j hj
      obtain ⟨e, he, hej⟩ := List.mem_filterMap.1 hj
      have := h3 e (by simpa using he)
      split at hej
      · rename_i hb
        cases hej
        simpa [binds_any, hb, lst] using this
      · cases hej
theorem mem_ready {listed : Array Bool} {k : Nat} {o : Oper} (h1 : k < ops.size) (hl : lst listed k = false) (hs : listed.size = ops.size) (ho : ops[k]? = some o) (hp : AllT (lst listed) (predsOf o)) :
    k ∈ Region.ready .any ops listed := by
  unfold Region.ready
  simp only [List.mem_filter, List.mem_range, Bool.and_eq_true, Bool.not_eq_true']
  have hk : k < listed.size := by omega
  refine ⟨h1, ?_, ?_⟩
  · simp only [lst, Array.getD_eq_getD_getElem?] at hl ⊢
    simp [hk] at hl ⊢
    exact hl
  · simp only [ho, Option.map_some, Option.getD_some, Array.all_eq_true_iff_forall_mem]
    intro e he
    by_cases hb : bindsB e = true
    · have := AllT.iff.1 hp e.on (List.mem_filterMap.2 ⟨e, by simpa using he, by simp [hb]⟩)
      simp only [lst] at this
      simp [binds_any, hb, this]
    · simp [binds_any, hb]
theorem countP_set (l : List Bool) (k : Nat) (hk : l[k]? = some false) : (l.set k true).countP id = l.countP id + 1 := by
  induction l generalizing k with
  | nil => simp at hk
  | cons b l ih =>
    cases k with
    | zero => simp at hk; subst hk; simp
    | succ k => simp at hk; simp [List.countP_cons, ih k hk]; omega
theorem At.step {p fuel k : Nat} {G G' E E' : List Nat} {listed : Array Bool} {o : Oper} (h : At ops p G E (fuel + 1) listed) (hk : k < ops.size) (hp : k < p) (hl : lst listed k = false) (ho : ops[k]? = some o)
    (hpr : AllT (lst listed) (predsOf o)) (hG : ∀ g ∈ G', g ∈ G ∧ g ≠ k) (hE : ∀ g ∈ E', g ∈ E ∨ g = k) : At ops p G' E' fuel (listed.setIfInBounds k true) where
  size := by simp [h.size]
  fuel := by
    have h1 := h.fuel
    have h2 : listed.toList[k]? = some false := by
      have : k < listed.size := by rw [h.size]; exact hk
      simp only [lst, Array.getD_eq_getD_getElem?] at hl
      simp [this] at hl ⊢
      exact hl
    rw [Array.toList_setIfInBounds, countP_set _ _ h2]
    omega
  later := fun j hj => by rw [lst_set_ne (by omega)]; exact h.later j hj
  none := fun g hg => by
    obtain ⟨h1, h2⟩ := hG g hg
    rw [lst_set_ne h2]; exact h.none g h1
  done := fun g hg => by
    by_cases hgk : g = k
    · subst hgk; exact lst_set (by rw [h.size]; exact hk)
    · rw [lst_set_ne hgk]; exact h.done g ((hE g hg).resolve_right hgk)
  closed := fun j o' hj hlj => by
    have hks : k < listed.size := by rw [h.size]; exact hk
    have hmono : ∀ {l : List Nat}, AllT (lst listed) l → AllT (lst (listed.setIfInBounds k true)) l := fun hl => AllT.iff.2 fun x hx => by
      by_cases hxk : x = k
      · subst hxk; exact lst_set hks
      · rw [lst_set_ne hxk]; exact AllT.iff.1 hl x hx
    by_cases hjk : j = k
    · subst hjk
      rw [ho] at hj; cases hj
      exact hmono hpr
    · rw [lst_set_ne hjk] at hlj
      exact hmono (h.closed j o' hj hlj)
def barrier (ops : Array Oper) (p : Nat) : Bool := (List.range ops.size).all fun i => match ops[i]? with | some o => ((predsOf o).all fun j => decide (j < i)) && (decide (i < p) || (List.range i).all fun j => (predsOf o).contains j) | none => false
theorem suffix_sound (p : Nat) (hb : barrier ops p = true) : ∀ (r q fuel : Nat) (listed : Array Bool) (a : Act) (w : World), ops.size = q + r → p ≤ q → listed.size = ops.size → r ≤ fuel → (∀ j, j < q → lst listed j = true) →
    (∀ j, q ≤ j → lst listed j = false) → wpL ro P ops Q (ops.toList.drop q) a w → wpAnyIn (FR ro) 0 P .any ops Q fuel listed a w := by
  have hbar : ∀ i o, p ≤ i → ops[i]? = some o → ∀ j, j < i → j ∈ predsOf o := by
    intro i o hi ho j hj
    unfold barrier at hb
    have h1 := List.all_eq_true.1 hb i (by simp; exact (Array.getElem?_eq_some_iff.1 ho).1)
    simp only [ho, Bool.and_eq_true, Bool.or_eq_true, decide_eq_true_eq] at h1
    rcases h1.2 with h1 | h1
    · omega
    · have h2 := List.all_eq_true.1 h1 j (by simpa using hj)
      simpa using h2
  have hbel : ∀ i o, ops[i]? = some o → ∀ j ∈ predsOf o, j < i := by
    intro i o ho j hj
    unfold barrier at hb
    have h1 := List.all_eq_true.1 hb i (by simp; exact (Array.getElem?_eq_some_iff.1 ho).1)
    simp only [ho, Bool.and_eq_true] at h1
    simpa using List.all_eq_true.1 h1.1 j hj
  intro r
  induction r with
  | zero =>
    intro q fuel listed a w hq hp hs hf ht hn h
    have hr : Region.ready .any ops listed = [] := by
      apply List.eq_nil_iff_forall_not_mem.2
      intro k hk
      obtain ⟨h1, h2, _⟩ := ready_mem hk hs
      rw [ht k (by omega)] at h2
      cases h2
    rw [List.drop_of_length_le (by simp; omega)] at h
    cases fuel with
    | zero => exact ⟨hr, h⟩
    | succ fuel => exact ⟨fun _ => h, fun i hi => by rw [hr] at hi; cases hi⟩
  | succ r ih =>
    intro q fuel listed a w hq hp hs hf ht hn h
    have hlt : q < ops.size := by omega
    obtain ⟨fuel, rfl⟩ : ∃ f, fuel = f + 1 := ⟨fuel - 1, by omega⟩
    have hdrop : ops.toList.drop q = ops[q] :: ops.toList.drop (q + 1) := by
      rw [List.drop_eq_getElem_cons (by simpa using hlt)]; simp
    rw [hdrop] at h
    have honly : ∀ k ∈ Region.ready .any ops listed, k = q := by
      intro k hk
      obtain ⟨h1, h2, o, ho, hpr⟩ := ready_mem hk hs
      have hqk : q ≤ k := by
        rcases Nat.lt_or_ge k q with h3 | h3
        · rw [ht k h3] at h2; cases h2
        · exact h3
      rcases Nat.lt_or_ge q k with h3 | h3
      · have := AllT.iff.1 hpr q (hbar k o (by omega) ho q h3)
        rw [hn q (Nat.le_refl _)] at this
        cases this
      · omega
    have hoq : ops[q]? = some ops[q] := by simp [hlt]
    refine ⟨fun hr => ?_, fun i hi => ?_⟩
    · have : q ∈ Region.ready .any ops listed := mem_ready hlt (hn q (Nat.le_refl _)) hs hoq (AllT.iff.2 fun j hj => ht j (hbel q _ hoq j hj))
      rw [hr] at this; cases this
    · obtain rfl := honly i hi
      have hcont : ∀ a w, wpL ro P ops Q (ops.toList.drop (i + 1)) a w → wpAnyIn (FR ro) 0 P .any ops Q fuel (listed.setIfInBounds i true) a w := fun a w hh =>
        ih (i + 1) fuel _ a w (by omega) (by omega) (by simp [hs]) (by omega) (fun j hj => by
          by_cases hji : j = i
          · subst hji; exact lst_set (by omega)
          · rw [lst_set_ne hji]; exact ht j (by omega)) (fun j hj => by rw [lst_set_ne (by omega)]; exact hn j (by omega)) hh
      unfold wpOpIn
      simp only [hoq]
      obtain ⟨hw1, hw2⟩ := h
      split
      · rename_i hw; exact Oper.wpIn_mono hcont (hw1 hw)
      · rename_i hw; exact ⟨fun _ _ => trivial, hcont _ _ (hw2 (by simpa using hw))⟩
def hangs (ops : Array Oper) (k : Nat) (Ds : List Nat) : Bool := Ds.all fun j => match ops[j]? with
  | some o => (predsOf o).any fun i => (k :: Ds).contains i
  | none => false
def sameL (D : List Nat) : Nat → List (Option Nat × Value) → List (Option Nat × Value) → Prop
  | _, [], [] => True
  | k, (d, v) :: l, (d', v') :: l' => d = d' ∧ (bif D.contains k then True else v = v') ∧ sameL D (k + 1) l l'
  | _, _, _ => False
theorem sameL_fst {D : List Nat} : ∀ {l l' : List (Option Nat × Value)} {k : Nat}, sameL D k l l' → l.map (·.1) = l'.map (·.1)
  | [], [], _, _ => rfl
  | (d, v) :: l, (d', v') :: l', k, h => by obtain ⟨rfl, _, h⟩ := h; simp [sameL_fst h]
  | [], _ :: _, _, h => h.elim
  | _ :: _, [], _, h => h.elim
theorem mS_same (m : Nat → Value) (S : Nat → Bool) (D : List Nat) : ∀ (l l' : List (Option Nat × Value)) (k : Nat), sameL D k l l' → (∀ j ∈ D, k ≤ j → S j = false) → mS m S k l = mS m S k l'
  | [], [], _, _, _ => rfl
  | (d, v) :: l, (d', v') :: l', k, h, hD => by
    obtain ⟨rfl, h1, h2⟩ := h
    have ih := mS_same m S D l l' (k + 1) h2 (fun j hj hk => hD j hj (by omega))
    cases d with
    | none => funext t; simp only [mS, ih]
    | some d =>
      cases hc : D.contains k with
      | true =>
        have hS := hD k (by simpa using hc) (Nat.le_refl _)
        funext t; simp only [mS, ih, hS]
        cases Nat.beq t d <;> rfl
      | false =>
        rw [hc] at h1
        obtain rfl : v = v' := h1
        funext t; simp only [mS, ih]
  | [], _ :: _, _, h, _ => h.elim
  | _ :: _, [], _, h, _ => h.elim
theorem hangs_off {k : Nat} {Ds : List Nat} {S : Nat → Bool} (hD : hangs ops k Ds = true) (hc : ∀ j o, ops[j]? = some o → S j = true → (∀ x ∈ predsOf o, x < j) ∧ AllT S (predsOf o)) (hk : S k = false) : ∀ j ∈ k :: Ds, S j = false := by
  intro j
  induction j using Nat.strongRecOn with
  | _ j ih =>
    intro hj
    rcases List.mem_cons.1 hj with rfl | hj
    · exact hk
    · cases hs : S j with
      | false => rfl
      | true =>
        have h1 := List.all_eq_true.1 hD j hj
        cases ho : ops[j]? with
        | none => rw [ho] at h1; cases h1
        | some o =>
          rw [ho] at h1
          obtain ⟨i, hi, hm⟩ := List.any_eq_true.1 h1
          obtain ⟨h2, h3⟩ := hc j o ho hs
          have h4 := AllT.iff.1 h3 i hi
          rw [ih i (h2 i hi) (by simpa using hm)] at h4
          cases h4
theorem node (p : Nat) (hb : barrier ops p = true) (hp : p ≤ ops.size) (l : List (Option Nat × Value)) (hl : goodL ops p l) (G E : List Nat) (hG : ∀ g ∈ G, g < p) (J : World → Prop)
    (hdet : ∀ k o, ops[k]? = some o → k < p → k ∉ G → k ∉ E → ∀ S w, S k = false → (∀ g ∈ G, S g = false) → AllT S (predsOf o) → (∀ j, p ≤ j → S j = false) → (∀ j o', ops[j]? = some o' → S j = true → AllT S (predsOf o')) → J w →
      Does P ops n (mS m S 0 l) ds o w fun v w' => l[k]? = some (o.dst, v) ∧ J w')
    (hgh : ∀ k o, ops[k]? = some o → k ∈ G → ∀ S w, S k = false → (∀ g ∈ G, S g = false) → AllT S (predsOf o) → (∀ j, p ≤ j → S j = false) → (∀ j o', ops[j]? = some o' → S j = true → AllT S (predsOf o')) → J w →
      Does P ops n (mS m S 0 l) ds o w fun v w' => ∃ J' l' Ds, J' w' ∧ hangs ops k Ds = true ∧ sameL (k :: Ds) 0 l l' ∧ l'[k]? = some (o.dst, v) ∧ Node ro P ops Q n m ds p l' (G.filter (· != k)) (k :: E) J')
    (hsuf : G = [] → ∀ w, J w → wpL ro P ops Q (ops.toList.drop p) (act n (mS m (fun k => decide (k < p)) 0 l) ds) w) : Node ro P ops Q n m ds p l G E J := by
  have hlen : l.length = p := by
    have := congrArg List.length hl.1
    simpa [Nat.min_eq_left hp] using this
  have hbel : ∀ i o, ops[i]? = some o → ∀ j ∈ predsOf o, j < i := by
    intro i o ho j hj
    unfold barrier at hb
    have h1 := List.all_eq_true.1 hb i (by simp; exact (Array.getElem?_eq_some_iff.1 ho).1)
    simp only [ho, Bool.and_eq_true] at h1
    simpa using List.all_eq_true.1 h1.1 j hj
  have hfst : ∀ k o, ops[k]? = some o → k < p → (l[k]?).map (·.1) = some o.dst := by
    intro k o ho hk
    have h1 : (l.map (·.1))[k]? = ((ops.toList.take p).map (·.dst))[k]? := by rw [hl.1]
    rw [List.getElem?_map, List.getElem?_map, List.getElem?_take, if_pos hk] at h1
    rw [h1]
    simp [ho]
  have hcnt : ∀ (bs : List Bool) (q : Nat), (∀ j, q ≤ j → bs.getD j false = false) → bs.countP id ≤ q := by
    intro bs
    induction bs with
    | nil => intro q _; simp
    | cons b bs ih =>
      intro q h
      cases q with
      | zero =>
        have hb0 : b = false := h 0 (Nat.le_refl _)
        have := ih 0 (fun j hj => h (j + 1) (by omega))
        subst hb0
        simpa using this
      | succ q =>
        have := ih q (fun j hj => h (j + 1) (by omega))
        rw [List.countP_cons]
        split <;> omega
  have hcall : ∀ (bs : List Bool), bs.countP id = bs.length → ∀ j, j < bs.length → bs.getD j false = true := by
    intro bs hc j hj
    have := (List.countP_eq_length.1 hc) bs[j] (List.getElem_mem hj)
    simp [List.getD_eq_getElem?_getD, hj]
    simpa using this
  intro fuel
  induction fuel with
  | zero =>
    intro listed w hA hJ
    have h1 : listed.toList.countP id = listed.toList.length := by have := hA.fuel; simp [hA.size] at this ⊢; omega
    have hall : ∀ j, j < p → lst listed j = true := fun j hj => by
      have := hcall _ h1 j (by simp [hA.size]; omega)
      simpa [lst, Array.getD_eq_getD_getElem?, List.getD_eq_getElem?_getD] using this
    have hG0 : G = [] := List.eq_nil_iff_forall_not_mem.2 fun g hg => by have h2 := hall g (hG g hg); rw [hA.none g hg] at h2; cases h2
    have hpe : ops.size = p := by
      rcases Nat.lt_or_ge p ops.size with h2 | h2
      · have h3 := hcall _ h1 p (by simp [hA.size]; omega)
        have h4 := hA.later p (Nat.le_refl _)
        simp [lst, Array.getD_eq_getD_getElem?] at h4
        simp [List.getD_eq_getElem?_getD, h4] at h3
      · omega
    refine suffix_sound p hb (ops.size - p) p 0 listed _ w (by omega) (Nat.le_refl _) hA.size (by omega) hall hA.later ?_
    rw [mS_congr m (lst listed) (fun k => decide (k < p)) l 0 (fun j _ h2 => by rw [hall j (by omega)]; simp; omega)]
    exact hsuf hG0 w hJ
  | succ fuel ih =>
    intro listed w hA hJ
    by_cases hall : ∀ j, j < p → lst listed j = true
    · have hG0 : G = [] := List.eq_nil_iff_forall_not_mem.2 fun g hg => by have h2 := hall g (hG g hg); rw [hA.none g hg] at h2; cases h2
      have hc := hcnt listed.toList p (fun j hj => by have := hA.later j hj; simpa [lst, Array.getD_eq_getD_getElem?, List.getD_eq_getElem?_getD] using this)
      have hf := hA.fuel
      refine suffix_sound p hb (ops.size - p) p (fuel + 1) listed _ w (by omega) (Nat.le_refl _) hA.size (by omega) hall hA.later ?_
      rw [mS_congr m (lst listed) (fun k => decide (k < p)) l 0 (fun j _ h2 => by rw [hall j (by omega)]; simp; omega)]
      exact hsuf hG0 w hJ
    · have hex : ∃ j, j < p ∧ lst listed j = false ∧ ∀ i, i < j → lst listed i = true := by
        have hmin : ∀ q, q ≤ p → (∀ j, j < q → lst listed j = true) ∨ ∃ j, j < q ∧ lst listed j = false ∧ ∀ i, i < j → lst listed i = true := by
          intro q
          induction q with
          | zero => intro _; exact .inl fun j hj => by omega
          | succ q ihq =>
            intro hq
            rcases ihq (by omega) with h1 | ⟨j, h1, h2, h3⟩
            · by_cases hq' : lst listed q = true
              · refine .inl fun j hj => ?_
                rcases Nat.lt_or_ge j q with h4 | h4
                · exact h1 j h4
                · obtain rfl : j = q := by omega
                  exact hq'
              · exact .inr ⟨q, by omega, by simpa using hq', h1⟩
            · exact .inr ⟨j, by omega, h2, h3⟩
        rcases hmin p (Nat.le_refl _) with h1 | h1
        · exact absurd h1 hall
        · exact h1
      obtain ⟨j0, hj0, hj0f, hj0m⟩ := hex
      have hoj : ops[j0]? = some ops[j0] := by simp
      refine ⟨fun hr => ?_, fun i hi => ?_⟩
      · have := mem_ready (by omega) hj0f hA.size hoj (AllT.iff.2 fun x hx => hj0m x (hbel j0 _ hoj x hx))
        rw [hr] at this
        cases this
      · obtain ⟨h1, h2, o, ho, hpr⟩ := ready_mem hi hA.size
        have hip : i < p := by
          rcases Nat.lt_or_ge i p with h3 | h3
          · exact h3
          · exfalso
            unfold barrier at hb
            have h4 := List.all_eq_true.1 hb i (by simpa using h1)
            simp only [ho, Bool.and_eq_true, Bool.or_eq_true, decide_eq_true_eq] at h4
            rcases h4.2 with h5 | h5
            · omega
            · have h6 := List.all_eq_true.1 h5 j0 (by simp; omega)
              have h7 := AllT.iff.1 hpr j0 (by simpa using h6)
              rw [hj0f] at h7; cases h7
        by_cases hiG : i ∈ G
        · refine (hgh i o ho hiG (lst listed) w h2 hA.none hpr hA.later hA.closed hJ).wp ho ?_
          rintro v w' ⟨J', l', Ds, hJ', hD, hsm, hlk, hN⟩
          have hoff : ∀ j ∈ i :: Ds, lst listed j = false := hangs_off hD (fun j o' ho' hj => ⟨fun x hx => hbel j o' ho' x hx, hA.closed j o' ho' hj⟩) h2
          have hfs := sameL_fst hsm
          rw [mS_same m (lst listed) (i :: Ds) l l' 0 hsm (fun j hj _ => hoff j hj)]
          have hst := mS_step m (lst listed) (lst (listed.setIfInBounds i true)) i (lst_set (by rw [hA.size]; exact h1)) (fun j hj => lst_set_ne hj) o.dst v l' 0 i (by omega) (by rw [hlk]; rfl) (by
            have e1 : ∀ q : List (Option Nat × Value), q.filterMap (·.1) = (q.map (·.1)).filterMap id := fun q => by rw [List.filterMap_map]; rfl
            rw [e1, ← hfs, ← e1]; exact hl.2)
          rw [hst]
          have hset' : l'.set i (o.dst, v) = l' := by
            apply List.ext_getElem?
            intro j
            rw [List.getElem?_set]
            by_cases hij : i = j
            · subst hij
              obtain ⟨hil, hie⟩ := List.getElem?_eq_some_iff.1 hlk
              simp [hil, hie]
            · simp [hij]
          rw [hset']
          exact hN fuel _ w' (hA.step h1 hip h2 ho hpr (fun g hg => by simp at hg; exact hg) (fun g hg => (List.mem_cons.1 hg).symm)) hJ'
        · refine (hdet i o ho hip hiG (fun hiE => by rw [hA.done i hiE] at h2; cases h2) (lst listed) w h2 hA.none hpr hA.later hA.closed hJ).wp ho ?_
          rintro v w' ⟨hv, hJ'⟩
          have hst := mS_step m (lst listed) (lst (listed.setIfInBounds i true)) i (lst_set (by rw [hA.size]; exact h1)) (fun j hj => lst_set_ne hj) o.dst v l 0 i (by omega) (hfst i o ho hip) hl.2
          rw [hst]
          have hset : l.set i (o.dst, v) = l := by
            apply List.ext_getElem?
            intro j
            rw [List.getElem?_set]
            by_cases hij : i = j
            · subst hij
              obtain ⟨hil, hie⟩ := List.getElem?_eq_some_iff.1 hv
              simp [hil, hie]
            · simp [hij]
          rw [hset]
          exact ih _ w' (hA.step h1 hip h2 ho hpr (fun g hg => ⟨hg, fun e => hiG (e ▸ hg)⟩) (fun g hg => .inl hg)) hJ'
theorem C_draw {id p : Nat} {w : World} {l : List (Option Nat × Value)} {G : List Nat} {J : World → Prop} (hm : P.follows .mixedOrders = true) (h : Node ro P ops Q n m ds p l G [] J) (hJ : J { w with drawn := w.drawn + 1 }) :
    C ro P (.region id ops true) Q (act n m ds) w := by
  refine wpIn_region_any hm ?_
  have h0 : ∀ k, lst (Array.replicate ops.size false) k = false := by
    intro k
    simp only [lst, Array.getD_eq_getD_getElem?, Array.getElem?_replicate]
    split <;> rfl
  have := h ops.size (Array.replicate ops.size false) _ ⟨by simp, by simp [List.countP_replicate], fun k _ => h0 k, fun k _ => h0 k, (fun _ h => absurd h (by simp)), fun k o _ hk => by rw [h0] at hk; cases hk⟩ hJ
  have he : mS m (lst (Array.replicate ops.size false)) 0 l = m := by
    have : ∀ (l : List (Option Nat × Value)) (k : Nat), mS m (lst (Array.replicate ops.size false)) k l = m := by
      intro l
      induction l with
      | nil => intro k; rfl
      | cons x l ih =>
        intro k
        obtain ⟨d, v⟩ := x
        cases d with
        | none => funext t; simp only [mS]; rw [ih]
        | some d => funext t; simp only [mS, h0, ih]; cases Nat.beq t d <;> rfl
    exact this l 0
  rw [he] at this
  exact this
end
end Sc
end
section
namespace Sc
open Go
section
variable {P : Program} {n : Nat} {m : Nat → Value} {w : World} {fn : Func} {R : Value → World → Prop}
def resv (P : Program) (n : Nat) (m : Nat → Value) (w : World) : ResultVar → Value → Prop
  | .tmp t, v => ev n m (.tmp t) = v
  | .cell a T, v => ∃ p, ev n m (.tmp a) = .pointer (some p) ∧ (loadVar T p).run P w = .ok v w
theorem getD_tmps (ds : List Deferred) (t : Nat) : (act n m ds).tmps.getD t undef = ev n m (.tmp t) := getD_act n m ds t
def readR (tmps : Array Value) : ResultVar → Sem Value
  | .tmp t => pure (tmps.getD t undef)
  | .cell a t => do loadVar t (← asAddr (tmps.getD a undef))
theorem run_res (r : ResultVar) (v : Value) (ds : List Deferred) (h : resv P n m w r v) : (readR (act n m ds).tmps r).run P w = .ok v w := by
  cases r with
  | tmp t => simp only [resv] at h; subst h; simp only [readR]; rw [getD_tmps]; rfl
  | cell a T =>
    obtain ⟨p, h1, h2⟩ := h
    simp only [readR, getD_tmps, h1]
    simp [asAddr, h2]
theorem results_eq (fn : Func) (tmps : Array Value) : results fn tmps = (do
    let vs ← fn.results.mapM (readR tmps)
    pure (if h : vs.size = 1 then vs[0] else .tuple vs)) := by
  unfold results
  congr 1
theorem results_0 (hr : fn.results = #[]) (ds : List Deferred) : (results fn (act n m ds).tmps).run P w = .ok (.tuple #[]) w := by
  simp [results, hr]
theorem results_1 {r : ResultVar} {v : Value} (hr : fn.results = #[r]) (h : resv P n m w r v) (ds : List Deferred) : (results fn (act n m ds).tmps).run P w = .ok v w := by
  have h1 := run_res r v ds h
  rw [results_eq, hr]
  simp [h1]
theorem results_2 {r1 r2 : ResultVar} {v1 v2 : Value} (hr : fn.results = #[r1, r2]) (h1 : resv P n m w r1 v1) (h2 : resv P n m w r2 v2) (ds : List Deferred) : (results fn (act n m ds).tmps).run P w = .ok (.tuple #[v1, v2]) w := by
  have e1 := run_res r1 v1 ds h1
  have e2 := run_res r2 v2 ds h2
  rw [results_eq, hr]
  simp [e1, e2]
theorem done_0n (hr : fn.results = #[]) (h : R (.tuple #[]) w) : done P fn R .normal (act n m []) w := ⟨rfl, _, results_0 hr [], h⟩
theorem done_1 {r : ResultVar} {v : Value} (hr : fn.results = #[r]) (h1 : resv P n m w r v) (h : R v w) : done P fn R .ret (act n m []) w := ⟨rfl, _, results_1 hr h1 [], h⟩
theorem done_2 {r1 r2 : ResultVar} {v1 v2 : Value} (hr : fn.results = #[r1, r2]) (h1 : resv P n m w r1 v1) (h2 : resv P n m w r2 v2) (h : R (.tuple #[v1, v2]) w) : done P fn R .ret (act n m []) w := ⟨rfl, _, results_2 hr h1 h2 [], h⟩
theorem res_row {a T b k : Nat} {cs : Array Value} {t : TypeId} {fr : Nat × Nat} (ha : ev n m (.tmp a) = .pointer (some ⟨b, 0, none⟩)) (hc : w.heap[b]? = some (.cells cs t fr)) (hk : aggOf P T = some k) (hs : cs.size = k) :
    resv P n m w (.cell a T) (.agg cs) := by
  refine ⟨_, ha, ?_⟩
  obtain ⟨h1, h2⟩ := run_isAgg hk w
  have h3 : (loadCells ⟨b, 0, none⟩ k).run P w = .ok cs w := by
    have := run_loadCells_list (P := P) w ⟨b, 0, none⟩ cs.toList (fun j v hj => by rw [addr_add, cell_at hc]; simpa using hj)
    simpa [hs] using this
  simp [loadVar, h1, h2, h3]
end
theorem w64 {z r : Int} (h : r = z) (hb : -9223372036854775808 ≤ z ∧ z ≤ 9223372036854775807) : r = IntKind.i64.wrap z := by rw [h, wrap_i64 hb]
theorem wu64 {z r : Int} (h : r = z % 18446744073709551616) : r = IntKind.u64.wrap z := by rw [h, IntKind.wrap_u64]
end Sc
end
section
namespace Sc
open Go
section
variable {ro : Option Nat} {P : Program} {ops : Array Oper} {Q : Exit → Act → World → Prop} {rest : List Oper} {n : Nat} {m : Nat → Value} {ds : List Deferred} {w w' w0 : World}
  {dst : Option Nat} {op : Op} {ty : TypeId} {pos : String} {af : Array Edge}
theorem sqE {α : Type} {φ : α → World → Prop} {v : α → Value} (hx : ∃ a w', Ex P (ev n m) op ty w (v a) w' ∧ φ a w') (h : ∀ a w', φ a w' → wpL ro P ops Q rest (act n (updO m dst (v a)) ds) w') (hd : isDefer op = false := by rfl) :
    wpL ro P ops Q (⟨dst, op, ty, pos, af, none⟩ :: rest) (act n m ds) w := by
  obtain ⟨a, w', h1, h2⟩ := hx
  exact sqv h1 (h a w' h2) hd
theorem sqUE {φ : World → Prop} (hx : ∃ w', ExU P (ev n m) op ty w w' ∧ φ w') (h : ∀ w', φ w' → wpL ro P ops Q rest (act n (updO m dst undef) ds) w') (hd : isDefer op = false := by rfl) :
    wpL ro P ops Q (⟨dst, op, ty, pos, af, none⟩ :: rest) (act n m ds) w := by
  obtain ⟨w', h1, h2⟩ := hx
  exact squ h1 (h w' h2) hd
theorem bool_cases (b : Bool) : b = true ∨ b = false := by cases b <;> simp
theorem act_upds {l : List (Nat × Value)} (h : allAre m l) : act n m ds = act n (upds m l) ds := by rw [upds_self l h.mem]
theorem ones_of {vs : List Value} (h : vs.all (·.oneCell') = true) : ∀ x ∈ vs, x.oneCell' = true := fun x hx => List.all_eq_true.1 h x hx
theorem St.none {X : List Nat} {L : List Ent} {Z : List Fact} (h : St X w0 w L Z) : St X w0 w [] Z := h.pick [] (by simp)
theorem args_of0 {ρ : Operand → Value} : (#[] : Array Operand).map ρ = #[] := by simp
theorem args_of1 {ρ : Operand → Value} {a : Operand} {x : Value} (h1 : ρ a = x) : #[a].map ρ = #[x] := by simp [h1]
theorem args_of2 {ρ : Operand → Value} {a b : Operand} {x y : Value} (h1 : ρ a = x) (h2 : ρ b = y) : #[a, b].map ρ = #[x, y] := by simp [h1, h2]
theorem args_of3 {ρ : Operand → Value} {a b c : Operand} {x y z : Value} (h1 : ρ a = x) (h2 : ρ b = y) (h3 : ρ c = z) : #[a, b, c].map ρ = #[x, y, z] := by simp [h1, h2, h3]
theorem args_of4 {ρ : Operand → Value} {a b c d : Operand} {x y z u : Value} (h1 : ρ a = x) (h2 : ρ b = y) (h3 : ρ c = z) (h4 : ρ d = u) : #[a, b, c, d].map ρ = #[x, y, z, u] := by simp [h1, h2, h3, h4]
theorem args_of5 {ρ : Operand → Value} {a b c d e : Operand} {x y z u v : Value} (h1 : ρ a = x) (h2 : ρ b = y) (h3 : ρ c = z) (h4 : ρ d = u) (h5 : ρ e = v) : #[a, b, c, d, e].map ρ = #[x, y, z, u, v] := by simp [h1, h2, h3, h4, h5]
def U (ro : Option Nat) (P : Program) (c : Code) (Q : Exit → Act → World → Prop) : Nat → Act → World → Prop
  | 0 => fun _ _ => False
  | k + 1 => C ro P c (thn (U ro P c Q k) Q)
theorem C_unroll (k : Nat) {c : Code} {a : Act} (h : U ro P c Q k a w) : C ro P (.loop c) Q a w := by
  refine C_loop (fun k a w => U ro P c Q k a w) k h ?_
  intro k a w hk
  cases k with
  | zero => exact hk.elim
  | succ k =>
    refine wpIn_mono hk fun e a w hq => ?_
    cases e with
    | normal => exact ⟨k, Nat.lt_succ_self k, hq⟩
    | _ => exact hq
def lk : List (Option Nat × Value) → Nat → Nat → Option (Nat × Value)
  | [], _, _ => none
  | (some d, v) :: l, k, t => bif Nat.beq t d then some (k, v) else lk l (k + 1) t
  | (none, _) :: l, k, t => lk l (k + 1) t
theorem mS_lk (m : Nat → Value) (S : Nat → Bool) (t : Nat) {j : Nat} {v : Value} (hj : S j = true) : ∀ (l : List (Option Nat × Value)) (k : Nat), lk l k t = some (j, v) → mS m S k l t = v
  | [], k, h => by cases h
  | (some d, u) :: l, k, h => by
    simp only [lk] at h
    simp only [mS]
    cases hb : Nat.beq t d with
    | true => simp [hb] at h; obtain ⟨rfl, rfl⟩ := h; simp [hj]
    | false => simp [hb] at h; simpa using mS_lk m S t hj l (k + 1) h
  | (none, u) :: l, k, h => mS_lk m S t hj l (k + 1) h
theorem evS {S : Nat → Bool} {l : List (Option Nat × Value)} {t j : Nat} {v : Value} (hj : S j = true) (hl : lk l 0 t = some (j, v)) (hn : Nat.ble (t + 1) n = true) : ev n (mS m S 0 l) (.tmp t) = v := by
  simp only [ev, hn, cond_true]
  exact mS_lk m S t hj l 0 hl
def Dets (P : Program) (ops : Array Oper) (n : Nat) (m : Nat → Value) (ds : List Deferred) (l : List (Option Nat × Value)) (J : World → Prop) (S : Nat → Bool) (w : World) : Nat → List Oper → Prop
  | _, [] => True
  | k, o :: os => (AllT S (predsOf o) → Does P ops n (mS m S 0 l) ds o w fun v w' => l[k]? = some (o.dst, v) ∧ J w') ∧ Dets P ops n m ds l J S w (k + 1) os
theorem Dets.at {l : List (Option Nat × Value)} {J : World → Prop} {S : Nat → Bool} : ∀ (os : List Oper) (k j : Nat) (o : Oper), Dets P ops n m ds l J S w k os → os[j]? = some o → AllT S (predsOf o) →
    Does P ops n (mS m S 0 l) ds o w fun v w' => l[k + j]? = some (o.dst, v) ∧ J w'
  | [], k, j, o, _, h, _ => by simp at h
  | o' :: os, k, 0, o, hd, h, hp => by simp at h; subst h; exact hd.1 hp
  | o' :: os, k, j + 1, o, hd, h, hp => by
    have := Dets.at os (k + 1) j o hd.2 (by simpa using h) hp
    rw [show k + (j + 1) = k + 1 + j from by omega]
    exact this
end
section
variable {ro : Option Nat} {P : Program} {ops : Array Oper} {Q : Exit → Act → World → Prop} {n : Nat} {m : Nat → Value} {ds : List Deferred}
def Post (ro : Option Nat) (P : Program) (ops : Array Oper) (Q : Exit → Act → World → Prop) (n : Nat) (m : Nat → Value) (ds : List Deferred) (p : Nat) (l : List (Option Nat × Value)) (G E : List Nat) (k : Nat) (d : Option Nat) (v : Value) (w' : World) : Prop :=
  ∃ J' l' Ds, J' w' ∧ hangs ops k Ds = true ∧ sameL (k :: Ds) 0 l l' ∧ l'[k]? = some (d, v) ∧ Node ro P ops Q n m ds p l' (G.filter (· != k)) (k :: E) J'
def Non (ops : Array Oper) (S : Nat → Bool) (k : Nat) : Prop := ∀ q o', ops[q]? = some o' → (predsOf o').contains k = true → S q = false
theorem mS_lkN (m : Nat → Value) (S : Nat → Bool) (t : Nat) {j : Nat} {v : Value} (hj : S j = false) : ∀ (l : List (Option Nat × Value)) (k : Nat), lk l k t = some (j, v) → mS m S k l t = m t
  | [], k, h => by cases h
  | (some d, u) :: l, k, h => by
    simp only [lk, mS] at *
    cases hb : Nat.beq t d with
    | true => simp [hb] at h; obtain ⟨rfl, rfl⟩ := h; simp [hj]
    | false => simp [hb] at h; simpa using mS_lkN m S t hj l (k + 1) h
  | (none, u) :: l, k, h => mS_lkN m S t hj l (k + 1) h
theorem evN {S : Nat → Bool} {l : List (Option Nat × Value)} {t j : Nat} {v u : Value} (hj : S j = false) (hl : lk l 0 t = some (j, u)) (hn : Nat.ble (t + 1) n = true) (hv : m t = v) : ev n (mS m S 0 l) (.tmp t) = v := by
  simp only [ev, hn, cond_true]
  rw [mS_lkN m S t hj l 0 hl, hv]
def DetG (P : Program) (ops : Array Oper) (n : Nat) (m : Nat → Value) (ds : List Deferred) (l : List (Option Nat × Value)) (J : World → Prop) (D : List Nat) (S : Nat → Bool) (w : World) : Nat → List Oper → Prop
  | _, [] => True
  | k, o :: os => (bif D.contains k then True else (AllT S (predsOf o) → Non ops S k → Does P ops n (mS m S 0 l) ds o w fun v w' => l[k]? = some (o.dst, v) ∧ J w')) ∧ DetG P ops n m ds l J D S w (k + 1) os
def GhG (ro : Option Nat) (P : Program) (ops : Array Oper) (Q : Exit → Act → World → Prop) (n : Nat) (m : Nat → Value) (ds : List Deferred) (p : Nat) (l : List (Option Nat × Value)) (G E B : List Nat) (S : Nat → Bool) (w : World) : Nat → List Oper → Prop
  | _, [] => True
  | k, o :: os => (bif G.contains k && !B.contains k then (AllT S (predsOf o) → Non ops S k → Does P ops n (mS m S 0 l) ds o w (Post ro P ops Q n m ds p l G E k o.dst)) else True) ∧ GhG ro P ops Q n m ds p l G E B S w (k + 1) os
theorem DetG.at {l : List (Option Nat × Value)} {J : World → Prop} {D : List Nat} {S : Nat → Bool} {w : World} : ∀ (os : List Oper) (k j : Nat) (o : Oper), DetG P ops n m ds l J D S w k os → os[j]? = some o → D.contains (k + j) = false → AllT S (predsOf o) → Non ops S (k + j) →
    Does P ops n (mS m S 0 l) ds o w fun v w' => l[k + j]? = some (o.dst, v) ∧ J w'
  | [], k, j, o, _, h, _, _, _ => by simp at h
  | o' :: os, k, 0, o, hd, h, hD, hp, hn => by
    simp at h; subst h
    have := hd.1
    rw [Nat.add_zero] at hD
    rw [hD] at this
    exact this hp hn
  | o' :: os, k, j + 1, o, hd, h, hD, hp, hn => by
    have := DetG.at os (k + 1) j o hd.2 (by simpa using h) (by rw [← hD]; congr 1; omega) hp (by rw [show k + 1 + j = k + (j + 1) from by omega]; exact hn)
    rw [show k + (j + 1) = k + 1 + j from by omega]
    exact this
theorem GhG.at {p : Nat} {l : List (Option Nat × Value)} {G E B : List Nat} {S : Nat → Bool} {w : World} : ∀ (os : List Oper) (k j : Nat) (o : Oper), GhG ro P ops Q n m ds p l G E B S w k os → os[j]? = some o → G.contains (k + j) = true → B.contains (k + j) = false → AllT S (predsOf o) → Non ops S (k + j) →
    Does P ops n (mS m S 0 l) ds o w (Post ro P ops Q n m ds p l G E (k + j) o.dst)
  | [], k, j, o, _, h, _, _, _, _ => by simp at h
  | o' :: os, k, 0, o, hd, h, hG, hB, hp, hn => by
    simp at h; subst h
    have := hd.1
    rw [Nat.add_zero] at hG hB
    rw [hG, hB] at this
    exact this hp hn
  | o' :: os, k, j + 1, o, hd, h, hG, hB, hp, hn => by
    have := GhG.at os (k + 1) j o hd.2 (by simpa using h) (by rw [← hG]; congr 1; omega) (by rw [← hB]; congr 1; omega) hp (by rw [show k + 1 + j = k + (j + 1) from by omega]; exact hn)
    rw [show k + (j + 1) = k + 1 + j from by omega]
    exact this
def hangsG (ops : Array Oper) (G B : List Nat) : Bool := B.all fun j => match ops[j]? with
  | some o => (predsOf o).any fun i => (G ++ B).contains i
  | none => false
theorem node1 (p : Nat) (G E B : List Nat) {l : List (Option Nat × Value)} {J : World → Prop} (hb : barrier ops p = true) (hp : Nat.ble p ops.size = true) (hl : l.map (·.1) = (ops.toList.take p).map (·.dst)) (hn : (l.filterMap (·.1)).Nodup)
    (hG : G.all (fun g => decide (g < p)) = true) (hB : hangsG ops G B = true)
    (hd : ∀ S w, J w → DetG P ops n m ds l J (G ++ (E ++ B)) S w 0 (ops.toList.take p))
    (hg : ∀ S w, J w → GhG ro P ops Q n m ds p l G E B S w 0 (ops.toList.take p))
    (hs : G = [] → ∀ w, J w → wpL ro P ops Q (ops.toList.drop p) (act n (mS m (fun k => decide (k < p)) 0 l) ds) w) : Node ro P ops Q n m ds p l G E J := by
  have hGp : ∀ g ∈ G, g < p := fun g hg' => by simpa using List.all_eq_true.1 hG g hg'
  have hbel : ∀ i o, ops[i]? = some o → ∀ j ∈ predsOf o, j < i := by
    intro i o ho j hj
    unfold barrier at hb
    have h1 := List.all_eq_true.1 hb i (by simp; exact (Array.getElem?_eq_some_iff.1 ho).1)
    simp only [ho, Bool.and_eq_true] at h1
    simpa using List.all_eq_true.1 h1.1 j hj
  have hblk : ∀ (S : Nat → Bool), (∀ g ∈ G, S g = false) → (∀ j o', ops[j]? = some o' → S j = true → AllT S (predsOf o')) → ∀ j, B.contains j = true → S j = false ∧ ∀ o, ops[j]? = some o → ¬ AllT S (predsOf o) := by
    intro S hS hC j
    induction j using Nat.strongRecOn with
    | _ j ih =>
      intro hj
      have h1 := List.all_eq_true.1 hB j (by simpa using hj)
      cases ho : ops[j]? with
      | none => rw [ho] at h1; cases h1
      | some o =>
        rw [ho] at h1
        obtain ⟨i, hi, hm⟩ := List.any_eq_true.1 h1
        have hSi : S i = false := by
          have h2 : i ∈ G ∨ i ∈ B := by simpa using hm
          rcases h2 with h2 | h2
          · exact hS i h2
          · exact (ih i (hbel j o ho i hi) (by simpa using h2)).1
        have hna : ¬ AllT S (predsOf o) := fun h3 => by have := AllT.iff.1 h3 i hi; rw [hSi] at this; cases this
        refine ⟨?_, fun o' ho' => by cases ho'; exact hna⟩
        cases hs' : S j with
        | false => rfl
        | true => exact absurd (hC j o ho hs') hna
  refine node p hb (by rw [Nat.ble_eq] at hp; exact hp) l ⟨hl, hn⟩ G E hGp J (fun k o ho hk hkG hkE S w hSk hSG hpr _ hC hJ => ?_) (fun k o ho hkG S w hSk hSG hpr _ hC hJ => ?_) hs
  · have hkB : B.contains k = false := by
      cases hq : B.contains k with
      | false => rfl
      | true => exact absurd hpr ((hblk S hSG hC k hq).2 o ho)
    have := DetG.at (ops.toList.take p) 0 k o (hd S w hJ) (by rw [List.getElem?_take, if_pos hk]; simpa using ho) (by
      rw [Nat.zero_add]
      cases hq : (G ++ (E ++ B)).contains k with
      | false => rfl
      | true =>
        have h2 : k ∈ G ∨ k ∈ E ∨ k ∈ B := by simpa using hq
        rcases h2 with h2 | h2 | h2
        · exact absurd h2 hkG
        · exact absurd h2 hkE
        · rw [List.contains_iff_mem.2 h2] at hkB; cases hkB) hpr (by
      intro q o' ho' hq
      rw [Nat.zero_add] at hq
      cases hs' : S q with
      | false => rfl
      | true => have := AllT.iff.1 (hC q o' ho' hs') k (List.contains_iff_mem.1 hq); rw [hSk] at this; cases this)
    rw [Nat.zero_add] at this
    exact this
  · have hkB : B.contains k = false := by
      cases hq : B.contains k with
      | false => rfl
      | true => exact absurd hpr ((hblk S hSG hC k hq).2 o ho)
    have hk := hGp k hkG
    have := GhG.at (ops.toList.take p) 0 k o (hg S w hJ) (by rw [List.getElem?_take, if_pos hk]; simpa using ho) (by rw [Nat.zero_add]; exact List.contains_iff_mem.2 hkG) (by rw [Nat.zero_add]; exact hkB) hpr (by
      intro q o' ho' hq
      rw [Nat.zero_add] at hq
      cases hs' : S q with
      | false => rfl
      | true => have := AllT.iff.1 (hC q o' ho' hs') k (List.contains_iff_mem.1 hq); rw [hSk] at this; cases this)
    rw [Nat.zero_add] at this
    exact this
theorem wanted_none {o : Oper} {m : Nat → Value} (hg : o.guard = none) : Region.wanted o (yielded ops (act n m ds).tmps) = true := by simp [Region.wanted, hg]
theorem wanted_yes {o : Oper} {m : Nat → Value} {j d : Nat} {b : Bool} (hg : o.guard = some (j, b)) (hj : (ops[j]?).bind (·.dst) = some d) (hv : ev n m (.tmp d) = .bool b) : Region.wanted o (yielded ops (act n m ds).tmps) = true := by
  simp [Region.wanted, hg, yielded_act (ds := ds) hj hv]
theorem wanted_no {o : Oper} {m : Nat → Value} {j d : Nat} {b b' : Bool} (hg : o.guard = some (j, b)) (hj : (ops[j]?).bind (·.dst) = some d) (hv : ev n m (.tmp d) = .bool b') (hb : b' ≠ b) : Region.wanted o (yielded ops (act n m ds).tmps) = false := by
  simp [Region.wanted, hg, yielded_act (ds := ds) hj hv, hb]
section
variable {l : List (Option Nat × Value)} {J : World → Prop} {S : Nat → Bool} {o : Oper} {k : Nat} {w : World} {R : Value → World → Prop}
theorem dx {v : Value} {w' : World} (hw : Region.wanted o (yielded ops (act n m ds).tmps) = true) (hd : isDefer o.op = false) (hx : Ex P (ev n m) o.op o.type w v w') (h : R v w') : Does P ops n m ds o w R := .inl ⟨hw, hd, .inl ⟨v, w', hx, h⟩⟩
theorem dxE {α : Type} {φ : α → World → Prop} {v : α → Value} (hw : Region.wanted o (yielded ops (act n m ds).tmps) = true) (hd : isDefer o.op = false) (hx : ∃ a w', Ex P (ev n m) o.op o.type w (v a) w' ∧ φ a w') (h : ∀ a w', φ a w' → R (v a) w') : Does P ops n m ds o w R := by
  obtain ⟨a, w', h1, h2⟩ := hx
  exact .inl ⟨hw, hd, .inl ⟨_, w', h1, h a w' h2⟩⟩
theorem dxA {φ : Value × Option (Nat × Obj) → World → Prop} (hw : Region.wanted o (yielded ops (act n m ds).tmps) = true) (hd : isDefer o.op = false) (hx : ∃ (q : Value × Option (Nat × Obj)) (w' : World), Ex P (ev n m) o.op o.type w q.1 w' ∧ φ q w') (h : ∀ v en w', φ (v, en) w' → R v w') : Does P ops n m ds o w R := by
  obtain ⟨⟨v, en⟩, w', h1, h2⟩ := hx
  exact .inl ⟨hw, hd, .inl ⟨_, w', h1, h v en w' h2⟩⟩
theorem dxU {φ : World → Prop} (hw : Region.wanted o (yielded ops (act n m ds).tmps) = true) (hd : isDefer o.op = false) (hx : ∃ w', ExU P (ev n m) o.op o.type w w' ∧ φ w') (h : ∀ w', φ w' → R undef w') : Does P ops n m ds o w R := by
  obtain ⟨w', h1, h2⟩ := hx
  exact .inl ⟨hw, hd, .inr (.inl ⟨w', h1, h w' h2⟩)⟩
theorem dxC {f : FuncId} {args : Array Value} {T : Value → World → Prop} (hw : Region.wanted o (yielded ops (act n m ds).tmps) = true) (hd : isDefer o.op = false) (hx : ExE P (ev n m) o.op o.type w f args) (hc : Calls P f args w (Ret T)) (h : ∀ v w', T v w' → R v w') : Does P ops n m ds o w R :=
  .inl ⟨hw, hd, .inr (.inr ⟨f, args, hx, hc.mono fun e w' he => by
    cases e with
    | returned v => exact h v w' he
    | panicked => exact he.elim
    | outgrown => exact he.elim⟩)⟩
theorem dxS (hw : Region.wanted o (yielded ops (act n m ds).tmps) = false) (h : R undef w) : Does P ops n m ds o w R := .inr ⟨hw, h⟩
end
end
def limb (x : Nat) (i : Nat) : Int := ((x / 2 ^ (64 * i) % 18446744073709551616 : Nat) : Int)
def el (x : Nat) : List Value := [.int .u64 (limb x 0), .int .u64 (limb x 1), .int .u64 (limb x 2), .int .u64 (limb x 3)]
def elV (x : Nat) : Value := .agg (el x).toArray
theorem limb_nonneg (x i : Nat) : 0 ≤ limb x i := by unfold limb; omega
theorem limb_lt (x i : Nat) : limb x i < 18446744073709551616 := by unfold limb; omega
theorem w64q {z r : Int} (h : r = z) (hb : -9223372036854775808 ≤ z ∧ z ≤ 9223372036854775807) : r = IntKind.i64.wrap z := w64 h hb
def e64 (P : Program) (f : FuncId) (nm : String) : Prop := ∃ fn, P.funcs[f]? = some fn ∧ (fn.name == "runtime.NumGoroutine") = false ∧ fn.body.isNone = true ∧ Extern.findNext fn = none ∧ ∃ e, Extern.find fn = some e ∧
  ∀ args, e args = (do
    let (x, y, c) ← Extern.MathBitsCarry.three nm args
    pure (if nm = "Add64" then Extern.MathBitsCarry.pair ((x + y + c) % Extern.MathBitsCarry.m64) ((x + y + c) / Extern.MathBitsCarry.m64)
      else Extern.MathBitsCarry.pair ((x + Extern.MathBitsCarry.m64 - y - c) % Extern.MathBitsCarry.m64) (if x < y + c then 1 else 0)))
def addLo (x y c : Int) : Int := (x + y + c) % 18446744073709551616
def addHi (x y c : Int) : Int := (x + y + c) / 18446744073709551616
def subLo (x y c : Int) : Int := (x - y - c) % 18446744073709551616
def subHi (x y c : Int) : Int := if x < y + c then 1 else 0
section
variable {P : Program} {ρ : Operand → Value} {w : World} {ty : TypeId}
theorem run_three (nm : String) {x y c : Int} (hc : 0 ≤ c ∧ c ≤ 1) : (Extern.MathBitsCarry.three nm #[.int .u64 x, .int .u64 y, .int .u64 c]).run P w = .ok (x.toNat, y.toNat, c.toNat) w := by
  have : c = 0 ∨ c = 1 := by omega
  rcases this with rfl | rfl <;> rfl
theorem ex_add64 {f : FuncId} {g : Operand} {xs : Array Operand} {ts : Array TypeId} {x y c : Int} (hE : e64 P f "Add64") (hg : ρ g = .func (.func f) #[] #[]) (ha : xs.map ρ = #[.int .u64 x, .int .u64 y, .int .u64 c])
    (hx : 0 ≤ x) (hy : 0 ≤ y) (hc : 0 ≤ c ∧ c ≤ 1) : Ex P ρ (.call { callee := .value g, args := xs, argTypes := ts }) ty w (.tuple #[.int .u64 (addLo x y c), .int .u64 (addHi x y c)]) w := by
  obtain ⟨fn, h1, h2, h3, h4, e, h5, h6⟩ := hE
  show Sem.run P _ w = _
  have hr := run_callFunc_extern h1 h2 h3 h4 h5 #[.int .u64 x, .int .u64 y, .int .u64 c] w
  rw [h6] at hr
  simp only [Sem.run_bind, run_three _ hc, Result.andThen_ok] at hr
  simp only [exec1, execOp, resolve, hg, ha, Deferred.ofValue]
  simp [invoke, hr, Extern.MathBitsCarry.pair, Extern.MathBitsCarry.m64]
  unfold addLo addHi
  constructor <;> omega
theorem ex_sub64 {f : FuncId} {g : Operand} {xs : Array Operand} {ts : Array TypeId} {x y c : Int} (hE : e64 P f "Sub64") (hg : ρ g = .func (.func f) #[] #[]) (ha : xs.map ρ = #[.int .u64 x, .int .u64 y, .int .u64 c])
    (hx : 0 ≤ x) (hy : 0 ≤ y ∧ y < 18446744073709551616) (hc : 0 ≤ c ∧ c ≤ 1) : Ex P ρ (.call { callee := .value g, args := xs, argTypes := ts }) ty w (.tuple #[.int .u64 (subLo x y c), .int .u64 (subHi x y c)]) w := by
  obtain ⟨fn, h1, h2, h3, h4, e, h5, h6⟩ := hE
  show Sem.run P _ w = _
  have hr := run_callFunc_extern h1 h2 h3 h4 h5 #[.int .u64 x, .int .u64 y, .int .u64 c] w
  rw [h6] at hr
  simp only [Sem.run_bind, run_three _ hc, Result.andThen_ok] at hr
  simp only [exec1, execOp, resolve, hg, ha, Deferred.ofValue]
  simp [invoke, hr, Extern.MathBitsCarry.pair, Extern.MathBitsCarry.m64]
  unfold subLo subHi
  constructor
  · omega
  · by_cases h : x < y + c
    · have : x.toNat < y.toNat + c.toNat := by omega
      simp [h, this]
    · have : ¬ (x.toNat < y.toNat + c.toNat) := by omega
      simp [h, this]
end
end Sc
end
section
namespace Sc
open Go
def B256 : Nat := 115792089237316195423570985008687907853269984665640564039457584007913129639936
theorem limb_sum (x : Nat) (h : x < 115792089237316195423570985008687907853269984665640564039457584007913129639936) :
    (x : Int) = limb x 0 + limb x 1 * 18446744073709551616 + limb x 2 * 340282366920938463463374607431768211456 + limb x 3 * 6277101735386680763835789423207666416102355444464034512896 := by
  simp only [limb, Nat.reduceMul, Nat.reducePow]
  omega
theorem limb_of (x : Nat) (s0 s1 s2 s3 : Int) (h0 : 0 ≤ s0 ∧ s0 < 18446744073709551616) (h1 : 0 ≤ s1 ∧ s1 < 18446744073709551616) (h2 : 0 ≤ s2 ∧ s2 < 18446744073709551616) (h3 : 0 ≤ s3 ∧ s3 < 18446744073709551616)
    (h : (x : Int) = s0 + s1 * 18446744073709551616 + s2 * 340282366920938463463374607431768211456 + s3 * 6277101735386680763835789423207666416102355444464034512896) :
    limb x 0 = s0 ∧ limb x 1 = s1 ∧ limb x 2 = s2 ∧ limb x 3 = s3 := by
  simp only [limb, Nat.reduceMul, Nat.reducePow]
  refine ⟨?_, ?_, ?_, ?_⟩ <;> omega
theorem elV_of (x : Nat) (s0 s1 s2 s3 : Int) (h0 : 0 ≤ s0 ∧ s0 < 18446744073709551616) (h1 : 0 ≤ s1 ∧ s1 < 18446744073709551616) (h2 : 0 ≤ s2 ∧ s2 < 18446744073709551616) (h3 : 0 ≤ s3 ∧ s3 < 18446744073709551616)
    (h : (x : Int) = s0 + s1 * 18446744073709551616 + s2 * 340282366920938463463374607431768211456 + s3 * 6277101735386680763835789423207666416102355444464034512896) :
    .agg #[.int .u64 s0, .int .u64 s1, .int .u64 s2, .int .u64 s3] = elV x := by
  obtain ⟨e0, e1, e2, e3⟩ := limb_of x s0 s1 s2 s3 h0 h1 h2 h3 h
  simp only [elV, el, e0, e1, e2, e3]
def addN (a b : Nat) : Nat := (a + b) % B256
def addC (a b : Nat) : Int := ((a + b) / B256 : Nat)
def subN (a b : Nat) : Nat := (a + B256 - b) % B256
def subC (a b : Nat) : Int := if a < b then 1 else 0
theorem add_chain (a b : Nat) (ha : a < B256) (hb : b < B256) (s0 c0 s1 c1 s2 c2 s3 c3 : Int) (e0 : s0 = addLo (limb a 0) (limb b 0) 0) (f0 : c0 = addHi (limb a 0) (limb b 0) 0) (e1 : s1 = addLo (limb a 1) (limb b 1) c0)
    (f1 : c1 = addHi (limb a 1) (limb b 1) c0) (e2 : s2 = addLo (limb a 2) (limb b 2) c1) (f2 : c2 = addHi (limb a 2) (limb b 2) c1) (e3 : s3 = addLo (limb a 3) (limb b 3) c2) (f3 : c3 = addHi (limb a 3) (limb b 3) c2) :
    .agg #[.int .u64 s0, .int .u64 s1, .int .u64 s2, .int .u64 s3] = elV (addN a b) ∧ c3 = addC a b := by
  have ha' := limb_sum a ha
  have hb' := limb_sum b hb
  have a0 := limb_nonneg a 0; have a1 := limb_nonneg a 1; have a2 := limb_nonneg a 2; have a3 := limb_nonneg a 3
  have b0 := limb_nonneg b 0; have b1 := limb_nonneg b 1; have b2 := limb_nonneg b 2; have b3 := limb_nonneg b 3
  have a0' := limb_lt a 0; have a1' := limb_lt a 1; have a2' := limb_lt a 2; have a3' := limb_lt a 3
  have b0' := limb_lt b 0; have b1' := limb_lt b 1; have b2' := limb_lt b 2; have b3' := limb_lt b 3
  generalize limb a 0 = x0 at *; generalize limb a 1 = x1 at *; generalize limb a 2 = x2 at *; generalize limb a 3 = x3 at *
  generalize limb b 0 = y0 at *; generalize limb b 1 = y1 at *; generalize limb b 2 = y2 at *; generalize limb b 3 = y3 at *
  simp only [addLo, addHi] at e0 f0 e1 f1 e2 f2 e3 f3
  have hsum : (a : Int) + b = s0 + s1 * 18446744073709551616 + s2 * 340282366920938463463374607431768211456 + s3 * 6277101735386680763835789423207666416102355444464034512896 + c3 * 115792089237316195423570985008687907853269984665640564039457584007913129639936 := by omega
  unfold addN addC B256
  refine ⟨elV_of _ _ _ _ _ (by omega) (by omega) (by omega) (by omega) ?_, ?_⟩ <;> omega
theorem sub_chain (a b : Nat) (ha : a < B256) (hb : b < B256) (s0 c0 s1 c1 s2 c2 s3 c3 : Int) (e0 : s0 = subLo (limb a 0) (limb b 0) 0) (f0 : c0 = subHi (limb a 0) (limb b 0) 0) (e1 : s1 = subLo (limb a 1) (limb b 1) c0)
    (f1 : c1 = subHi (limb a 1) (limb b 1) c0) (e2 : s2 = subLo (limb a 2) (limb b 2) c1) (f2 : c2 = subHi (limb a 2) (limb b 2) c1) (e3 : s3 = subLo (limb a 3) (limb b 3) c2) (f3 : c3 = subHi (limb a 3) (limb b 3) c2) :
    .agg #[.int .u64 s0, .int .u64 s1, .int .u64 s2, .int .u64 s3] = elV (subN a b) ∧ c3 = subC a b := by
  have ha' := limb_sum a ha
  have hb' := limb_sum b hb
  have a0 := limb_nonneg a 0; have a1 := limb_nonneg a 1; have a2 := limb_nonneg a 2; have a3 := limb_nonneg a 3
  have b0 := limb_nonneg b 0; have b1 := limb_nonneg b 1; have b2 := limb_nonneg b 2; have b3 := limb_nonneg b 3
  have a0' := limb_lt a 0; have a1' := limb_lt a 1; have a2' := limb_lt a 2; have a3' := limb_lt a 3
  have b0' := limb_lt b 0; have b1' := limb_lt b 1; have b2' := limb_lt b 2; have b3' := limb_lt b 3
  generalize limb a 0 = x0 at *; generalize limb a 1 = x1 at *; generalize limb a 2 = x2 at *; generalize limb a 3 = x3 at *
  generalize limb b 0 = y0 at *; generalize limb b 1 = y1 at *; generalize limb b 2 = y2 at *; generalize limb b 3 = y3 at *
  have sub1 : ∀ x y c s d : Int, 0 ≤ x → x < 18446744073709551616 → 0 ≤ y → y < 18446744073709551616 → 0 ≤ c ∧ c ≤ 1 → s = subLo x y c → d = subHi x y c → (0 ≤ s ∧ s < 18446744073709551616) ∧ (0 ≤ d ∧ d ≤ 1) ∧ s - d * 18446744073709551616 = x - y - c := by
    intro x y c s d h1 h2 h3 h4 h5 h6 h7
    simp only [subLo, subHi] at h6 h7
    split at h7 <;> omega
  obtain ⟨k0, l0, m0⟩ := sub1 x0 y0 0 s0 c0 a0 a0' b0 b0' (by omega) e0 f0
  obtain ⟨k1, l1, m1⟩ := sub1 x1 y1 c0 s1 c1 a1 a1' b1 b1' l0 e1 f1
  obtain ⟨k2, l2, m2⟩ := sub1 x2 y2 c1 s2 c2 a2 a2' b2 b2' l1 e2 f2
  obtain ⟨k3, l3, m3⟩ := sub1 x3 y3 c2 s3 c3 a3 a3' b3 b3' l2 e3 f3
  clear e0 f0 e1 f1 e2 f2 e3 f3 sub1
  unfold B256 at ha hb
  have hsum : (a : Int) - b = s0 + s1 * 18446744073709551616 + s2 * 340282366920938463463374607431768211456 + s3 * 6277101735386680763835789423207666416102355444464034512896 - c3 * 115792089237316195423570985008687907853269984665640564039457584007913129639936 := by omega
  have hc3 : c3 = 0 ∨ c3 = 1 := by omega
  unfold subN subC B256
  refine ⟨elV_of _ _ _ _ _ k0 k1 k2 k3 ?_, ?_⟩
  · rcases hc3 with h | h <;> subst h <;> omega
  · split <;> rcases hc3 with h | h <;> subst h <;> omega
end Sc
end
