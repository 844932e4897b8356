/- AuditEvents holds: the events that the audit records are those of the reference, for all arguments that the statement admits, with no further condition. Part 2 of 12. -/
import Derived.Test.YtfhpmpmmckkgbaaGreatDoorE1
import Derived.Laws.MathBits
import Derived.RangeFuncLeaves
import Derived.RangeFuncRecord
import Derived.Laws.Pointers
import Derived.Laws.StructEq
set_option linter.unusedVariables false
set_option linter.unusedSimpArgs false
set_option linter.unusedSectionVars false
section
namespace Sc
open Go
def Cells (Z : List Fact) (b o : Nat) (cs : List Value) : Prop := ∃ arr t fr, (b, .cells arr t fr) ∈ Z ∧ (arr.toList.drop o).take cs.length = cs
theorem Cells.mono {Z Z' : List Fact} {b o : Nat} {cs : List Value} (h : Cells Z b o cs) (hz : ∀ p ∈ Z, p ∈ Z') : Cells Z' b o cs := by
  obtain ⟨arr, t, fr, h1, h2⟩ := h
  exact ⟨arr, t, fr, hz _ h1, h2⟩
theorem Cells.part {Z : List Fact} {b o : Nat} {cs : List Value} (h : Cells Z b o cs) (r k : Nat) {vs : List Value} (hv : (cs.drop r).take k = vs) (hl : vs.length = k) : ∃ arr t fr, (b, .cells arr t fr) ∈ Z ∧ (arr.toList.drop (o + r)).take k = vs := by
  obtain ⟨arr, t, fr, h1, h2⟩ := h
  refine ⟨arr, t, fr, h1, ?_⟩
  rw [← hv, ← h2, List.drop_take, List.drop_drop, List.take_take]
  congr 1
  subst hl
  have : vs.length = ((cs.drop r).take vs.length).length := by rw [hv]
  simp only [List.length_take, List.length_drop] at this
  omega
def IsAt (v : Value) (i b o k : Nat) : Prop := ∃ o' n c, v = .slice (some ⟨b, o', none⟩) n c ∧ i < n ∧ o = o' + i * k
section
variable {P : Program} {ρ : Operand → Value} {w w' w0 : World} {ty : TypeId} {X : List Nat} {L : List Ent} {Z : List Fact} {α : Type} {f : α → List Value} {xs : List α} {e k : Nat} {v : Value}
theorem fm_length (hf : ∀ x, (f x).length = k) : ∀ (xs : List α), (xs.flatMap f).length = xs.length * k
  | [] => by simp
  | x :: xs => by simp only [List.flatMap_cons, List.length_append, hf, fm_length hf xs, List.length_cons]; rw [Nat.add_mul]; omega
theorem fm_at (hf : ∀ x, (f x).length = k) : ∀ (xs : List α) (i : Nat) (x : α), xs[i]? = some x → ((xs.flatMap f).drop (i * k)).take k = f x
  | [], i, x, h => by simp at h
  | y :: xs, 0, x, h => by
    simp at h; subst h
    simp only [List.flatMap_cons, Nat.zero_mul, List.drop_zero]
    rw [List.take_left' (hf y)]
  | y :: xs, i + 1, x, h => by
    simp only [List.getElem?_cons_succ] at h
    simp only [List.flatMap_cons]
    rw [List.drop_append, List.drop_of_length_le (by rw [hf, Nat.add_mul]; omega), hf, Nat.add_mul, Nat.one_mul, Nat.add_sub_cancel, List.nil_append]
    exact fm_at hf xs i x h
theorem fm_set (hf : ∀ x, (f x).length = k) : ∀ (xs : List α) (i : Nat) (y : α), i < xs.length → (xs.flatMap f).take (i * k) ++ f y ++ (xs.flatMap f).drop (i * k + k) = (xs.set i y).flatMap f
  | [], i, y, h => by simp at h
  | x :: xs, 0, y, _ => by
    simp only [List.flatMap_cons, Nat.zero_mul, List.take_zero, List.nil_append, Nat.zero_add, List.set_cons_zero]
    rw [List.drop_left' (hf x)]
  | x :: xs, i + 1, y, h => by
    have h' : i < xs.length := by simpa using h
    simp only [List.flatMap_cons, List.set_cons_succ]
    rw [← fm_set hf xs i y h', Nat.add_mul, Nat.one_mul, List.take_append, List.drop_append, hf, List.take_of_length_le (by rw [hf]; omega), List.drop_of_length_le (by rw [hf]; omega)]
    rw [show i * k + k - k = i * k from by omega, show i * k + k + k - k = i * k + k from by omega]
    simp
theorem sl_len (hf : ∀ x, (f x).length = k) (hk : 0 < k) (h : Sl Z e k v (xs.flatMap f)) : ∃ a c, v = .slice a xs.length c ∧ xs.length ≤ c ∧ c ≤ maxLen := by
  obtain ⟨a, n, c, rfl, hl, hc, hm, _⟩ := h
  rw [fm_length hf] at hl
  have : n = xs.length := Nat.eq_of_mul_eq_mul_right hk hl.symm
  subst this
  exact ⟨a, c, rfl, hc, hm⟩
theorem sl_lt (hf : ∀ x, (f x).length = k) (hk : 0 < k) (h : Sl Z e k v (xs.flatMap f)) : (xs.length : Int) ≤ 9223372036854775807 := by
  obtain ⟨a, c, _, h1, h2⟩ := sl_len hf hk h
  unfold maxLen at h2
  omega
theorem sl_at (hf : ∀ x, (f x).length = k) (hk : 0 < k) (h : Sl Z e k v (xs.flatMap f)) {i : Nat} {x : α} (hi : xs[i]? = some x) : ∃ b o, IsAt v i b o k ∧ Cells Z b o (f x) := by
  obtain ⟨a, n, c, rfl, hl, hc, hm, h4⟩ := h
  rw [fm_length hf] at hl
  have : n = xs.length := Nat.eq_of_mul_eq_mul_right hk hl.symm
  subst this
  have hlt : i < xs.length := (List.getElem?_eq_some_iff.1 hi).1
  rcases h4 with ⟨h0, _⟩ | ⟨b, o, rfl, h0 | ⟨arr, tt, fr, h5, h6, h7⟩⟩
  · omega
  · omega
  refine ⟨b, o + i * k, ⟨o, _, c, rfl, hlt, rfl⟩, arr, tt, fr, h5, ?_⟩
  have h8 := fm_at hf xs i x hi
  rw [← h7, List.drop_take, List.drop_drop, List.take_take] at h8
  rw [hf, ← h8]
  congr 1
  have : (i + 1) * k ≤ xs.length * k := Nat.mul_le_mul_right _ hlt
  rw [Nat.add_mul] at this
  omega
theorem ex_sindexO {T e' : TypeId} {x i : Operand} {k by' b o j : Nat} {kk : IntKind} {jj : Int} (hI : IsAt v j b o k) (ha : ρ x = v) (hi : ρ i = .int kk jj) (ht : sliceOf P T = some (e', k, by')) (hj : jj = j) :
    Ex P ρ (.indexAddr T x i) ty w (.pointer (some ⟨b, o, none⟩)) w := by
  obtain ⟨o', n, c, rfl, hlt, rfl⟩ := hI
  exact ex_sindex ha hi ht (by omega) (by omega) (by rw [hj]; simp)
theorem ex_lenO {T e' : TypeId} {x : Operand} {by' : Nat} {r : Int} (hf : ∀ x, (f x).length = k) (hk : 0 < k) (h : Sl Z e k v (xs.flatMap f)) (ha : ρ x = v) (ht : sliceOf P T = some (e', k, by')) (hr : r = xs.length) :
    Ex P ρ (.call { callee := .builtin .len, args := #[x], argTypes := #[T] }) ty w (.int .i64 r) w := by
  obtain ⟨a, c, rfl, _⟩ := sl_len hf hk h
  exact ex_len ha ht hr
theorem ex_loadsC {T : TypeId} {x : Operand} {b o r o' k : Nat} {cs vs : List Value} (hC : Cells Z b o cs) (hZ : Holds w Z) (ha : ρ x = .pointer (some ⟨b, o', none⟩)) (hk : aggOf P T = some k) (ho : o' = o + r) (hv : (cs.drop r).take k = vs) (hl : vs.length = k) :
    Ex P ρ (.load T x) ty w (.agg vs.toArray) w := by
  subst ho
  obtain ⟨arr, t, fr, h1, h2⟩ := hC.part r k hv hl
  exact ex_loads ha (hZ _ h1) hk h2 hl
theorem ex_loadC {T : TypeId} {x : Operand} {b o r o' : Nat} {cs : List Value} {u : Value} (hC : Cells Z b o cs) (hZ : Holds w Z) (ha : ρ x = .pointer (some ⟨b, o', none⟩)) (hk : oneOf P T = true) (ho : o' = o + r) (hv : cs[r]? = some u) :
    Ex P ρ (.load T x) ty w u w := by
  subst ho
  obtain ⟨hr, hu⟩ := List.getElem?_eq_some_iff.1 hv
  have h0 : (cs.drop r).take 1 = [u] := by rw [List.drop_eq_getElem_cons hr, hu]; simp
  obtain ⟨arr, t, fr, h1, h2⟩ := hC.part r 1 h0 rfl
  refine ex_load ha (hZ _ h1) hk ?_
  have h3 : ((arr.toList.drop (o + r)).take 1)[0]? = some u := by rw [h2]; rfl
  rw [List.getElem?_take, List.getElem?_drop] at h3
  simpa using h3
theorem ex_loadsM {T : TypeId} {x : Operand} {b o i k : Nat} {t : TypeId} {fr : Nat × Nat} {y : α} (hf : ∀ x, (f x).length = k) (ha : ρ x = .pointer (some ⟨b, o, none⟩)) (hc : w.heap[b]? = some (.cells (xs.flatMap f).toArray t fr))
    (hk : aggOf P T = some k) (ho : o = i * k) (hi : xs[i]? = some y) : Ex P ρ (.load T x) ty w (.agg (f y).toArray) w := by
  subst ho
  exact ex_loads ha hc hk (fm_at hf xs i y hi) (hf y)
theorem ex_loadM {T : TypeId} {x : Operand} {b o i : Nat} {t : TypeId} {fr : Nat × Nat} {y : α} {u : Value} (hf : ∀ x, (f x).length = 1) (ha : ρ x = .pointer (some ⟨b, o, none⟩)) (hc : w.heap[b]? = some (.cells (xs.flatMap f).toArray t fr))
    (hk : oneOf P T = true) (ho : o = i * 1) (hi : xs[i]? = some y) (hu : f y = [u]) : Ex P ρ (.load T x) ty w u w := by
  subst ho
  refine ex_load ha hc hk ?_
  have h3 : (((xs.flatMap f).drop (i * 1)).take 1)[0]? = some u := by rw [fm_at hf xs i y hi, hu]; rfl
  rw [List.getElem?_take, List.getElem?_drop] at h3
  simpa using h3
theorem st_storesM {T t : TypeId} {x y : Operand} {b o i' k : Nat} {u : Value} {z : α} (hf : ∀ x, (f x).length = k) (i : Nat) (hS : St X w0 w L Z) (ha : ρ x = .pointer (some ⟨b, o, none⟩)) (hy : ρ y = u)
    (hi : L[i]? = some (some (b, .cells (xs.flatMap f).toArray t (0, 0)))) (hk : aggOf P T = some k) (ho : o = i' * k) (hl : i' < xs.length) (hv : u.cells.toList = f z) (h1 : ∀ x ∈ f z, x.oneCell' = true) :
    ∃ w', ExU P ρ (.store T x y) ty w w' ∧ St X w0 w' (L.set i (some (b, .cells ((xs.set i' z).flatMap f).toArray t (0, 0)))) Z := by
  subst ho
  have h2 : u.cells.size = k := by rw [← hf z, ← hv]; simp
  refine st_stores i hS ha hy hi hk h2 ?_ (by rw [hv]; exact h1) ?_
  · have : (i' + 1) * k ≤ xs.length * k := Nat.mul_le_mul_right _ hl
    rw [Nat.add_mul] at this
    simp only [List.size_toArray, fm_length hf]
    omega
  · rw [hv]
    simp only [setCells, hf]
    rw [fm_set hf xs i' z hl]
theorem st_storeM {T t : TypeId} {x y : Operand} {b o i' : Nat} {u : Value} {z : α} (hf : ∀ x, (f x).length = 1) (i : Nat) (hS : St X w0 w L Z) (ha : ρ x = .pointer (some ⟨b, o, none⟩)) (hy : ρ y = u)
    (hi : L[i]? = some (some (b, .cells (xs.flatMap f).toArray t (0, 0)))) (hk : oneOf P T = true) (ho : o = i' * 1) (hl : i' < xs.length) (hv : f z = [u]) (hc : u.cells = #[u]) (h1 : u.oneCell' = true) :
    ∃ w', ExU P ρ (.store T x y) ty w w' ∧ St X w0 w' (L.set i (some (b, .cells ((xs.set i' z).flatMap f).toArray t (0, 0)))) Z := by
  subst ho
  refine st_store i hS ha hy hi hk hc (by simp only [List.size_toArray, fm_length hf]; omega) h1 ?_
  rw [← fm_set hf xs i' z hl, hv]
  apply Array.ext'
  simp only [Array.toList_setIfInBounds, Nat.mul_one]
  rw [List.set_eq_take_append_cons_drop, if_pos (by rw [fm_length hf]; omega)]
  simp
end
section
variable {P : Program} {ρ : Operand → Value} {w w' w0 : World} {ty : TypeId} {X : List Nat} {L : List Ent} {Z : List Fact} {α : Type} {f : α → List Value} {xs : List α} {e k : Nat} {v : Value}
def Own (e k : Nat) (f : α → List Value) (v : Value) (xs : List α) (x : Ent) : Prop := OwnSl e k v xs.length (xs.flatMap f) x
theorem Own.nil (e k : Nat) (f : α → List Value) : Own e k f (.slice none 0 0) [] none := OwnSl.nil e k
theorem Own.sl {x : Ent} (h : Own e k f v xs x) {Z : List Fact} (hz : ∀ p, x = some p → p ∈ Z) : Sl Z e k v (xs.flatMap f) := OwnSl.sl h hz
theorem Own.slF {x : Ent} (h : Own e k f v xs x) : Sl (entF x) e k v (xs.flatMap f) := OwnSl.sl h (by rintro p rfl; simp [entF])
theorem Own.of {b t n c : Nat} (hf : ∀ x, (f x).length = k) (hn : n = xs.length) (hc : c = n) (hm : n ≤ maxLen) : Own t k f (.slice (some ⟨b, 0, none⟩) n c) xs (some (b, .cells (xs.flatMap f).toArray t)) := by
  subst hc; subst hn
  refine ⟨by rw [fm_length hf], .inr ⟨b, _, _, rfl, rfl, Nat.le_refl _, hm, by simp [fm_length hf], ?_⟩⟩
  rw [List.take_of_length_le (by rw [fm_length hf]; omega)]
theorem St.entH {x : Ent} (i : Nat) (h : St X w0 w L Z) (hi : L[i]? = some x) : Holds w (entF x) := by
  cases x with
  | none => exact fun p hp => absurd hp (by simp [entF])
  | some p => intro q hq; simp [entF] at hq; subst hq; exact (h.own q (List.mem_of_getElem? hi)).2
theorem own_len {x : Ent} (h : Own e k f v xs x) : ∃ a c, v = .slice a xs.length c ∧ xs.length ≤ c ∧ c ≤ maxLen := by
  obtain ⟨_, ⟨rfl, h0, _⟩ | ⟨b, arr, cap, rfl, _, h1, h2, _⟩⟩ := h
  · exact ⟨none, 0, by rw [h0], by omega, by simp [maxLen]⟩
  · exact ⟨_, cap, rfl, h1, h2⟩
theorem ex_lenW {T e' : TypeId} {x : Operand} {by' : Nat} {r : Int} {en : Ent} (h : Own e k f v xs en) (ha : ρ x = v) (ht : sliceOf P T = some (e', k, by')) (hr : r = xs.length) :
    Ex P ρ (.call { callee := .builtin .len, args := #[x], argTypes := #[T] }) ty w (.int .i64 r) w := by
  obtain ⟨a, c, rfl, _⟩ := own_len h
  exact ex_len ha ht hr
theorem st_appendM {T e k by' : Nat} {x y : Operand} {v u : Value} {ys : List α} {en : Ent} {zc : Array Value} {Zr : List Fact} (hf : ∀ x, (f x).length = k) (h1f : ∀ x, ∀ c ∈ f x, c.oneCell' = true) (hk : 0 < k) (i : Nat) (hS : St X w0 w L Z)
    (ho : Own e k f v xs en) (hu : Sl Zr e k u (ys.flatMap f)) (hr : Holds w Zr) (hx : ρ x = v) (hy : ρ y = u) (hi : L[i]? = some en) (ht : sliceOf P T = some (e, k, by')) (hz : zeroOf P e = some zc) (hzs : zc.size = k)
    (hb : (xs.length + ys.length) * by' ≤ 140737488355328) (hb' : xs.length + ys.length ≤ maxLen) :
    ∃ (p : Value × Ent) (w' : World), Ex P ρ (.call { callee := .builtin .append, args := #[x, y], argTypes := #[T, T] }) ty w p.1 w' ∧ St X w0 w' (L.set i p.2) Z ∧ Own e k f p.1 (xs ++ ys) p.2 := by
  obtain ⟨p, w', hx, hS', ho'⟩ := st_append (ty := ty) i hS hx hy hi ho hu hr (fun c hc => by obtain ⟨x, _, hx⟩ := List.mem_flatMap.1 hc; exact h1f x c hx) ht hz hzs hk ys.length (fm_length hf ys) hb hb'
  refine ⟨p, w', hx, hS', ?_⟩
  unfold Own
  rw [List.length_append, List.flatMap_append]
  exact ho'
theorem sqA {ro : Option Nat} {ops : Array Oper} {Q : Exit → Act → World → Prop} {rest : List Oper} {n : Nat} {m : Nat → Value} {ds : List Deferred} {op : Op} {dst : Option Nat} {pos : String} {af : Array Edge} {R : Value × Ent → World → Prop}
    (hx : ∃ (p : Value × Ent) (w' : World), Ex P (ev n m) op ty w p.1 w' ∧ R p w') (h : ∀ (u : Value) (en : Ent) (w' : World), R (u, en) w' → wpL ro P ops Q rest (act n (updO m dst u) ds) w') (hd : isDefer op = false := by rfl) :
    wpL ro P ops Q (⟨dst, op, ty, pos, af, none⟩ :: rest) (act n m ds) w := by
  obtain ⟨⟨u, en⟩, w', h1, h2⟩ := hx
  exact sqv h1 (h u en w' h2) hd
end
section
variable {P : Program} {ρ : Operand → Value} {w w' w0 : World} {ty : TypeId} {Z : List Fact} {α : Type} {f : α → List Value} {xs : List α} {e k : Nat} {v : Value}
theorem sl_cut {a : Option Addr} {n c : Nat} {cs : List Value} (h : Sl Z e k (.slice a n c) cs) (l hh m : Nat) (h1 : l ≤ hh) (h2 : hh ≤ n) (h3 : hh ≤ m) (h4 : m ≤ c) :
    Sl Z e k (.slice (if m = l then a else a.map (·.add (l * k))) (hh - l) (m - l)) ((cs.drop (l * k)).take ((hh - l) * k)) := by
  obtain ⟨a', n', c', he, hl, hc, hm, h5⟩ := h
  cases he
  have hlk : l * k ≤ hh * k := Nat.mul_le_mul_right _ h1
  have hhn : hh * k ≤ n * k := Nat.mul_le_mul_right _ h2
  refine ⟨_, _, _, rfl, ?_, by omega, by omega, ?_⟩
  · rw [List.length_take, List.length_drop, hl, Nat.sub_mul]; omega
  · rcases h5 with ⟨rfl, rfl⟩ | ⟨b, o, rfl, h5⟩
    · left; exact ⟨by omega, by omega⟩
    · right
      by_cases hml : m = l
      · rw [if_pos hml]; exact ⟨b, o, rfl, .inl (by omega)⟩
      · rw [if_neg hml]
        refine ⟨b, o + l * k, by simp [addr_add], ?_⟩
        rcases h5 with h0 | ⟨arr, tt, fr, h6, h7, h8⟩
        · exact .inl (by omega)
        · refine .inr ⟨arr, tt, fr, h6, by rw [Nat.sub_mul]; omega, ?_⟩
          rw [← h8, List.drop_take, List.drop_drop, List.take_take, Nat.sub_mul]
          congr 1
          omega
theorem fm_cut (hf : ∀ x, (f x).length = k) (l hh : Nat) (h1 : l ≤ hh) (h2 : hh ≤ xs.length) : ((xs.flatMap f).drop (l * k)).take ((hh - l) * k) = ((xs.take hh).drop l).flatMap f := by
  conv => lhs; rw [← List.take_append_drop hh xs]
  rw [List.flatMap_append]
  have e1 : (xs.take hh).length = hh := by simp; omega
  have hlk : l * k ≤ hh * k := Nat.mul_le_mul_right _ h1
  conv => lhs; rw [← List.take_append_drop l (xs.take hh)]
  have e2 : ((xs.take hh).take l).length = l := by simp; omega
  have e3 : ((xs.take hh).drop l).length = hh - l := by simp; omega
  rw [List.flatMap_append, List.append_assoc, List.drop_left' (by rw [fm_length hf, e2]), List.take_left' (by rw [fm_length hf, e3])]
def cutv (v : Value) (k l h m : Nat) : Value :=
  match v with
  | .slice a _ _ => .slice (if m = l then a else a.map (·.add (l * k))) (h - l) (m - l)
  | _ => v
def capv : Value → Nat
  | .slice _ _ c => c
  | _ => 0
theorem sl_cutM (hf : ∀ x, (f x).length = k) (hk : 0 < k) (h : Sl Z e k v (xs.flatMap f)) (l hh m : Nat) (h1 : l ≤ hh) (h2 : hh ≤ xs.length) (h3 : hh ≤ m) (h4 : m ≤ capv v) : Sl Z e k (cutv v k l hh m) (((xs.take hh).drop l).flatMap f) := by
  obtain ⟨a, c, rfl, h5, h6⟩ := sl_len hf hk h
  rw [← fm_cut hf l hh h1 h2]
  exact sl_cut h l hh m h1 h2 h3 h4
theorem sl_cap (hf : ∀ x, (f x).length = k) (hk : 0 < k) (h : Sl Z e k v (xs.flatMap f)) : xs.length ≤ capv v := by
  obtain ⟨a, c, rfl, h5, h6⟩ := sl_len hf hk h
  exact h5
def bnd (ρ : Operand → Value) (o : Option Operand) (d n : Nat) : Prop :=
  match o with
  | none => n = d
  | some x => ∃ (kk : IntKind) (j : Int), ρ x = .int kk j ∧ j = n
theorem ex_cut {T e : TypeId} {x : Operand} {lo hi mx : Option Operand} {k by' l hh m : Nat} (hf : ∀ x, (f x).length = k) (hk : 0 < k) (h : Sl Z e k v (xs.flatMap f)) (ha : ρ x = v) (ht : sliceOf P T = some (e, k, by'))
    (hl : bnd ρ lo 0 l) (hhi : bnd ρ hi xs.length hh) (hm : bnd ρ mx (capv v) m) (hs : hi.isNone = true → mx.isNone = true) (h1 : l ≤ hh) (h2 : hh ≤ xs.length) (h3 : hh ≤ m) (h4 : m ≤ capv v) :
    Ex P ρ (.slice T x lo hi mx) ty w (cutv v k l hh m) w := by
  obtain ⟨a, c, rfl, h5, h6⟩ := sl_len hf hk h
  obtain ⟨ii, hT, hi', rfl, rfl⟩ := sliceOf_spec ht
  show Sem.run P _ w = _
  simp only [capv] at h4 hm
  have e0 : (Instr.sliceBounds true xs.length c (lo.map ρ) (hi.map ρ) (mx.map ρ)).run P w = .ok (l, hh, m) w := by
    cases mx with
    | none =>
      simp only [bnd] at hm; subst hm
      cases hi with
      | none =>
        simp only [bnd] at hhi; subst hhi
        cases lo with
        | none => simp only [bnd] at hl; subst hl; simp [Instr.sliceBounds]
        | some y => obtain ⟨kk, j, h7, rfl⟩ := hl; simp [Instr.sliceBounds, Instr.sliceBound, h7, asIntOf, h1]
      | some z =>
        obtain ⟨kk', j', h8, rfl⟩ := hhi
        cases lo with
        | none => simp only [bnd] at hl; subst hl; simp [Instr.sliceBounds, Instr.sliceBound, h8, asIntOf, h3]
        | some y => obtain ⟨kk, j, h7, rfl⟩ := hl; simp [Instr.sliceBounds, Instr.sliceBound, h7, h8, asIntOf, h1, h3]
    | some q =>
      obtain ⟨kk2, j2, h9, rfl⟩ := hm
      cases hi with
      | none => simp at hs
      | some z =>
        obtain ⟨kk', j', h8, rfl⟩ := hhi
        cases lo with
        | none => simp only [bnd] at hl; subst hl; simp [Instr.sliceBounds, Instr.sliceBound, h8, h9, asIntOf, h3, h4]
        | some y => obtain ⟨kk, j, h7, rfl⟩ := hl; simp [Instr.sliceBounds, Instr.sliceBound, h7, h8, h9, asIntOf, h1, h3, h4]
  have e1 : P.underlying T = some (.slice (P.elem T)) := by rw [hT]; simp [Program.elem, hT]
  simp [exec1, execOp, ha, Instr.sliceAt, Instr.slice, run_underlying hT, e0, Go.sizeOf, typeInfo, hi', cutv]
theorem take_snoc {α : Type} {l : List α} {i : Nat} {x : α} (h : l[i]? = some x) : l.take (i + 1) = l.take i ++ [x] := by
  rw [List.take_add_one, h]; rfl
theorem get_lt {α : Type} (l : List α) (i : Nat) (h : i < l.length) : ∃ x, l[i]? = some x := ⟨_, List.getElem?_eq_getElem h⟩
theorem ex_nat (z : Int) (h : 0 ≤ z) : ∃ j : Nat, z = j := ⟨z.toNat, by omega⟩
theorem rep_fm (f : α → List Value) (z : α) : ∀ n, rep (f z) n = (List.replicate n z).flatMap f
  | 0 => rfl
  | n + 1 => by rw [List.replicate_succ, List.flatMap_cons, ← rep_fm f z n]; rfl
theorem own_of {b t n : Nat} {cs : Array Value} {ys : List α} (hf : ∀ x, (f x).length = k) (hn : n = ys.length) (hm : n ≤ maxLen) (hc : cs.toList = ys.flatMap f) : Own t k f (.slice (some ⟨b, 0, none⟩) n n) ys (some (b, .cells cs t)) := by
  have : cs = (ys.flatMap f).toArray := by rw [← hc]
  subst this
  exact Own.of hf hn rfl hm
end
section
variable {P : Program} {ρ : Operand → Value} {w w' w0 : World} {ty : TypeId} {X : List Nat} {L : List Ent} {Z : List Fact} {α : Type} {f : α → List Value} {xs : List α} {e k : Nat} {v : Value}
theorem St.non (h : St X w0 w L Z) : St X w0 w (Option.none :: L) Z :=
  ⟨h.frm, fun p hp => h.own p (by simpa using hp), List.pairwise_cons.2 ⟨fun b _ p q hp _ => (by cases hp), h.dis⟩, h.ro, fun p hp q hq => h.sep p hp q (by simpa using hq)⟩
theorem st_makeM {T e k by' : Nat} {l : Int} {x y : Operand} {kx : IntKind} {zc : Array Value} (z : α) (N : Nat) (hS : St X w0 w L Z) (ht : sliceOf P T = some (e, k, by')) (hz : zeroOf P e = some zc) (hzf : zc.toList = f z) (hzk : zc.size = k) (hk : 0 < k)
    (hx : ρ x = .int kx l) (hy : ρ y = .int kx l) (hN : l = N) (hb : by' * N ≤ 281474976710656) (hc : N ≤ 9223372036854775807) :
    ∃ b w', Ex P ρ (.makeSlice T x y) ty w (.slice (some ⟨b, 0, none⟩) N N) w' ∧ St X w0 w' (some (b, .cells ((List.replicate N z).flatMap f).toArray e) :: L) Z := by
  subst hN
  obtain ⟨b, w', h1, h2⟩ := st_make (ty := ty) hS ht hz hzk hk hx hy (by omega) (by omega) (by show (by' : Int) * (N : Int) ≤ ((281474976710656 : Nat) : Int); rw [← Int.natCast_mul]; exact Int.ofNat_le.2 hb) (by omega)
  rw [Int.toNat_natCast] at h1
  refine ⟨b, w', h1, ?_⟩
  rw [hzf, rep_fm] at h2
  rw [Int.toNat_natCast] at h2
  exact h2
end
end Sc
end
section
namespace Sc
open Go
def bks (L : List Ent) : List Nat := L.filterMap fun e => e.map (·.1)
theorem mem_bks {L : List Ent} {b : Nat} : b ∈ bks L ↔ ∃ o, some (b, o) ∈ L := by
  unfold bks
  rw [List.mem_filterMap]
  constructor
  · rintro ⟨e, he, h⟩
    cases e with
    | none => simp at h
    | some p => simp at h; subst h; exact ⟨p.2, he⟩
  · rintro ⟨o, h⟩
    exact ⟨_, h, rfl⟩
section
variable {X : List Nat} {w0 w w' : World} {L Lf Lt : List Ent} {Z Z0 : List Fact}
theorem St.pickS (h : St X w0 w (Lf ++ Lt) Z) (is : List Nat) (hnd : is.Nodup) (hlt : ∀ i ∈ is, i < Lf.length) : St X w0 w ((is.map fun i => Lf.getD i Option.none) ++ Lt) Z := by
  have hp := h.pick (is ++ (List.range Lt.length).map (· + Lf.length)) (by
    rw [List.nodup_append]
    refine ⟨hnd, ?_, ?_⟩
    · refine List.Pairwise.map _ ?_ List.nodup_range
      intro a b hab; simp only [ne_eq]; omega
    · intro a ha b hb
      obtain ⟨c, _, rfl⟩ := List.mem_map.1 hb
      have := hlt a ha
      omega)
  refine hp.to ?_
  rw [List.map_append]
  congr 1
  · apply List.map_congr_left
    intro i hi
    rw [List.getD_eq_getElem?_getD, List.getD_eq_getElem?_getD, List.getElem?_append_left (hlt i hi)]
  · rw [List.map_map]
    apply List.ext_getElem?
    intro j
    rw [List.getElem?_map]
    by_cases hj : j < Lt.length
    · rw [List.getElem?_range hj]
      simp only [Option.map_some, Function.comp]
      rw [List.getD_eq_getElem?_getD, List.getElem?_append_right (by omega), Nat.add_sub_cancel, List.getElem?_eq_getElem hj]
      rfl
    · rw [List.getElem?_eq_none (by simpa using hj), List.getElem?_eq_none (by omega)]; rfl
theorem St.lend (h : St X w0 w (Lf ++ Lt) Z) : St (bks Lt) w w Lt [] := by
  refine ⟨.refl _ _, fun p hp => ⟨.inl (mem_bks.2 ⟨p.2, hp⟩), (h.own p (List.mem_append_right _ hp)).2⟩, (List.pairwise_append.1 h.dis).2.1, fun _ h => absurd h (by simp), fun _ h => absurd h (by simp)⟩
theorem St.callS {Ln Lt' : List Ent} {Zn : List Fact} (h : St X w0 w (Lf ++ Lt) Z) (k : St (bks Lt) w w' (Ln ++ Lt') Zn) : St X w0 w' (Ln ++ (Lf ++ Lt')) (Zn ++ Z) := by
  have hb : ∀ b ∈ bks Lt, ∃ o, some (b, o) ∈ Lf ++ Lt := fun b hb => by
    obtain ⟨o, ho⟩ := mem_bks.1 hb
    exact ⟨o, List.mem_append_right _ ho⟩
  have hlf : ∀ p, some p ∈ Lf → p.1 ∉ bks Lt := fun p hp hq => by
    obtain ⟨o, ho⟩ := mem_bks.1 hq
    exact (List.pairwise_append.1 h.dis).2.2 _ hp _ ho p (p.1, o) rfl rfl rfl
  have hz : ∀ p ∈ Z, p.1 ∉ bks Lt := fun p hp hq => by
    obtain ⟨o, ho⟩ := mem_bks.1 hq
    exact h.sep p hp _ (List.mem_append_right _ ho) rfl
  have hkeep : ∀ p : Fact, w.heap[p.1]? = some p.2 → p.1 ∉ bks Lt → w'.heap[p.1]? = some p.2 := fun p h1 h2 => (k.frm.block p.1 (lt_of_some h1) h2).trans h1
  have hcal : ∀ p, some p ∈ Ln ++ Lt' → (p.1 ∈ bks Lt ∨ w.heap.size ≤ p.1) := fun p hp => (k.own p hp).1
  have hsplit : ∀ p, some p ∈ Ln ++ (Lf ++ Lt') → some p ∈ Ln ++ Lt' ∨ some p ∈ Lf := fun p hp => by
    rcases List.mem_append.1 hp with hp | hp
    · exact .inl (List.mem_append_left _ hp)
    · rcases List.mem_append.1 hp with hp | hp
      · exact .inr hp
      · exact .inl (List.mem_append_right _ hp)
  have hne : ∀ p q, some p ∈ Ln ++ Lt' → some q ∈ Lf → p.1 ≠ q.1 := fun p q hp hq e => by
    rcases hcal p hp with h1 | h1
    · exact hlf q hq (e ▸ h1)
    · have := lt_of_some (h.own q (List.mem_append_left _ hq)).2
      omega
  refine ⟨h.frm.trans k.frm (fun x hx => by obtain ⟨o, ho⟩ := hb x hx; exact (h.own _ ho).1), fun p hp => ?_, ?_, fun p hp => ?_, fun p hp q hq => ?_⟩
  · rcases hsplit p hp with hp | hp
    · refine ⟨?_, (k.own p hp).2⟩
      rcases hcal p hp with h1 | h1
      · obtain ⟨o, ho⟩ := hb _ h1; exact (h.own _ ho).1
      · exact .inr (Nat.le_trans h.frm.size h1)
    · obtain ⟨h1, h2⟩ := h.own p (List.mem_append_left _ hp)
      exact ⟨h1, hkeep p h2 (hlf p hp)⟩
  · have hd1 := List.pairwise_append.1 k.dis
    have hd2 := List.pairwise_append.1 h.dis
    refine List.pairwise_append.2 ⟨hd1.1, List.pairwise_append.2 ⟨hd2.1, hd1.2.1, ?_⟩, ?_⟩
    · intro a ha b hb' p q hp hq; subst hp; subst hq
      exact fun e => hne q p (List.mem_append_right _ hb') ha e.symm
    · intro a ha b hb' p q hp hq; subst hp; subst hq
      rcases List.mem_append.1 hb' with hb' | hb'
      · exact hne p q (List.mem_append_left _ ha) hb'
      · exact hd1.2.2 _ ha _ hb' p q rfl rfl
  · rcases List.mem_append.1 hp with hp | hp
    · obtain ⟨h1, h2⟩ := k.ro p hp
      exact ⟨Nat.le_trans h.frm.size h1, h2⟩
    · obtain ⟨h1, h2⟩ := h.ro p hp
      exact ⟨h1, hkeep p h2 (hz p hp)⟩
  · rcases List.mem_append.1 hp with hp | hp
    · rcases hsplit q hq with hq | hq
      · exact k.sep p hp q hq
      · have h1 := (k.ro p hp).1
        have h2 := lt_of_some (h.own q (List.mem_append_left _ hq)).2
        omega
    · rcases hsplit q hq with hq | hq
      · have h1 := lt_of_some (h.ro p hp).2
        rcases hcal q hq with h2 | h2
        · obtain ⟨o, ho⟩ := mem_bks.1 h2
          exact h.sep p hp (q.1, o) (List.mem_append_right _ ho)
        · omega
      · exact h.sep p hp q (List.mem_append_left _ hq)
theorem St.holdsA (h : St X w0 w L Z) (h0 : Holds w0 Z0) (hX : ∀ p ∈ Z0, p.1 ∉ X) : Holds w Z0 := h.holdsX h0 hX
def Off (X : List Nat) (Z : List Fact) : Prop := ∀ p ∈ Z, p.1 ∉ X
theorem Off.nil (Z : List Fact) : Off [] Z := fun _ _ => by simp
theorem Off.non (X : List Nat) : Off X [] := fun _ h => absurd h (by simp)
theorem Off.app {X : List Nat} {Z Z' : List Fact} (h : Off X Z) (h' : Off X Z') : Off X (Z ++ Z') := fun p hp => (List.mem_append.1 hp).elim (h p) (h' p)
theorem St.offZ (h : St X w0 w (Lf ++ Lt) Z) : Off (bks Lt) Z := fun p hp hq => by
  obtain ⟨o, ho⟩ := mem_bks.1 hq
  exact h.sep p hp _ (List.mem_append_right _ ho) rfl
theorem St.off0 (h : St X w0 w (Lf ++ Lt) Z) (h0 : Holds w0 Z0) (hX : Off X Z0) : Off (bks Lt) Z0 := fun p hp hq => by
  obtain ⟨o, ho⟩ := mem_bks.1 hq
  rcases (h.own _ (List.mem_append_right _ ho)).1 with h1 | h1
  · exact hX p hp h1
  · have := lt_of_some (h0 p hp)
    simp only at h1
    omega
theorem St.offE (h : St X w0 w (Lf ++ Lt) Z) (i : Nat) {en : Ent} (hi : Lf[i]? = some en) : Off (bks Lt) (entF en) := fun p hp hq => by
  obtain ⟨o, ho⟩ := mem_bks.1 hq
  cases en with
  | none => simp [entF] at hp
  | some q =>
    simp [entF] at hp; subst hp
    exact (List.pairwise_append.1 h.dis).2.2 _ (List.mem_of_getElem? hi) _ ho p (p.1, o) rfl rfl rfl
end
structure Ev where
  kind : Int
  a : Int
  b : Int
def cE (e : Ev) : List Value := [.int .i64 e.kind, .int .i64 e.a, .int .i64 e.b]
def cP (b : Nat) : List Value := [.pointer (some ⟨b, 0, none⟩)]
def Tape (tT tP tR : TypeId) (t : Value) (ev : List Ev) (Lt : List Ent) : Prop :=
  (t = .pointer none ∧ Lt = []) ∨
    ∃ (bt : Nat) (sl : Value) (x : Ent) (rows : List (Nat × List Ev)), t = .pointer (some ⟨bt, 0, none⟩) ∧
      Lt = some (bt, .cells #[sl, .int .i64 ev.length] tT) :: x :: rows.map (fun r => some (r.1, .cells (r.2.flatMap cE).toArray tR)) ∧ Own tP 1 cP sl (rows.map (·.1)) x ∧
      (∀ r ∈ rows, r.2.length = 64) ∧ ev = (rows.flatMap (·.2)).take ev.length ∧ ev.length ≤ 64 * rows.length ∧ 64 * rows.length < ev.length + 64
theorem Tape.nil (tT tP tR : TypeId) (ev : List Ev) : Tape tT tP tR (.pointer none) ev [] := .inl ⟨rfl, rfl⟩
theorem tape_nil {tT tP tR : TypeId} {ev : List Ev} {Lt : List Ent} (h : Tape tT tP tR (.pointer none) ev Lt) : Lt = [] := by
  rcases h with ⟨_, h⟩ | ⟨bt, sl, x, rows, h, _⟩
  · exact h
  · cases h
theorem skipG {D : List Nat} {k : Nat} {A : Prop} (h : D.contains k = true) : bif D.contains k then True else A := by rw [h]; trivial
theorem needG {D : List Nat} {k : Nat} {A : Prop} (h : D.contains k = false) (a : A) : bif D.contains k then True else A := by rw [h]; exact a
theorem needH {c : Bool} {A : Prop} (h : c = true) (a : A) : bif c then A else True := by rw [h]; exact a
theorem C_mid {ro : Option Nat} {P : Program} {c : Code} {K : Act → World → Prop} {Q : Exit → Act → World → Prop} {a : Act} {w : World} (I : Act → World → Prop) (h : C ro P c (thn I Q) a w) (hk : ∀ a w, I a w → K a w) : C ro P c (thn K Q) a w :=
  wpIn_mono h fun e a w hq => by
    cases e with
    | normal => exact hk a w hq
    | _ => exact hq
theorem clo {first cap xs l : Array Value} (h : l = xs) : first ++ l ++ cap = first ++ xs ++ cap := by rw [h]
section
variable {ρ : Operand → Value} {i j k l n o : Nat} {a b c d e g : Operand} {x y z u v r : Value}
theorem parts2 (h1 : ρ a = x) (h2 : ρ b = y) : (#[(i, a), (j, b)] : Array (Nat × Operand)).toList.map (fun p => (p.1, ρ p.2)) = [(i, x), (j, y)] := by simp [h1, h2]
end
set_option linter.unusedVariables false
theorem addHi_bd {x y c : Int} (hx : 0 ≤ x) (hx' : x < 18446744073709551616) (hy : 0 ≤ y) (hy' : y < 18446744073709551616) (hc : 0 ≤ c ∧ c ≤ 1) : 0 ≤ addHi x y c ∧ addHi x y c ≤ 1 := by unfold addHi; omega
theorem subHi_bd {x y c : Int} (hx : 0 ≤ x) (hx' : x < 18446744073709551616) (hy : 0 ≤ y) (hy' : y < 18446744073709551616) (hc : 0 ≤ c ∧ c ≤ 1) : 0 ≤ subHi x y c ∧ subHi x y c ≤ 1 := by unfold subHi; split <;> omega
section
variable {P : Program} {ρ : Operand → Value} {w : World} {ty : TypeId}
theorem exq_add64 {f : FuncId} {g : Operand} {xs : Array Operand} {ts : Array TypeId} {x y c r q : Int} (hr : r = addLo x y c) (hq : q = addHi x y c) (hE : e64 P f "Add64") (hg : ρ g = .func (.func f) #[] #[]) (ha : xs.map ρ = #[.int .u64 x, .int .u64 y, .int .u64 c])
    (hx : 0 ≤ x) (hy : 0 ≤ y) (hc : 0 ≤ c ∧ c ≤ 1) : Ex P ρ (.call { callee := .value g, args := xs, argTypes := ts }) ty w (.tuple #[.int .u64 r, .int .u64 q]) w := by
  subst hr; subst hq; exact ex_add64 hE hg ha hx hy hc
theorem exq_sub64 {f : FuncId} {g : Operand} {xs : Array Operand} {ts : Array TypeId} {x y c r q : Int} (hr : r = subLo x y c) (hq : q = subHi x y c) (hE : e64 P f "Sub64") (hg : ρ g = .func (.func f) #[] #[]) (ha : xs.map ρ = #[.int .u64 x, .int .u64 y, .int .u64 c])
    (hx : 0 ≤ x) (hy : 0 ≤ y ∧ y < 18446744073709551616) (hc : 0 ≤ c ∧ c ≤ 1) : Ex P ρ (.call { callee := .value g, args := xs, argTypes := ts }) ty w (.tuple #[.int .u64 r, .int .u64 q]) w := by
  subst hr; subst hq; exact ex_sub64 hE hg ha hx hy hc
end
def cI (x : Int) : List Value := [.int .i64 x]
def cU (x : Int) : List Value := [.int .u64 x]
def cB (x : Int) : List Value := [.int .u8 x]
def cT (x : Bool) : List Value := [.bool x]
structure Sh where
  f : Int
  t : Int
  i : Int
  n : Int
  v : Value
  p : List Nat
def cS (s : Sh) : List Value := [.int .i64 s.f, .int .i64 s.t, .int .i64 s.i, .int .i64 s.n, s.v]
structure Po where
  v : Value
  p : List Nat
def cL (s : Po) : List Value := [s.v]
structure By where
  v : Value
  p : List Int
def cY (s : By) : List Value := [s.v]
def Shs (Z : List Fact) (e ee : TypeId) (v : Value) (l : List Sh) : Prop := Sl Z e 5 v (l.flatMap cS) ∧ ∀ s ∈ l, Sl Z ee 4 s.v (s.p.flatMap el)
def Pos (Z : List Fact) (e ee : TypeId) (v : Value) (l : List Po) : Prop := Sl Z e 1 v (l.flatMap cL) ∧ ∀ s ∈ l, Sl Z ee 4 s.v (s.p.flatMap el)
def Bys (Z : List Fact) (e ee : TypeId) (v : Value) (l : List By) : Prop := Sl Z e 1 v (l.flatMap cY) ∧ ∀ s ∈ l, Sl Z ee 1 s.v (s.p.flatMap cB)
section
variable {Z Z' : List Fact} {e ee : TypeId} {v v' : Value}
theorem Shs.cut {l l' : List Sh} (h : Shs Z e ee v l) (hs : Sl Z e 5 v' (l'.flatMap cS)) (hm : ∀ z ∈ l', z ∈ l) : Shs Z e ee v' l' := ⟨hs, fun s hs' => h.2 s (hm s hs')⟩
theorem Pos.cut {l l' : List Po} (h : Pos Z e ee v l) (hs : Sl Z e 1 v' (l'.flatMap cL)) (hm : ∀ z ∈ l', z ∈ l) : Pos Z e ee v' l' := ⟨hs, fun s hs' => h.2 s (hm s hs')⟩
theorem Bys.cut {l l' : List By} (h : Bys Z e ee v l) (hs : Sl Z e 1 v' (l'.flatMap cY)) (hm : ∀ z ∈ l', z ∈ l) : Bys Z e ee v' l' := ⟨hs, fun s hs' => h.2 s (hm s hs')⟩
theorem Shs.mono {l : List Sh} (h : Shs Z e ee v l) (hz : ∀ p ∈ Z, p ∈ Z') : Shs Z' e ee v l := ⟨h.1.mono hz, fun s hs => (h.2 s hs).mono hz⟩
theorem Pos.mono {l : List Po} (h : Pos Z e ee v l) (hz : ∀ p ∈ Z, p ∈ Z') : Pos Z' e ee v l := ⟨h.1.mono hz, fun s hs => (h.2 s hs).mono hz⟩
theorem Bys.mono {l : List By} (h : Bys Z e ee v l) (hz : ∀ p ∈ Z, p ∈ Z') : Bys Z' e ee v l := ⟨h.1.mono hz, fun s hs => (h.2 s hs).mono hz⟩
end
end Sc
end
section
namespace Sc
open Go
theorem ofInt_toNat {x : Int} (h0 : 0 ≤ x) (h1 : x < 18446744073709551616) : (BitVec.ofInt 64 x).toNat = x.toNat := by
  rw [BitVec.toNat_ofInt]
  have : (2 ^ 64 : Nat) = 18446744073709551616 := by decide
  rw [this]
  omega
theorem ofInt_back (B : BitVec 64) : BitVec.ofInt 64 (B.toNat : Int) = B := by
  apply BitVec.eq_of_toNat_eq
  have := B.isLt
  rw [ofInt_toNat (by omega) (by omega)]
  simp
theorem wrapB (B : BitVec 64) : IntKind.u64.wrap (B.toNat : Int) = (B.toNat : Int) := by
  have := B.isLt
  rw [IntKind.wrap_u64]
  omega
theorem bv_and (x y : Int) : bitv .and .u64 x y = ((BitVec.ofInt 64 x &&& BitVec.ofInt 64 y).toNat : Int) := wrapB _
theorem bv_or (x y : Int) : bitv .or .u64 x y = ((BitVec.ofInt 64 x ||| BitVec.ofInt 64 y).toNat : Int) := wrapB _
theorem bv_xor (x y : Int) : bitv .xor .u64 x y = ((BitVec.ofInt 64 x ^^^ BitVec.ofInt 64 y).toNat : Int) := wrapB _
theorem bv_val {x : Int} (h0 : 0 ≤ x) (h1 : x < 18446744073709551616) : ((BitVec.ofInt 64 x).toNat : Int) = x := by rw [ofInt_toNat h0 h1]; omega
theorem bv_range (op : BinOp) (hb : op = .and ∨ op = .or ∨ op = .xor ∨ op = .andNot) (x y : Int) : 0 ≤ bitv op .u64 x y ∧ bitv op .u64 x y < 18446744073709551616 := by
  have key : ∀ B : BitVec 64, 0 ≤ IntKind.u64.wrap (B.toNat : Int) ∧ IntKind.u64.wrap (B.toNat : Int) < 18446744073709551616 := fun B => by rw [wrapB]; have := B.isLt; omega
  rcases hb with rfl | rfl | rfl | rfl <;> exact key _
def M64 : Int := 18446744073709551615
def fromBit (x : Int) : Int := (0 - bitv .and .u64 x 1) % 18446744073709551616
def mChoose (m a b : Int) : Int := bitv .xor .u64 b (bitv .and .u64 m (bitv .xor .u64 a b))
theorem mChoose_M {a b : Int} (h0 : 0 ≤ a) (h1 : a < 18446744073709551616) : mChoose M64 a b = a := by
  unfold mChoose
  rw [bv_xor, bv_and, bv_xor, ofInt_back, ofInt_back]
  have : BitVec.ofInt 64 M64 = BitVec.allOnes 64 := by decide
  rw [this, BitVec.allOnes_and, BitVec.xor_comm (BitVec.ofInt 64 a), ← BitVec.xor_assoc, BitVec.xor_self, BitVec.zero_xor, bv_val h0 h1]
theorem mChoose_0 {a b : Int} (h0 : 0 ≤ b) (h1 : b < 18446744073709551616) : mChoose 0 a b = b := by
  unfold mChoose
  rw [bv_xor, bv_and, bv_xor, ofInt_back, ofInt_back]
  have : BitVec.ofInt 64 0 = 0#64 := by decide
  rw [this, BitVec.zero_and, BitVec.xor_zero, bv_val h0 h1]
def mk (t : Bool) : Int := if t then M64 else 0
def chN (t : Bool) (a b : Nat) : Nat := if t then a else b
theorem fromBit_mk (t : Bool) : fromBit (mk t) = mk t := by cases t <;> decide
theorem choose_mk (t : Bool) (a b : Nat) : (.agg #[.int .u64 (mChoose (mk t) (limb a 0) (limb b 0)), .int .u64 (mChoose (mk t) (limb a 1) (limb b 1)), .int .u64 (mChoose (mk t) (limb a 2) (limb b 2)), .int .u64 (mChoose (mk t) (limb a 3) (limb b 3))] : Value) = elV (chN t a b) := by
  cases t
  · simp only [mk, Bool.false_eq_true, if_false, chN, mChoose_0 (limb_nonneg _ _) (limb_lt _ _)]; rfl
  · simp only [mk, if_true, chN, mChoose_M (limb_nonneg _ _) (limb_lt _ _)]; rfl
theorem mk_andNot (s t : Bool) : bitv .andNot .u64 (mk s) (mk t) = mk (s && !t) := by cases s <;> cases t <;> decide
theorem mk_and (s t : Bool) : bitv .and .u64 (mk s) (mk t) = mk (s && t) := by cases s <;> cases t <;> decide
theorem or_zero {x y : Int} (hx : 0 ≤ x) (hx' : x < 18446744073709551616) (hy : 0 ≤ y) (hy' : y < 18446744073709551616) : bitv .or .u64 x y = 0 ↔ x = 0 ∧ y = 0 := by
  rw [bv_or]
  constructor
  · intro h
    have h1 : (BitVec.ofInt 64 x ||| BitVec.ofInt 64 y).toNat = 0 := by omega
    rw [BitVec.toNat_or, Nat.or_eq_zero_iff] at h1
    rw [ofInt_toNat hx hx', ofInt_toNat hy hy'] at h1
    omega
  · rintro ⟨rfl, rfl⟩; decide
theorem zero_test {u r s t : Int} (hu : 0 ≤ u) (hu' : u < 18446744073709551616) (hr : r = (0 - u) % 18446744073709551616) (hs : s = bitv .or .u64 u r) (ht : t = bitv .xor .u64 (if IntKind.signed .u64 = true then -1 else IntKind.max .u64) s) :
    t.fdiv (2 ^ (min (Int.toNat 63) (IntKind.bits .u64))) = if u = 0 then 1 else 0 := by
  by_cases h0 : u = 0
  · subst h0; subst hr; subst hs; subst ht; decide
  · rw [if_neg h0]
    have hr' : r = 18446744073709551616 - u := by omega
    have hs1 : 9223372036854775808 ≤ s := by
      rw [hs, bv_or]
      have h1 : (BitVec.ofInt 64 u).toNat ≤ (BitVec.ofInt 64 u ||| BitVec.ofInt 64 r).toNat := by rw [BitVec.toNat_or]; exact Nat.left_le_or
      have h2 : (BitVec.ofInt 64 r).toNat ≤ (BitVec.ofInt 64 u ||| BitVec.ofInt 64 r).toNat := by rw [BitVec.toNat_or]; exact Nat.right_le_or
      rw [ofInt_toNat (by omega) (by omega)] at h1 h2
      omega
    have hs2 : s < 18446744073709551616 := by rw [hs]; exact (bv_range .or (by simp) _ _).2
    have ht' : t = 18446744073709551615 - s := by
      rw [ht, bv_xor]
      have e1 : BitVec.ofInt 64 (if IntKind.signed .u64 = true then -1 else IntKind.max .u64) = BitVec.allOnes 64 := by decide
      rw [e1]
      have e2 : (BitVec.allOnes 64 ^^^ BitVec.ofInt 64 s) = ~~~ (BitVec.ofInt 64 s) := by rw [BitVec.xor_comm, BitVec.xor_allOnes]
      rw [e2, BitVec.toNat_not, ofInt_toNat (by omega) (by omega)]
      have : (2 ^ 64 : Nat) = 18446744073709551616 := by decide
      rw [this]
      omega
    have e3 : (2 : Int) ^ (min (Int.toNat 63) (IntKind.bits .u64)) = 9223372036854775808 := by decide
    rw [e3, Int.fdiv_eq_ediv_of_nonneg _ (by decide)]
    omega
def maLo (a b c d : Int) : Int := (a * b + c + d) % 18446744073709551616
def maHi (a b c d : Int) : Int := (a * b + c + d) / 18446744073709551616
theorem low32 {x : Int} (h0 : 0 ≤ x) (h1 : x < 18446744073709551616) : bitv .and .u64 x 4294967295 = x % 4294967296 := by
  rw [bv_and, BitVec.toNat_and, ofInt_toNat h0 h1, ofInt_toNat (by decide) (by decide)]
  have e : Int.toNat 4294967295 = 2 ^ 32 - 1 := by decide
  rw [e, Nat.and_two_pow_sub_one_eq_mod]
  have : (2 ^ 32 : Nat) = 4294967296 := by decide
  rw [this]
  omega
theorem shr32 {x : Int} : x.fdiv (2 ^ (min (Int.toNat 32) (IntKind.bits .u64))) = x / 4294967296 := by
  have e3 : (2 : Int) ^ (min (Int.toNat 32) (IntKind.bits .u64)) = 4294967296 := by decide
  rw [e3, Int.fdiv_eq_ediv_of_nonneg _ (by decide)]
def muHi (a b : Int) : Int := a * b / 18446744073709551616
def muLo (a b : Int) : Int := a * b % 18446744073709551616
theorem prodN {a b : Int} (ha : 0 ≤ a) (ha' : a < 18446744073709551616) (hb : 0 ≤ b) (hb' : b < 18446744073709551616) : 0 ≤ a * b ∧ a * b ≤ 340282366920938463426481119284349108225 := by
  refine ⟨Int.mul_nonneg ha hb, ?_⟩
  have := Int.mul_le_mul (a := a) (b := b) (c := 18446744073709551615) (d := 18446744073709551615) (by omega) (by omega) hb (by decide)
  simpa using this
theorem ma_of {a b c d hi lo l1 k1 h1 l2 k2 h2 : Int} (ha : 0 ≤ a ∧ a < 18446744073709551616) (hb : 0 ≤ b ∧ b < 18446744073709551616) (hc : 0 ≤ c ∧ c < 18446744073709551616) (hd : 0 ≤ d ∧ d < 18446744073709551616)
    (e1 : hi = muHi a b) (e2 : lo = muLo a b) (e3 : l1 = addLo lo c 0) (e4 : k1 = addHi lo c 0) (e5 : h1 = (hi + k1) % 18446744073709551616) (e6 : l2 = addLo l1 d 0) (e7 : k2 = addHi l1 d 0) (e8 : h2 = (h1 + k2) % 18446744073709551616) :
    h2 = maHi a b c d ∧ l2 = maLo a b c d := by
  have := prodN ha.1 ha.2 hb.1 hb.2
  simp only [muHi, muLo, addLo, addHi, maHi, maLo] at *
  generalize a * b = q at *
  constructor <;> omega
theorem ma_range {a b c d : Int} (ha : 0 ≤ a ∧ a < 18446744073709551616) (hb : 0 ≤ b ∧ b < 18446744073709551616) (hc : 0 ≤ c ∧ c < 18446744073709551616) (hd : 0 ≤ d ∧ d < 18446744073709551616) :
    (0 ≤ maHi a b c d ∧ maHi a b c d < 18446744073709551616) ∧ (0 ≤ maLo a b c d ∧ maLo a b c d < 18446744073709551616) ∧ maHi a b c d * 18446744073709551616 + maLo a b c d = a * b + c + d := by
  have := prodN ha.1 ha.2 hb.1 hb.2
  simp only [maHi, maLo]
  generalize a * b = q at *
  omega
end Sc
end
section
set_option linter.unusedVariables false
namespace Sc
open Go
def bI (t : Bool) : Int := if t then 1 else 0
theorem bI_range (t : Bool) : 0 ≤ bI t ∧ bI t ≤ 1 := by cases t <;> decide
theorem fromBit_bI (t : Bool) : fromBit (bI t) = mk t := by cases t <;> decide
theorem addC_bI {a b : Nat} (ha : a < B256) (hb : b < B256) : addC a b = bI (decide (B256 ≤ a + b)) := by
  unfold addC bI
  by_cases h : B256 ≤ a + b
  · simp only [h, decide_true, if_true]
    have : (a + b) / B256 = 1 := by
      unfold B256 at *; omega
    rw [this]; rfl
  · simp only [h, decide_false, Bool.false_eq_true, if_false]
    have : (a + b) / B256 = 0 := by
      unfold B256 at *; omega
    rw [this]; rfl
theorem subC_bI (a b : Nat) : subC a b = bI (decide (a < b)) := by unfold subC bI; by_cases h : a < b <;> simp [h]
structure PrF where
  id : Int
  p : Nat
  inv : Int
  one : Nat
  sq : Nat
def fdC (F : PrF) : List Value := .int .i64 F.id :: (el F.p ++ .int .u64 F.inv :: (el F.one ++ el F.sq))
def fdV (F : PrF) : Value := .agg (fdC F).toArray
def F1 : PrF := ⟨1, 57896044618658097711785492504343953926634992332820282019728792003956564819949, 0x86bca1af286bca1b, 0x26, 0x5a4⟩
def F2 : PrF := ⟨2, 115792089210356248762697446949407573529996955224135760342422259061068512044369, 0xccd1c8aaee00bc4f,
  0x00000000ffffffff00000000000000004319055258e8617b0c46353d039cdaaf, 0x66e12d94f3d956202845b2392b6bec594699799c49bd6fa683244c95be79eea2⟩
def FOk (F : PrF) : Prop := F = F1 ∨ F = F2
theorem fOk {F : PrF} (h : FOk F) {P : PrF → Prop} (h1 : P F1) (h2 : P F2) : P F := by rcases h with rfl | rfl <;> assumption
theorem f_lt {F : PrF} (h : FOk F) : F.p < B256 := fOk h (P := fun F => F.p < B256) (by decide) (by decide)
theorem f_big {F : PrF} (h : FOk F) : B256 ≤ 2 * F.p + 38 := fOk h (P := fun F => B256 ≤ 2 * F.p + 38) (by decide) (by decide)
theorem f_one {F : PrF} (h : FOk F) : F.one = B256 % F.p := fOk h (P := fun F => F.one = B256 % F.p) (by decide) (by decide)
theorem f_sq {F : PrF} (h : FOk F) : F.sq = B256 * B256 % F.p := fOk h (P := fun F => F.sq = B256 * B256 % F.p) (by decide) (by decide)
theorem f_inv {F : PrF} (h : FOk F) : (limb F.p 0 * F.inv + 1) % 18446744073709551616 = 0 := fOk h (P := fun F => (limb F.p 0 * F.inv + 1) % 18446744073709551616 = 0) (by decide) (by decide)
theorem f_invr {F : PrF} (h : FOk F) : 0 ≤ F.inv ∧ F.inv < 18446744073709551616 := fOk h (P := fun F => 0 ≤ F.inv ∧ F.inv < 18446744073709551616) (by decide) (by decide)
def rI (F : PrF) : Nat := if F.id = 1 then 10665060850805439052171011777115991512801182798151104582581619579676209308938 else 43790243014242295660885426880012836369732278457577312309071968676491870960761
theorem f_rI {F : PrF} (h : FOk F) : B256 * rI F % F.p = 1 := fOk h (P := fun F => B256 * rI F % F.p = 1) (by decide) (by decide)
theorem f_one_lt {F : PrF} (h : FOk F) : F.one < F.p := fOk h (P := fun F => F.one < F.p) (by decide) (by decide)
theorem f_sq_lt {F : PrF} (h : FOk F) : F.sq < F.p := fOk h (P := fun F => F.sq < F.p) (by decide) (by decide)
def fAdd (F : PrF) (a b : Nat) : Nat := (a + b) % F.p
def fSub (F : PrF) (a b : Nat) : Nat := (a + (F.p - b)) % F.p
def fMul (F : PrF) (a b : Nat) : Nat := a * b * rI F % F.p
def fRed (F : PrF) (a : Nat) (t : Bool) : Nat := chN (decide (a < F.p) && !t) a (subN a F.p)
theorem fRed_eq {F : PrF} (h : FOk F) {a : Nat} {t : Bool} (ha : a < B256) (h2 : a + (if t then B256 else 0) < 2 * F.p) : fRed F a t = (a + (if t then B256 else 0)) % F.p := by
  have hp := f_lt h
  have hb := f_big h
  unfold fRed chN subN
  cases t
  · simp only [Bool.false_eq_true, if_false, Nat.add_zero, Bool.not_false, Bool.and_true, decide_eq_true_eq] at *
    by_cases hl : a < F.p
    · rw [if_pos hl, Nat.mod_eq_of_lt hl]
    · rw [if_neg hl]
      have e1 : (a + B256 - F.p) % B256 = a - F.p := by
        have : a + B256 - F.p = (a - F.p) + B256 := by omega
        rw [this, Nat.add_mod_right, Nat.mod_eq_of_lt (by omega)]
      rw [e1, Nat.mod_eq_sub_mod (by omega), Nat.mod_eq_of_lt (by omega)]
  · simp only [if_true, Bool.not_true, Bool.and_false, Bool.false_eq_true, if_false] at *
    have e1 : (a + B256 - F.p) % B256 = a + B256 - F.p := Nat.mod_eq_of_lt (by omega)
    rw [e1, Nat.mod_eq_sub_mod (by omega), Nat.mod_eq_of_lt (by omega)]
theorem fAdd_eq {F : PrF} (h : FOk F) {a b : Nat} (ha : a < F.p) (hb : b < F.p) : fRed F (addN a b) (decide (B256 ≤ a + b)) = fAdd F a b := by
  have hp := f_lt h
  have hlt : addN a b < B256 := Nat.mod_lt _ (by decide)
  have key : addN a b + (if decide (B256 ≤ a + b) = true then B256 else 0) = a + b := by
    unfold addN
    by_cases hc : B256 ≤ a + b
    · simp only [hc, decide_true, if_true]
      have : (a + b) % B256 = a + b - B256 := by rw [Nat.mod_eq_sub_mod hc, Nat.mod_eq_of_lt (by omega)]
      omega
    · simp only [hc, decide_false, Bool.false_eq_true, if_false]
      rw [Nat.mod_eq_of_lt (by omega)]; rfl
  rw [fRed_eq h hlt (by rw [key]; omega), key]
  rfl
theorem fSub_eq {F : PrF} (h : FOk F) {a b : Nat} (ha : a < F.p) (hb : b < F.p) : chN (decide (a < b)) (addN (subN a b) F.p) (subN a b) = fSub F a b := by
  have hp := f_lt h
  unfold chN addN subN fSub
  by_cases hl : a < b
  · simp only [hl, decide_true, if_true]
    have e1 : (a + B256 - b) % B256 = a + B256 - b := Nat.mod_eq_of_lt (by omega)
    rw [e1]
    have e2 : a + B256 - b + F.p = (a + (F.p - b)) + B256 := by omega
    rw [e2, Nat.add_mod_right, Nat.mod_eq_of_lt (by omega), Nat.mod_eq_of_lt (by omega)]
  · simp only [hl, decide_false, Bool.false_eq_true, if_false]
    have e1 : a + B256 - b = (a - b) + B256 := by omega
    rw [e1, Nat.add_mod_right, Nat.mod_eq_of_lt (by omega)]
    have e2 : a + (F.p - b) = (a - b) + F.p := by omega
    rw [e2, Nat.add_mod_right, Nat.mod_eq_of_lt (by omega)]
theorem mont_round {a0 a1 a2 a3 b p0 p1 p2 p3 inv t0 t1 t2 t3 t4 : Int} {A p T : Int}
    {c1 u0 c2 u1 c3 u2 c4 u3 u4 u5 m d1 z d2 v0 d3 v1 d4 v2 v3 k v4 : Int}
    (ha0 : 0 ≤ a0 ∧ a0 < 18446744073709551616) (ha1 : 0 ≤ a1 ∧ a1 < 18446744073709551616) (ha2 : 0 ≤ a2 ∧ a2 < 18446744073709551616) (ha3 : 0 ≤ a3 ∧ a3 < 18446744073709551616) (hb : 0 ≤ b ∧ b < 18446744073709551616)
    (hp0 : 0 ≤ p0 ∧ p0 < 18446744073709551616) (hp1 : 0 ≤ p1 ∧ p1 < 18446744073709551616) (hp2 : 0 ≤ p2 ∧ p2 < 18446744073709551616) (hp3 : 0 ≤ p3 ∧ p3 < 18446744073709551616)
    (ht0 : 0 ≤ t0 ∧ t0 < 18446744073709551616) (ht1 : 0 ≤ t1 ∧ t1 < 18446744073709551616) (ht2 : 0 ≤ t2 ∧ t2 < 18446744073709551616) (ht3 : 0 ≤ t3 ∧ t3 < 18446744073709551616) (ht4 : 0 ≤ t4 ∧ t4 ≤ 1)
    (hA : A = a0 + a1 * 18446744073709551616 + a2 * 340282366920938463463374607431768211456 + a3 * 6277101735386680763835789423207666416102355444464034512896)
    (hp : p = p0 + p1 * 18446744073709551616 + p2 * 340282366920938463463374607431768211456 + p3 * 6277101735386680763835789423207666416102355444464034512896)
    (hT : T = t0 + t1 * 18446744073709551616 + t2 * 340282366920938463463374607431768211456 + t3 * 6277101735386680763835789423207666416102355444464034512896 + t4 * 115792089237316195423570985008687907853269984665640564039457584007913129639936)
    (hTb : T < A + p) (hAp : A < p) (hinv : (p0 * inv + 1) % 18446744073709551616 = 0)
    (e1 : c1 = maHi a0 b t0 0) (e2 : u0 = maLo a0 b t0 0) (e3 : c2 = maHi a1 b t1 c1) (e4 : u1 = maLo a1 b t1 c1) (e5 : c3 = maHi a2 b t2 c2) (e6 : u2 = maLo a2 b t2 c2) (e7 : c4 = maHi a3 b t3 c3) (e8 : u3 = maLo a3 b t3 c3)
    (e9 : u4 = addLo t4 c4 0) (e10 : u5 = addHi t4 c4 0) (em : m = u0 * inv % 18446744073709551616)
    (f1 : d1 = maHi m p0 u0 0) (f3 : d2 = maHi m p1 u1 d1) (f4 : v0 = maLo m p1 u1 d1) (f5 : d3 = maHi m p2 u2 d2) (f6 : v1 = maLo m p2 u2 d2) (f7 : d4 = maHi m p3 u3 d3) (f8 : v2 = maLo m p3 u3 d3)
    (f9 : v3 = addLo u4 d4 0) (f10 : k = addHi u4 d4 0) (f11 : v4 = (u5 + k) % 18446744073709551616) :
    (v0 + v1 * 18446744073709551616 + v2 * 340282366920938463463374607431768211456 + v3 * 6277101735386680763835789423207666416102355444464034512896 + v4 * 115792089237316195423570985008687907853269984665640564039457584007913129639936) * 18446744073709551616 = T + A * b + m * p ∧
    v0 + v1 * 18446744073709551616 + v2 * 340282366920938463463374607431768211456 + v3 * 6277101735386680763835789423207666416102355444464034512896 + v4 * 115792089237316195423570985008687907853269984665640564039457584007913129639936 < A + p ∧
    (0 ≤ v0 ∧ v0 < 18446744073709551616) ∧ (0 ≤ v1 ∧ v1 < 18446744073709551616) ∧ (0 ≤ v2 ∧ v2 < 18446744073709551616) ∧ (0 ≤ v3 ∧ v3 < 18446744073709551616) ∧ (0 ≤ v4 ∧ v4 ≤ 1) ∧ (0 ≤ m ∧ m < 18446744073709551616) := by
  have h0 : (0 : Int) ≤ 0 ∧ (0 : Int) < 18446744073709551616 := by decide
  obtain ⟨r1, r2, q1⟩ := ma_range ha0 hb ht0 h0
  rw [← e1, ← e2] at q1; rw [← e1] at r1; rw [← e2] at r2
  obtain ⟨r3, r4, q2⟩ := ma_range ha1 hb ht1 r1
  rw [← e3, ← e4] at q2; rw [← e3] at r3; rw [← e4] at r4
  obtain ⟨r5, r6, q3⟩ := ma_range ha2 hb ht2 r3
  rw [← e5, ← e6] at q3; rw [← e5] at r5; rw [← e6] at r6
  obtain ⟨r7, r8, q4⟩ := ma_range ha3 hb ht3 r5
  rw [← e7, ← e8] at q4; rw [← e7] at r7; rw [← e8] at r8
  have hm : 0 ≤ m ∧ m < 18446744073709551616 := by omega
  obtain ⟨s1, s2, g1⟩ := ma_range hm hp0 r2 h0
  have hz : maLo m p0 u0 0 = 0 := by
    unfold maLo
    have e : m * p0 + u0 + 0 = u0 * (p0 * inv + 1) - (u0 * inv / 18446744073709551616 * p0) * 18446744073709551616 := by
      have : m = u0 * inv - u0 * inv / 18446744073709551616 * 18446744073709551616 := by omega
      rw [this]; grind
    have : ∃ y, p0 * inv + 1 = y * 18446744073709551616 := ⟨(p0 * inv + 1) / 18446744073709551616, by omega⟩
    obtain ⟨y, hy⟩ := this
    rw [e, hy, ← Int.mul_assoc, ← Int.sub_mul]
    exact Int.mul_emod_left _ _
  rw [← f1, hz] at g1; rw [← f1] at s1
  obtain ⟨s3, s4, g2⟩ := ma_range hm hp1 r4 s1
  rw [← f3, ← f4] at g2; rw [← f3] at s3; rw [← f4] at s4
  obtain ⟨s5, s6, g3⟩ := ma_range hm hp2 r6 s3
  rw [← f5, ← f6] at g3; rw [← f5] at s5; rw [← f6] at s6
  obtain ⟨s7, s8, g4⟩ := ma_range hm hp3 r8 s5
  rw [← f7, ← f8] at g4; rw [← f7] at s7; rw [← f8] at s8
  have hAb : A * b = a0 * b + (a1 * b) * 18446744073709551616 + (a2 * b) * 340282366920938463463374607431768211456 + (a3 * b) * 6277101735386680763835789423207666416102355444464034512896 := by rw [hA]; grind
  have hmp : m * p = m * p0 + (m * p1) * 18446744073709551616 + (m * p2) * 340282366920938463463374607431768211456 + (m * p3) * 6277101735386680763835789423207666416102355444464034512896 := by rw [hp]; grind
  have bAb : A * b ≤ A * 18446744073709551615 := Int.mul_le_mul_of_nonneg_left (by omega) (by omega)
  have bmp : m * p ≤ 18446744073709551615 * p := Int.mul_le_mul_of_nonneg_right (by omega) (by omega)
  simp only [addLo, addHi] at e9 e10 f9 f10
  have hsum : v0 * 18446744073709551616 + v1 * 340282366920938463463374607431768211456 + v2 * 6277101735386680763835789423207666416102355444464034512896 + (v3 + (u5 + k) * 18446744073709551616) * 115792089237316195423570985008687907853269984665640564039457584007913129639936 = T + A * b + m * p := by
    rw [hAb, hmp, hT]
    generalize a0 * b = w0 at *; generalize a1 * b = w1 at *; generalize a2 * b = w2 at *; generalize a3 * b = w3 at *
    generalize m * p0 = x0 at *; generalize m * p1 = x1 at *; generalize m * p2 = x2 at *; generalize m * p3 = x3 at *
    omega
  clear hAb hmp q1 q2 q3 q4 g1 g2 g3 g4 em e1 e2 e3 e4 e5 e6 e7 e8 f1 f3 f4 f5 f6 f7 f8 hz hinv
  generalize A * b = W at *
  generalize m * p = Y at *
  have hk : u5 + k ≤ 1 := by omega
  have hv4 : v4 = u5 + k := by omega
  refine ⟨by omega, by omega, by omega, by omega, by omega, by omega, by omega, hm⟩
end Sc
end
section
set_option linter.unusedVariables false
namespace Sc
open Go
def bk (b : Nat) : Nat → Int
  | 0 => 0
  | k + 1 => bk b k + limb b k * 18446744073709551616 ^ k
def tv (t0 t1 t2 t3 t4 : Int) : Int := t0 + t1 * 18446744073709551616 + t2 * 340282366920938463463374607431768211456 + t3 * 6277101735386680763835789423207666416102355444464034512896 + t4 * 115792089237316195423570985008687907853269984665640564039457584007913129639936
structure MInv (F : PrF) (a b k : Nat) (t0 t1 t2 t3 t4 : Int) : Prop where
  h0 : 0 ≤ t0 ∧ t0 < 18446744073709551616
  h1 : 0 ≤ t1 ∧ t1 < 18446744073709551616
  h2 : 0 ≤ t2 ∧ t2 < 18446744073709551616
  h3 : 0 ≤ t3 ∧ t3 < 18446744073709551616
  h4 : 0 ≤ t4 ∧ t4 ≤ 1
  lt : tv t0 t1 t2 t3 t4 < a + F.p
  eq : ∃ q : Int, tv t0 t1 t2 t3 t4 * 18446744073709551616 ^ k = a * bk b k + q * F.p
theorem MInv.zero {F : PrF} (h : FOk F) (a b : Nat) : MInv F a b 0 0 0 0 0 0 := by
  refine ⟨by decide, by decide, by decide, by decide, by decide, ?_, 0, ?_⟩
  · have := fOk h (P := fun F => 0 < F.p) (by decide) (by decide)
    simp [tv]; omega
  · simp [tv, bk]
theorem pw {x y : Int} (h : x = y) (k : Nat) : x * 18446744073709551616 ^ k = y * 18446744073709551616 ^ k := by rw [h]
theorem MInv.step {F : PrF} (hF : FOk F) {a b k : Nat} (ha : a < F.p) {t0 t1 t2 t3 t4 y : Int} (H : MInv F a b k t0 t1 t2 t3 t4) (hy : y = limb b k)
    {c1 u0 c2 u1 c3 u2 c4 u3 u4 u5 m d1 d2 v0 d3 v1 d4 v2 v3 kk v4 : Int}
    (e1 : c1 = maHi (limb a 0) y t0 0) (e2 : u0 = maLo (limb a 0) y t0 0) (e3 : c2 = maHi (limb a 1) y t1 c1) (e4 : u1 = maLo (limb a 1) y t1 c1) (e5 : c3 = maHi (limb a 2) y t2 c2) (e6 : u2 = maLo (limb a 2) y t2 c2) (e7 : c4 = maHi (limb a 3) y t3 c3) (e8 : u3 = maLo (limb a 3) y t3 c3)
    (e9 : u4 = addLo t4 c4 0) (e10 : u5 = addHi t4 c4 0) (em : m = u0 * F.inv % 18446744073709551616)
    (f1 : d1 = maHi m (limb F.p 0) u0 0) (f3 : d2 = maHi m (limb F.p 1) u1 d1) (f4 : v0 = maLo m (limb F.p 1) u1 d1) (f5 : d3 = maHi m (limb F.p 2) u2 d2) (f6 : v1 = maLo m (limb F.p 2) u2 d2) (f7 : d4 = maHi m (limb F.p 3) u3 d3) (f8 : v2 = maLo m (limb F.p 3) u3 d3)
    (f9 : v3 = addLo u4 d4 0) (f10 : kk = addHi u4 d4 0) (f11 : v4 = (u5 + kk) % 18446744073709551616) : MInv F a b (k + 1) v0 v1 v2 v3 v4 := by
  have lr : ∀ x i, 0 ≤ limb x i ∧ limb x i < 18446744073709551616 := fun x i => ⟨limb_nonneg x i, limb_lt x i⟩
  have hb : 0 ≤ y ∧ y < 18446744073709551616 := by rw [hy]; exact lr _ _
  have hA := limb_sum a (Nat.lt_trans ha (f_lt hF))
  have hp := limb_sum F.p (f_lt hF)
  obtain ⟨g1, g2, r0, r1, r2, r3, r4, rm⟩ := mont_round (z := 0) (lr a 0) (lr a 1) (lr a 2) (lr a 3) hb (lr F.p 0) (lr F.p 1) (lr F.p 2) (lr F.p 3) H.h0 H.h1 H.h2 H.h3 H.h4 hA hp rfl H.lt (by omega) (f_inv hF) e1 e2 e3 e4 e5 e6 e7 e8 e9 e10 em f1 f3 f4 f5 f6 f7 f8 f9 f10 f11
  obtain ⟨q, hq⟩ := H.eq
  refine ⟨r0, r1, r2, r3, r4, g2, q + m * 18446744073709551616 ^ k, ?_⟩
  have g3 := pw g1 k
  unfold tv at hq ⊢
  rw [Int.pow_succ, ← Int.mul_assoc, Int.mul_right_comm, g3, Int.add_mul, Int.add_mul, hq]
  simp only [bk, hy]
  grind
theorem limbs4 {b k : Nat} {y : Int} (h : [limb b 0, limb b 1, limb b 2, limb b 3][k]? = some y) : y = limb b k := by
  match k, h with
  | 0, h => simpa using h.symm
  | 1, h => simpa using h.symm
  | 2, h => simpa using h.symm
  | 3, h => simpa using h.symm
  | k + 4, h => simp at h
theorem asm_ex {t0 t1 t2 t3 : Int} (h0 : 0 ≤ t0 ∧ t0 < 18446744073709551616) (h1 : 0 ≤ t1 ∧ t1 < 18446744073709551616) (h2 : 0 ≤ t2 ∧ t2 < 18446744073709551616) (h3 : 0 ≤ t3 ∧ t3 < 18446744073709551616) :
    ∃ N : Nat, t0 = limb N 0 ∧ t1 = limb N 1 ∧ t2 = limb N 2 ∧ t3 = limb N 3 ∧ N < B256 ∧ (N : Int) = t0 + t1 * 18446744073709551616 + t2 * 340282366920938463463374607431768211456 + t3 * 6277101735386680763835789423207666416102355444464034512896 := by
  refine ⟨(t0 + t1 * 18446744073709551616 + t2 * 340282366920938463463374607431768211456 + t3 * 6277101735386680763835789423207666416102355444464034512896).toNat, ?_⟩
  have hN : (((t0 + t1 * 18446744073709551616 + t2 * 340282366920938463463374607431768211456 + t3 * 6277101735386680763835789423207666416102355444464034512896).toNat : Nat) : Int) = t0 + t1 * 18446744073709551616 + t2 * 340282366920938463463374607431768211456 + t3 * 6277101735386680763835789423207666416102355444464034512896 := by omega
  obtain ⟨l0, l1, l2, l3⟩ := limb_of _ t0 t1 t2 t3 h0 h1 h2 h3 hN
  refine ⟨l0.symm, l1.symm, l2.symm, l3.symm, ?_, hN⟩
  unfold B256
  omega
theorem bI_ex {t : Int} (h : 0 ≤ t ∧ t ≤ 1) : ∃ s : Bool, t = bI s := by
  have : t = 0 ∨ t = 1 := by omega
  rcases this with rfl | rfl
  · exact ⟨false, rfl⟩
  · exact ⟨true, rfl⟩
theorem bk4 (b : Nat) (h : b < B256) : bk b 4 = b := by
  have := limb_sum b h
  simp only [bk]
  omega
theorem MInv.done {F : PrF} (hF : FOk F) {a b N : Nat} {s : Bool} (ha : a < F.p) (hb : b < B256) (H : MInv F a b 4 (limb N 0) (limb N 1) (limb N 2) (limb N 3) (bI s)) (hN : N < B256) : fRed F N s = fMul F a b := by
  have hp := f_lt hF
  have hNs := limb_sum N hN
  obtain ⟨q, hq⟩ := H.eq
  have hlt := H.lt
  have ht : tv (limb N 0) (limb N 1) (limb N 2) (limb N 3) (bI s) = ((N + (if s then B256 else 0) : Nat) : Int) := by
    unfold tv bI B256
    cases s <;> simp <;> omega
  rw [ht] at hq hlt
  have hlt' : N + (if s then B256 else 0) < 2 * F.p := by omega
  rw [fRed_eq hF hN hlt']
  generalize N + (if s then B256 else 0) = T at *
  rw [bk4 b hb] at hq
  unfold fMul
  have e1 : ((T * B256 : Nat) : Int) % (F.p : Int) = ((a * b : Nat) : Int) % (F.p : Int) := by
    have e0 : (18446744073709551616 : Int) ^ 4 = ((B256 : Nat) : Int) := by decide
    rw [e0] at hq
    rw [Int.natCast_mul, hq, Int.natCast_mul, Int.add_mul_emod_self_right]
  have e2 : T * B256 % F.p = a * b % F.p := by
    have := e1
    rw [← Int.natCast_emod, ← Int.natCast_emod] at this
    exact Int.natCast_inj.1 this
  have e3 : T * B256 * rI F % F.p = a * b * rI F % F.p := by
    rw [Nat.mul_mod, e2, ← Nat.mul_mod]
  rw [← e3, Nat.mul_assoc, Nat.mul_mod, f_rI hF, Nat.mul_one, Nat.mod_mod]
section
variable {P : Program} {ρ : Operand → Value} {w : World} {ty : TypeId}
theorem ex_arrcut {T : TypeId} {x y : Operand} {b n k : Nat} {kk : IntKind} {h : Int} (ha : ρ x = .pointer (some ⟨b, 0, none⟩)) (hy : ρ y = .int kk h) (ht : arrOf P T = some (n, k)) (h0 : 0 ≤ h := by decide) (h1 : h ≤ n := by decide) :
    Ex P ρ (.slice T x none (some y) none) ty w (.slice (some ⟨b, 0, none⟩) h.toNat n) w := by
  obtain ⟨e, ii, hu, hi', rfl⟩ := arrOf_spec ht
  show Sem.run P _ w = _
  have h1' : h.toNat ≤ n := by omega
  simp [exec1, execOp, ha, hy, Instr.sliceAt, Instr.sureAddr, run_underlying hu, Instr.sliceBounds, Instr.sliceBound, asIntOf, h0, h1, Go.sizeOf, typeInfo, hi']
  intro _
  exact addr_add b 0 0
theorem ex_toarr {T : TypeId} {x : Operand} {b o n k m c : Nat} (ha : ρ x = .slice (some ⟨b, o, none⟩) m c) (ht : arrOf P T = some (n, k)) (hm : Nat.ble n m = true := by rfl) : Ex P ρ (.sliceToArrayPointer T x) ty w (.pointer (some ⟨b, o, none⟩)) w := by
  obtain ⟨e, ii, hu, hi', rfl⟩ := arrOf_spec ht
  rw [Nat.ble_eq] at hm
  show Sem.run P _ w = _
  have : ¬ m < n := by omega
  simp [exec1, execOp, ha, Instr.arrayAt, run_underlying hu, this]
theorem ex_arrall {T : TypeId} {x : Operand} {b n k : Nat} (ha : ρ x = .pointer (some ⟨b, 0, none⟩)) (ht : arrOf P T = some (n, k)) : Ex P ρ (.slice T x none none none) ty w (.slice (some ⟨b, 0, none⟩) n n) w := by
  obtain ⟨e, ii, hu, hi', rfl⟩ := arrOf_spec ht
  show Sem.run P _ w = _
  simp [exec1, execOp, ha, Instr.sliceAt, Instr.sureAddr, run_underlying hu, Instr.sliceBounds, Go.sizeOf, typeInfo, hi']
  intro _
  exact addr_add b 0 0
theorem sl_row {α : Type} {f : α → List Value} {ys : List α} {b e k t n : Nat} {cs : Array Value} (hf : ∀ x, (f x).length = k) (hn : n = ys.length) (hm : n ≤ maxLen) (hc : cs.toList = ys.flatMap f) : Sl (entF (some (b, .cells cs t))) e k (.slice (some ⟨b, 0, none⟩) n n) (ys.flatMap f) := by
  subst hn
  refine ⟨_, _, _, rfl, fm_length hf ys, Nat.le_refl _, hm, .inr ⟨b, 0, rfl, .inr ⟨cs, t, (0, 0), by simp [entF], ?_, ?_⟩⟩⟩
  · rw [Nat.zero_add, ← fm_length hf ys, ← hc]; simp
  · rw [List.drop_zero, hc, List.take_of_length_le (by rw [fm_length hf]; omega)]
end
end Sc
end
section
set_option linter.unusedVariables false
namespace Sc
open Go
def yv (l : Nat) : Value := .func (.yield l) #[] #[]
def markd (r : Nat) : Deferred := { target := .collected r, args := #[] }
def rcd (fn n : Nat) (m : Nat → Value) (ds : List Deferred) (ps : Array Tmp) (assign body : Code) (r : Nat) : Loop :=
  { state := .ready, pending := none, fn, tmps := (act n m ds).tmps, params := ps, assign, body, defers := r }
def busy (rc : Loop) : Loop := { rc with state := .busy }
def rest (rc : Loop) : Loop := { rc with state := .ready, pending := none }
section
variable {P : Program} {n : Nat} {m : Nat → Value} {ds : List Deferred} {X : List Nat} {w0 w w' : World} {L : List Ent} {Z : List Fact}
theorem C_range {g : Operand} {ps : Array Tmp} {assign body : Code} {Q : Exit → Act → World → Prop} {f : FuncId} {first cap : Array Value}
    (hS : St X w0 w L Z) (hg : ev n m g = .func (.func f) first cap) (hf : enters P f = true)
    (h : ∀ (fn r l : Nat) (w1 : World), St X w0 w1 (some (l, .loop (rcd fn n m ds ps assign body r)) :: some (r, .deferred (some [])) :: L) Z →
      Calls P f (first ++ #[yv l] ++ cap) w1 (Ret fun _ w2 => ∃ rc, w2.heap[l]? = some (.loop rc) ∧ rc.state = .ready ∧ rc.pending = none ∧
        Q .normal (act n m (markd r :: ds)) (w2.putObj l (.loop { rc with state := .exhausted })))) :
    C none P (.rangeFunc g ps assign body) Q (act n m ds) w := by
  unfold enters at hf
  cases hq : P.funcs[f]? with
  | none => simp [hq] at hf
  | some fn0 =>
    simp [hq] at hf
    obtain ⟨h1, h2⟩ := hf
    have h3 : fn0.body ≠ none := by intro e; simp [e] at h2
    refine wpIn_rangeFunc fun fn _ => ?_
    have hS1 := (hS.new (.deferred (some []))).new (.loop (rcd fn n m ds ps assign body w.heap.size))
    rw [World.size_alloc] at hS1
    refine ⟨w.heap.size + 1, [markd w.heap.size], ((w.alloc (.deferred (some []))).alloc (.loop (rcd fn n m ds ps assign body w.heap.size))), { target := .fn (.func f) cap, args := first ++ #[yv (w.heap.size + 1)] }, ((w.alloc (.deferred (some []))).alloc (.loop (rcd fn n m ds ps assign body w.heap.size))), f, first ++ #[yv (w.heap.size + 1)] ++ cap, ((w.alloc (.deferred (some []))).alloc (.loop (rcd fn n m ds ps assign body w.heap.size))), run_enterLoop_outer fn _ ps assign body, ?_, fun _ _ => trivial, ?_, (fun h => by cases h), ?_⟩
    · simp only [eval_act, resolve, rangeCall]
      have hy : ev n m (.const (.func (.yield (w.heap.size + 1)) #[] #[])) = yv (w.heap.size + 1) := rfl
      simp [hg, hy, Deferred.ofValue]
    · simp [invoke, callFunc, hq, h1, h3]
    · refine CallsIn.mono (callsIn_of (h fn _ _ _ hS1)) fun e w2 he => ?_
      cases e with
      | returned v =>
        obtain ⟨rc, hl, hr, hp, hQ⟩ := he
        exact ⟨none, _, by rw [run_endLoop hl (by rw [hr]; decide), hp], hQ⟩
      | panicked => exact he.elim
      | outgrown => exact he.elim
structure YOk (P : Program) (y : Value) (args : Array Value) (w : World) (R : Value → World → Prop) : Prop where
  run : ∀ (ρ : Operand → Value) (g : Operand) (xs : Array Operand) (ts : Array TypeId) (ty : TypeId), ρ g = y → xs.map ρ = args →
    ∃ l f tmps assign body, ExR P ρ (.call { callee := .value g, args := xs, argTypes := ts }) ty w l f tmps assign body ∧ Rounds P l f tmps assign body w R
theorem sqy {ro : Option Nat} {ops : Array Oper} {Q : Exit → Act → World → Prop} {rest : List Oper} {dst : Option Nat} {ty : TypeId} {pos : String} {af : Array Edge} {g : Operand} {xs : Array Operand} {ts : Array TypeId} {y : Value} {args : Array Value}
    {R : Value → World → Prop} (hY : YOk P y args w R) (hg : ev n m g = y) (ha : xs.map (ev n m) = args) (h : ∀ v w', R v w' → wpL ro P ops Q rest (act n (updO m dst v) ds) w') :
    wpL ro P ops Q (⟨dst, .call { callee := .value g, args := xs, argTypes := ts }, ty, pos, af, none⟩ :: rest) (act n m ds) w := by
  obtain ⟨l, f, tmps, assign, body, h1, h2⟩ := hY.run _ _ _ ts ty hg ha
  exact sqr h1 h2 h
theorem YOk.mono {y : Value} {args : Array Value} {R R' : Value → World → Prop} (h : YOk P y args w R) (hR : ∀ v w', R v w' → R' v w') : YOk P y args w R' := ⟨fun ρ g xs ts ty hg ha => by
  obtain ⟨l, f, tmps, assign, body, h1, h2⟩ := h.run ρ g xs ts ty hg ha
  exact ⟨l, f, tmps, assign, body, h1, RoundIn.mono h2 fun e w he => by
    cases e with
    | returned v => exact hR v w he
    | panicked => exact he
    | outgrown => exact he⟩⟩
theorem round_of {l f : Nat} {tmps : Array Value} {assign body : Code} {R : Value → World → Prop}
    (h : C (some l) P assign (thn (fun a1 w1 => ∃ w2, (Instr.beginRound l).run P w1 = .ok () w2 ∧ C (some l) P body (roundPost P l (Ret R)) a1 w2) (fun _ _ _ => False)) { tmps := tmps, defers := [] } w) : Rounds P l f tmps assign body w R :=
  roundIn_of_wpIn trivial (wpIn_mono h fun e a w he => by cases e <;> exact he)
theorem tmps_put (t : Nat) (v : Value) : (act n m ds).tmps.setIfInBounds t v = (act n (upd m t v) ds).tmps := by
  have := put_act n m ds (some t) v
  exact congrArg Act.tmps this
theorem yok1 {l i p : Nat} {x : Value} {rc : Loop} {R : Value → World → Prop} (hS : St X w0 w L Z) (hi : L[i]? = some (some (l, .loop rc))) (ht : rc.tmps = (act n m ds).tmps) (hp : rc.params = #[p])
    (h : C (some l) P rc.assign (thn (fun a1 w1 => ∃ w2, (Instr.beginRound l).run P w1 = .ok () w2 ∧ C (some l) P rc.body (roundPost P l (Ret R)) a1 w2) (fun _ _ _ => False)) (act n (upd m p x) []) w) : YOk P (yv l) #[x] w R := by
  refine ⟨fun ρ g xs ts ty hg ha => ?_⟩
  have hl := hS.at i hi
  have hy := run_yield (P := P) (args := #[x]) hl (by rw [hp]; rfl)
  refine ⟨l, rc.fn, _, rc.assign, rc.body, ?_, round_of h⟩
  show Sem.run P _ w = _
  simp only [exec1, execOp, resolve, hg, ha, yv, Deferred.ofValue]
  simp [invoke, hy, ht, hp, tmps_put]
  rfl
theorem yok2 {l i p q : Nat} {x z : Value} {rc : Loop} {R : Value → World → Prop} (hS : St X w0 w L Z) (hi : L[i]? = some (some (l, .loop rc))) (ht : rc.tmps = (act n m ds).tmps) (hp : rc.params = #[p, q])
    (h : C (some l) P rc.assign (thn (fun a1 w1 => ∃ w2, (Instr.beginRound l).run P w1 = .ok () w2 ∧ C (some l) P rc.body (roundPost P l (Ret R)) a1 w2) (fun _ _ _ => False)) (act n (upd (upd m p x) q z) []) w) : YOk P (yv l) #[x, z] w R := by
  refine ⟨fun ρ g xs ts ty hg ha => ?_⟩
  have hl := hS.at i hi
  have hy := run_yield (P := P) (args := #[x, z]) hl (by rw [hp]; rfl)
  refine ⟨l, rc.fn, _, rc.assign, rc.body, ?_, round_of h⟩
  show Sem.run P _ w = _
  simp only [exec1, execOp, resolve, hg, ha, yv, Deferred.ofValue]
  simp [invoke, hy, ht, hp, tmps_put]
  rfl
theorem begin_ok (i : Nat) {l : Nat} {rc : Loop} (hS : St X w0 w L Z) (hi : L[i]? = some (some (l, .loop rc))) (hr : rc.state = .ready) : ∃ w2, (Instr.beginRound l).run P w = .ok () w2 ∧ St X w0 w2 (L.set i (some (l, .loop (busy rc)))) Z :=
  ⟨_, run_beginRound (hS.at i hi) hr, hS.obj i _ hi⟩
theorem round_end (i : Nat) {l : Nat} {rc : Loop} {a : Act} {R : Value → World → Prop} (hS : St X w0 w L Z) (hi : L[i]? = some (some (l, .loop rc))) (h : ∀ w', St X w0 w' (L.set i (some (l, .loop (rest rc)))) Z → R (.bool true) w') : roundPost P l (Ret R) .normal a w :=
  ⟨_, _, run_endRound none (hS.at i hi), h _ (hS.obj i _ hi)⟩
def TakeAll : List Nat → World → (World → Prop) → Prop
  | [], w, K => K w
  | r :: rs, w, K => w.heap[r]? = some (.deferred (some [])) ∧ TakeAll rs (w.putObj r (.deferred none)) K
def doneM (P : Program) (fn : Func) (R : Value → World → Prop) : Exit → Act → World → Prop
  | .normal, a, w | .ret, a, w => ∃ rs, a.defers = rs.map markd ∧ TakeAll rs w fun w' => ∃ v, (results fn a.tmps).run P w' = .ok v w' ∧ R v w'
  | _, _, _ => False
theorem take_leaves {fn : Func} {tmps : Array Value} {R : Value → World → Prop} : ∀ (rs : List Nat) (w : World), (TakeAll rs w fun w' => ∃ v, (results fn tmps).run P w' = .ok v w' ∧ R v w') → LeavesInM (FR none) 0 P fn tmps (Ret R) (rs.map markd) .returning w
  | [], w, h => h
  | r :: rs, w, h => ⟨by simp, .inl ⟨r, _, rfl, run_takeDeferred h.1, take_leaves rs _ h.2⟩⟩
theorem callsM_of {f : FuncId} {fn : Func} {c : Code} {args : Array Value} {R : Value → World → Prop} (hf : P.funcs[f]? = some fn) (hb : fn.body = some c) (hn : fn.ntmps = n) (hs : args.size ≤ n)
    (h : C none P c (doneM P fn R) (act n (fun t => args.getD t undef) []) w) : Calls P f args w (Ret R) := by
  refine (callsIn_wide (n := 0)).1 (callsIn_of_wp_marks hf hb trivial ?_)
  rw [hn, entry_tmps args n hs]
  refine wpIn_mono h fun e a w hq => ?_
  cases e with
  | normal => obtain ⟨rs, h1, h2⟩ := hq; show LeavesInM _ _ _ _ _ _ _ _ _; rw [h1]; exact take_leaves rs w h2
  | ret => obtain ⟨rs, h1, h2⟩ := hq; show LeavesInM _ _ _ _ _ _ _ _ _; rw [h1]; exact take_leaves rs w h2
  | exit => exact hq.elim
  | goto => exact hq.elim
  | panic => exact hq.elim
  | outgrown => exact hq.elim
theorem take1 (i : Nat) {r : Nat} {rs : List Nat} {K : World → Prop} (hS : St X w0 w L Z) (hi : L[i]? = some (some (r, .deferred (some [])))) (h : ∀ w', St X w0 w' (L.set i (some (r, .deferred none))) Z → TakeAll rs w' K) : TakeAll (r :: rs) w K :=
  ⟨hS.at i hi, h _ (hS.obj i _ hi)⟩
theorem doneM_1 {fn : Func} {R : Value → World → Prop} {e : Exit} {rs : List Nat} {rv : ResultVar} {v : Value} (he : e = .normal ∨ e = .ret) (hd : ds = rs.map markd) (hr : fn.results = #[rv]) (h : TakeAll rs w fun w' => resv P n m w' rv v ∧ R v w') : doneM P fn R e (act n m ds) w := by
  have : TakeAll rs w fun w' => ∃ v, (results fn (act n m ds).tmps).run P w' = .ok v w' ∧ R v w' := by
    have mono : ∀ (rs : List Nat) (w : World) (K K' : World → Prop), (∀ w, K w → K' w) → TakeAll rs w K → TakeAll rs w K' := by
      intro rs
      induction rs with
      | nil => exact fun w K K' h1 h2 => h1 w h2
      | cons r rs ih => exact fun w K K' h1 h2 => ⟨h2.1, ih _ K K' h1 h2.2⟩
    exact mono rs w _ _ (fun w ⟨h1, h2⟩ => ⟨v, results_1 hr h1 ds, h2⟩) h
  rcases he with rfl | rfl <;> exact ⟨rs, hd, this⟩
theorem doneM_2 {fn : Func} {R : Value → World → Prop} {e : Exit} {rs : List Nat} {rv ru : ResultVar} {v u : Value} (he : e = .normal ∨ e = .ret) (hd : ds = rs.map markd) (hr : fn.results = #[rv, ru]) (h : TakeAll rs w fun w' => resv P n m w' rv v ∧ resv P n m w' ru u ∧ R (.tuple #[v, u]) w') : doneM P fn R e (act n m ds) w := by
  have : TakeAll rs w fun w' => ∃ v, (results fn (act n m ds).tmps).run P w' = .ok v w' ∧ R v w' := by
    have mono : ∀ (rs : List Nat) (w : World) (K K' : World → Prop), (∀ w, K w → K' w) → TakeAll rs w K → TakeAll rs w K' := by
      intro rs
      induction rs with
      | nil => exact fun w K K' h1 h2 => h1 w h2
      | cons r rs ih => exact fun w K K' h1 h2 => ⟨h2.1, ih _ K K' h1 h2.2⟩
    exact mono rs w _ _ (fun w ⟨h1, h2, h3⟩ => ⟨_, results_2 hr h1 h2 ds, h3⟩) h
  rcases he with rfl | rfl <;> exact ⟨rs, hd, this⟩
theorem doneM_0 {fn : Func} {R : Value → World → Prop} {e : Exit} {rs : List Nat} (he : e = .normal ∨ e = .ret) (hd : ds = rs.map markd) (hr : fn.results = #[]) (h : TakeAll rs w fun w' => R (.tuple #[]) w') : doneM P fn R e (act n m ds) w := by
  have : TakeAll rs w fun w' => ∃ v, (results fn (act n m ds).tmps).run P w' = .ok v w' ∧ R v w' := by
    have mono : ∀ (rs : List Nat) (w : World) (K K' : World → Prop), (∀ w, K w → K' w) → TakeAll rs w K → TakeAll rs w K' := by
      intro rs
      induction rs with
      | nil => exact fun w K K' h1 h2 => h1 w h2
      | cons r rs ih => exact fun w K K' h1 h2 => ⟨h2.1, ih _ K K' h1 h2.2⟩
    exact mono rs w _ _ (fun w h1 => ⟨_, results_0 hr ds, h1⟩) h
  rcases he with rfl | rfl <;> exact ⟨rs, hd, this⟩
def Y1 (y : Value) : Prop := y.cells = #[y] ∧ y.oneCell' = true
def Iter (P : Program) (Z0 : List Fact) (g : Value) (seq : List (Array Value)) : Prop :=
  ∃ f first cap, g = .func (.func f) first cap ∧ enters P f = true ∧ ∀ (y : Value), Y1 y → ∀ (Q : Nat → List Ent → Prop) (Lt : List Ent) (w : World), Holds w Z0 → Off (bks Lt) Z0 → St (bks Lt) w w Lt [] → Q 0 Lt →
    (∀ (j : Nat) (args : Array Value) (w : World) (Lt : List Ent), seq[j]? = some args → Q j Lt → Holds w Z0 → Off (bks Lt) Z0 → St (bks Lt) w w Lt [] →
      YOk P y args w fun u w' => u = .bool true ∧ ∃ Lt', Q (j + 1) Lt' ∧ St (bks Lt) w w' Lt' []) →
    Calls P f (first ++ #[y] ++ cap) w (Ret fun u w' => u = .tuple #[] ∧ ∃ Lt', Q seq.length Lt' ∧ St (bks Lt) w w' Lt' [])
end
end Sc
end
section
set_option linter.unusedVariables false
namespace Sc
open Go
section
variable {P : Program} {ρ : Operand → Value} {w w' w0 : World} {ty : TypeId} {X : List Nat} {L L' Lf Lt : List Ent} {Z : List Fact}
theorem St.perm (h : St X w0 w L Z) (hp : L.Perm L') : St X w0 w L' Z :=
  ⟨h.frm, fun p hp' => h.own p (hp.mem_iff.2 hp'), (hp.pairwise_iff (fun {a b} hab p q h1 h2 => (hab q p h2 h1).symm)).1 h.dis, h.ro, fun p hp' q hq => h.sep p hp' q (hp.mem_iff.2 hq)⟩
theorem St.last {e : Ent} (h : St X w0 w (e :: (Lf ++ Lt)) Z) : St X w0 w (Lf ++ (Lt ++ [e])) Z :=
  h.perm (by rw [← List.append_assoc]; exact (List.perm_append_singleton e (Lf ++ Lt)).symm)
def rE (tR : TypeId) (r : Nat × List Ev) : Ent := some (r.1, .cells (r.2.flatMap cE).toArray tR)
theorem map_get {rows : List (Nat × List Ev)} {j y : Nat} (h : (rows.map (·.1))[j]? = some y) : ∃ es, rows[j]? = some (y, es) := by
  rw [List.getElem?_map] at h
  cases hr : rows[j]? with
  | none => simp [hr] at h
  | some r => simp [hr] at h; exact ⟨r.2, by rw [← h]⟩
theorem len_cE (x : Ev) : (cE x).length = 3 := rfl
theorem st_storesRow {T tR : TypeId} {x y : Operand} {rows : List (Nat × List Ev)} {j b i : Nat} {es : List Ev} {u : Value} {e : Ev} (hr : rows[j]? = some (b, es)) (hi : i < es.length) (hS : St X w0 w (Lf ++ rows.map (rE tR)) Z)
    (ha : ρ x = .pointer (some ⟨b, i * 3, none⟩)) (hy : ρ y = u) (hk : aggOf P T = some 3) (hu : u.cells.toList = cE e) :
    ∃ w', ExU P ρ (.store T x y) ty w w' ∧ St X w0 w' (Lf ++ (rows.set j (b, es.set i e)).map (rE tR)) Z := by
  have hj : j < rows.length := (List.getElem?_eq_some_iff.1 hr).1
  have hL : (Lf ++ rows.map (rE tR))[Lf.length + j]? = some (some (b, .cells (es.flatMap cE).toArray tR)) := by
    rw [List.getElem?_append_right (by omega), Nat.add_sub_cancel_left, List.getElem?_map, hr]; rfl
  obtain ⟨w', h1, h2⟩ := st_storesM (f := cE) (k := 3) (z := e) (i' := i) (ty := ty) len_cE (Lf.length + j) hS ha hy hL hk rfl hi hu (ones_of rfl)
  refine ⟨w', h1, h2.to ?_⟩
  rw [List.set_append_right _ _ (by omega), Nat.add_sub_cancel_left, List.map_set]
  rfl
theorem fm_setRow : ∀ (rows : List (Nat × List Ev)) (j b i : Nat) (es : List Ev) (e : Ev), (∀ r ∈ rows, r.2.length = 64) → rows[j]? = some (b, es) → i < 64 → (rows.set j (b, es.set i e)).flatMap (·.2) = (rows.flatMap (·.2)).set (64 * j + i) e
  | [], j, b, i, es, e, _, h, _ => by simp at h
  | r :: rows, 0, b, i, es, e, h64, h, hi => by
    simp at h; subst h
    have : es.length = 64 := h64 (b, es) (by simp)
    simp only [List.set_cons_zero, List.flatMap_cons, Nat.mul_zero, Nat.zero_add]
    rw [List.set_append_left _ _ (by omega)]
  | r :: rows, j + 1, b, i, es, e, h64, h, hi => by
    have hr : r.2.length = 64 := h64 r (by simp)
    simp only [List.set_cons_succ, List.flatMap_cons]
    rw [fm_setRow rows j b i es e (fun x hx => h64 x (by simp [hx])) (by simpa using h) hi, List.set_append_right _ _ (by omega), hr]
    congr 2
    omega
theorem fm_len64 : ∀ (rows : List (Nat × List Ev)), (∀ r ∈ rows, r.2.length = 64) → (rows.flatMap (·.2)).length = 64 * rows.length
  | [], _ => rfl
  | r :: rows, h => by
    simp only [List.flatMap_cons, List.length_append, List.length_cons]
    rw [h r (by simp), fm_len64 rows (fun x hx => h x (by simp [hx]))]; omega
theorem tape_push {rows : List (Nat × List Ev)} {ev : List Ev} {j b : Nat} {es : List Ev} (e : Ev) (h64 : ∀ r ∈ rows, r.2.length = 64) (hev : ev = (rows.flatMap (·.2)).take ev.length) (hj : j = ev.length / 64) (hr : rows[j]? = some (b, es)) (h1 : ev.length < 64 * rows.length) :
    ev ++ [e] = (((rows.set j (b, es.set (ev.length % 64) e)).flatMap (·.2))).take (ev ++ [e]).length := by
  rw [fm_setRow rows j b _ es e h64 hr (Nat.mod_lt _ (by decide))]
  have e1 : 64 * j + ev.length % 64 = ev.length := by omega
  have hl := fm_len64 rows h64
  rw [e1, List.length_append, List.length_singleton]
  rw [take_snoc (x := e) (by rw [List.getElem?_set_self (by omega)]), List.take_set_of_le (Nat.le_refl _), ← hev]
theorem setRow_64 {rows : List (Nat × List Ev)} {j b i : Nat} {es : List Ev} {e : Ev} (h64 : ∀ r ∈ rows, r.2.length = 64) (hr : rows[j]? = some (b, es)) : ∀ r ∈ rows.set j (b, es.set i e), r.2.length = 64 := by
  intro r h
  rcases List.mem_or_eq_of_mem_set h with h | h
  · exact h64 r h
  · subst h; simpa using h64 (b, es) (List.mem_of_getElem? hr)
theorem setRow_fst {rows : List (Nat × List Ev)} {j b i : Nat} {es : List Ev} {e : Ev} (hr : rows[j]? = some (b, es)) : (rows.set j (b, es.set i e)).map (·.1) = rows.map (·.1) := by
  rw [List.map_set]
  apply List.ext_getElem?
  intro k
  rw [List.getElem?_set]
  by_cases h : j = k
  · subst h
    obtain ⟨h1, h2⟩ := List.getElem?_eq_some_iff.1 hr
    simp [h1, h2]
  · simp [h]
theorem app_take {rows : List (Nat × List Ev)} {ev : List Ev} (row : Nat × List Ev) (hev : ev = (rows.flatMap (·.2)).take ev.length) (h64 : ∀ r ∈ rows, r.2.length = 64) (h : ev.length ≤ 64 * rows.length) : ev = ((rows ++ [row]).flatMap (·.2)).take ev.length := by
  have hl := fm_len64 rows h64
  rw [List.flatMap_append, List.take_append_of_le_length (by omega)]
  exact hev
theorem St.pickB (h : St X w0 w (Lf ++ Lt) Z) (is : List Nat) (hnd : is.Nodup) (hlt : (is.all fun i => Nat.blt i Lf.length) = true) : St X w0 w ((is.map fun i => Lf.getD i Option.none) ++ Lt) Z :=
  h.pickS is hnd fun i hi => by
    have := List.all_eq_true.1 hlt i hi
    simpa [Nat.blt_eq] using this
theorem own_1 {α : Type} {e k : Nat} {f : α → List Value} {v : Value} {xs : List α} {x : Ent} (h : Own e k f v xs x) : v.cells = #[v] ∧ v.oneCell' = true := by
  obtain ⟨a, c, rfl, _⟩ := own_len h
  exact ⟨rfl, rfl⟩
theorem sl_1 {Z : List Fact} {e k : Nat} {v : Value} {cs : List Value} (h : Sl Z e k v cs) : v.cells = #[v] ∧ v.oneCell' = true := by
  obtain ⟨a, n, c, rfl, _⟩ := h
  exact ⟨rfl, rfl⟩
end
end Sc
end
section
set_option linter.unusedVariables false
namespace Sc
open Go
def ptrOf (P : Program) (t : TypeId) : Bool := match P.underlying t with | some (.pointer _) => !P.eqGuardType P.depth t | _ => false
def arr4 (P : Program) (t : TypeId) : Bool := match P.underlying t with
  | some (.array 4 e) => (match P.underlying e with | some (.int .u64) => true | _ => false) && ((P.info? e).map (·.size)) == some 1 && !P.eqGuardType P.depth t
  | _ => false
section
variable {P : Program} {ρ : Operand → Value} {w w' w0 : World} {ty : TypeId}
theorem ex_nilcmp {T T' : TypeId} {op : BinOp} {a b : Operand} {t : Bool} {p : Option Addr} (hT : ptrOf P T = true) (ha : ρ a = .pointer p) (hb : ρ b = .pointer none) (hop : (match op with | .neq => t = !p.isNone | .eql => t = p.isNone | _ => False)) : Ex P ρ (.binOp op T a b T') ty w (.bool t) w := by
  unfold ptrOf at hT
  cases hu : P.underlying T with
  | none => simp [hu] at hT
  | some d =>
    cases d <;> simp [hu] at hT
    rename_i e
    have h1 : P.underlying T = some (.pointer (P.pointee T)) := by rw [hu]; simp [Program.pointee, hu]
    show Sem.run P _ w = _
    cases op <;> simp only at hop <;> subst hop <;> simp [exec1, execOp, ha, hb, eqGuard, run_program, hT, run_eql_pointer_nil w T p h1, run_neq_pointer_nil w T p h1]
theorem limb_inj {x y : Nat} (hx : x < B256) (hy : y < B256) (h0 : limb x 0 = limb y 0) (h1 : limb x 1 = limb y 1) (h2 : limb x 2 = limb y 2) (h3 : limb x 3 = limb y 3) : x = y := by
  have := limb_sum x hx
  have := limb_sum y hy
  omega
theorem run_part {t : TypeId} (h : oneOf P t = true) {cs : Array Value} {o : Nat} {v : Value} (hv : cs[o]? = some v) (w : World) : (part t cs o).run P w = .ok v w := by
  obtain ⟨h1, h2⟩ := run_isOne h w
  simp [part, h1, hv]
theorem run_eq4 {T e : TypeId} {i : TypeInfo} (hT : P.underlying T = some (.array 4 e)) (he : P.underlying e = some (.int .u64)) (hi : P.info? e = some i) (h1 : i.size = 1) (a0 a1 a2 a3 b0 b1 b2 b3 : Int) (d : Nat) (w : World) :
    (Op.equalIn (d + 2) T (.agg #[.int .u64 a0, .int .u64 a1, .int .u64 a2, .int .u64 a3]) (.agg #[.int .u64 b0, .int .u64 b1, .int .u64 b2, .int .u64 b3])).run P w = .ok (a0 == b0 && (a1 == b1 && (a2 == b2 && a3 == b3))) w := by
  have ho : oneOf P e = true := by simp [oneOf, he, hi, h1]
  generalize hx : (#[.int .u64 a0, .int .u64 a1, .int .u64 a2, .int .u64 a3] : Array Value) = xs
  generalize hy : (#[.int .u64 b0, .int .u64 b1, .int .u64 b2, .int .u64 b3] : Array Value) = ys
  have x0 : xs[0]? = some (.int .u64 a0) := by rw [← hx]; rfl
  have x1 : xs[1]? = some (.int .u64 a1) := by rw [← hx]; rfl
  have x2 : xs[2]? = some (.int .u64 a2) := by rw [← hx]; rfl
  have x3 : xs[3]? = some (.int .u64 a3) := by rw [← hx]; rfl
  have y0 : ys[0]? = some (.int .u64 b0) := by rw [← hy]; rfl
  have y1 : ys[1]? = some (.int .u64 b1) := by rw [← hy]; rfl
  have y2 : ys[2]? = some (.int .u64 b2) := by rw [← hy]; rfl
  have y3 : ys[3]? = some (.int .u64 b3) := by rw [← hy]; rfl
  clear hx hy
  rw [Op.equalIn]
  simp only [Sem.run_bind, run_underlying hT, Result.andThen_ok, Go.sizeOf, typeInfo, run_program, hi, h1, Std.Legacy.Range.forIn_eq_forIn_range', Std.Legacy.Range.size, Nat.sub_zero, Nat.add_sub_cancel, Nat.div_one, List.range', Sem.run_pure]
  simp only [List.forIn_cons, List.forIn_nil, Nat.mul_one, Nat.zero_add, Nat.reduceAdd, Sem.run_bind, run_part ho x0, run_part ho x1, run_part ho x2, run_part ho x3, run_part ho y0, run_part ho y1, run_part ho y2, run_part ho y3, Result.andThen_ok, run_equalIn_int w d e .u64 .u64 _ _ he]
  by_cases c0 : a0 = b0
  · by_cases c1 : a1 = b1
    · by_cases c2 : a2 = b2
      · by_cases c3 : a3 = b3 <;> simp [c0, c1, c2, c3, run_part ho x0, run_part ho x1, run_part ho x2, run_part ho x3, run_part ho y0, run_part ho y1, run_part ho y2, run_part ho y3, run_equalIn_int w d e .u64 .u64 _ _ he]
      · simp [c0, c1, c2, run_part ho x0, run_part ho x1, run_part ho x2, run_part ho x3, run_part ho y0, run_part ho y1, run_part ho y2, run_part ho y3, run_equalIn_int w d e .u64 .u64 _ _ he]
    · simp [c0, c1, run_part ho x0, run_part ho x1, run_part ho x2, run_part ho x3, run_part ho y0, run_part ho y1, run_part ho y2, run_part ho y3, run_equalIn_int w d e .u64 .u64 _ _ he]
  · simp [c0, run_part ho x0, run_part ho x1, run_part ho x2, run_part ho x3, run_part ho y0, run_part ho y1, run_part ho y2, run_part ho y3, run_equalIn_int w d e .u64 .u64 _ _ he]
theorem ex_eqEl {T T' : TypeId} {op : BinOp} {a b : Operand} {t : Bool} {x y : Nat} (hT : arr4 P T = true) (hx : x < B256) (hy : y < B256) (ha : ρ a = elV x) (hb : ρ b = elV y) (hop : (match op with | .neq => t = decide (x ≠ y) | .eql => t = decide (x = y) | _ => False)) : Ex P ρ (.binOp op T a b T') ty w (.bool t) w := by
  unfold arr4 at hT
  cases hu : P.underlying T with
  | none => simp [hu] at hT
  | some d =>
    cases d <;> simp only [hu] at hT <;> try cases hT
    rename_i n e
    split at hT
    · rename_i n' e' heq
      cases heq
      simp only [Bool.and_eq_true] at hT
      obtain ⟨⟨hT1, hT2⟩, hT3⟩ := hT
      have he : P.underlying e = some (.int .u64) := by
        split at hT1
        · rename_i h; exact h
        · cases hT1
      have hT3' : P.eqGuardType P.depth T = false := by simpa using hT3
      cases hi : P.info? e with
      | none => simp [hi] at hT2
      | some i =>
        have h1 : i.size = 1 := by simpa [hi] using hT2
        have key := run_eq4 hu he hi h1 (limb x 0) (limb x 1) (limb x 2) (limb x 3) (limb y 0) (limb y 1) (limb y 2) (limb y 3) 9998 w
        have hv : (limb x 0 == limb y 0 && (limb x 1 == limb y 1 && (limb x 2 == limb y 2 && limb x 3 == limb y 3))) = decide (x = y) := by
          by_cases h : x = y
          · subst h; simp
          · simp only [h, decide_false, Bool.and_eq_false_iff, beq_eq_false_iff_ne, ne_eq]
            by_cases g0 : limb x 0 = limb y 0
            · by_cases g1 : limb x 1 = limb y 1
              · by_cases g2 : limb x 2 = limb y 2
                · exact .inr (.inr (.inr fun g3 => h (limb_inj hx hy g0 g1 g2 g3)))
                · exact .inr (.inr (.inl g2))
              · exact .inr (.inl g1)
            · exact .inl g0
        have ha' : ρ a = .agg #[.int .u64 (limb x 0), .int .u64 (limb x 1), .int .u64 (limb x 2), .int .u64 (limb x 3)] := ha
        have hb' : ρ b = .agg #[.int .u64 (limb y 0), .int .u64 (limb y 1), .int .u64 (limb y 2), .int .u64 (limb y 3)] := hb
        rw [hv] at key
        show Sem.run P _ w = _
        cases op <;> simp only at hop <;> subst hop <;> simp [exec1, execOp, ha', hb', run_eqGuard_agg, hT3', run_eql_struct, run_neq_struct, key]
    · cases hT
end
end Sc
end
section
set_option linter.unusedVariables false
namespace Sc
open Go
def bseq (xs : List Nat) : List (Array Value) := xs.zipIdx.reverse.map fun p => #[.int .i64 (p.2 : Int), elV p.1]
def fseq (xs : List Nat) : List (Array Value) := xs.zipIdx.map fun p => #[.int .i64 (p.2 : Int), elV p.1]
theorem fseq_len (xs : List Nat) : (fseq xs).length = xs.length := by simp [fseq]
theorem bseq_len (xs : List Nat) : (bseq xs).length = xs.length := by simp [bseq]
theorem fseq_get {xs : List Nat} {j x : Nat} (h : xs[j]? = some x) : (fseq xs)[j]? = some #[.int .i64 (j : Int), elV x] := by
  unfold fseq
  rw [List.getElem?_map, List.getElem?_zipIdx, h]
  simp
theorem bseq_get {xs : List Nat} {j x : Nat} (h : xs[j]? = some x) : (bseq xs)[xs.length - 1 - j]? = some #[.int .i64 (j : Int), elV x] := by
  have hj : j < xs.length := (List.getElem?_eq_some_iff.1 h).1
  unfold bseq
  rw [List.getElem?_map, List.getElem?_reverse (by simp; omega), List.getElem?_zipIdx]
  simp only [List.length_zipIdx]
  rw [show xs.length - 1 - (xs.length - 1 - j) = j from by omega, h]
  simp
theorem fseq_inv {xs : List Nat} {j : Nat} {args : Array Value} (h : (fseq xs)[j]? = some args) : ∃ x, xs[j]? = some x ∧ args = #[.int .i64 (j : Int), elV x] := by
  have hj : j < xs.length := by rw [← fseq_len xs]; exact (List.getElem?_eq_some_iff.1 h).1
  obtain ⟨x, hx⟩ := get_lt xs j hj
  rw [fseq_get hx] at h
  exact ⟨x, hx, (Option.some.inj h).symm⟩
theorem bseq_inv {xs : List Nat} {j : Nat} {args : Array Value} (h : (bseq xs)[j]? = some args) : ∃ i x, i + j + 1 = xs.length ∧ xs[i]? = some x ∧ args = #[.int .i64 (i : Int), elV x] := by
  have hj : j < xs.length := by rw [← bseq_len xs]; exact (List.getElem?_eq_some_iff.1 h).1
  obtain ⟨x, hx⟩ := get_lt xs (xs.length - 1 - j) (by omega)
  have := bseq_get hx
  rw [show xs.length - 1 - (xs.length - 1 - j) = j from by omega, h] at this
  exact ⟨_, x, by omega, hx, Option.some.inj this⟩
section
variable {K : Act → World → Prop} {Q : Exit → Act → World → Prop} {a : Act} {w : World} {id id' : Nat}
theorem thn_exit (h : Q (.exit id) a w) : thn K Q (.exit id) a w := h
theorem thn_ret (h : Q .ret a w) : thn K Q .ret a w := h
theorem blk_exit (h : Q .normal a w) : blk id Q (.exit id) a w := by
  show (bif Nat.beq id id then Q .normal a w else Q (.exit id) a w)
  rw [Nat.beq_refl]; exact h
theorem blk_ret (h : Q .ret a w) : blk id Q .ret a w := h
theorem blk_normal (h : Q .normal a w) : blk id Q .normal a w := h
end
end Sc
end
section
set_option linter.unusedVariables false
namespace Sc
open Go
def IterT (P : Program) (Tp : Value → List Ev → List Ent → Prop) (Z0 : List Fact) (t : Value) (g : Value) (seq : List (Array Value)) (evs : Nat → List Ev) : Prop :=
  ∃ f first cap, g = .func (.func f) first cap ∧ enters P f = true ∧ ∀ (y : Value), Y1 y → ∀ (Q : Nat → List Ent → Prop) (Lt Lu : List Ent) (ev : List Ev) (w : World), Holds w Z0 → Off (bks (Lt ++ Lu)) Z0 → St (bks (Lt ++ Lu)) w w (Lt ++ Lu) [] → Tp t ev Lu → ev.length + seq.length < 1099511627776 → Q 0 Lt →
    (∀ (j : Nat) (args : Array Value) (w : World) (Lt : List Ent), seq[j]? = some args → Q j Lt → Holds w Z0 → Off (bks Lt) Z0 → St (bks Lt) w w Lt [] →
      YOk P y args w fun u w' => u = .bool true ∧ ∃ Lt', Q (j + 1) Lt' ∧ St (bks Lt) w w' Lt' []) →
    Calls P f (first ++ #[y] ++ cap) w (Ret fun u w' => u = .tuple #[] ∧ ∃ Lt' Lu', Q seq.length Lt' ∧ Tp t (ev ++ evs seq.length) Lu' ∧ St (bks (Lt ++ Lu)) w w' (Lt' ++ Lu') [])
def ievs (idx : Nat → Nat) (j : Nat) : List Ev := (List.range j).map fun i => ⟨2, ((idx i : Nat) : Int), 0⟩
theorem ievs_succ (idx : Nat → Nat) (j : Nat) : ievs idx (j + 1) = ievs idx j ++ [⟨2, ((idx j : Nat) : Int), 0⟩] := by simp [ievs, List.range_succ]
theorem ievs_len (idx : Nat → Nat) (j : Nat) : (ievs idx j).length = j := by simp [ievs]
theorem ievs_0 (idx : Nat → Nat) : ievs idx 0 = [] := rfl
theorem lt_of_get {α : Type} {l : List α} {j : Nat} {x : α} (h : l[j]? = some x) : j < l.length := (List.getElem?_eq_some_iff.1 h).1
section
variable {X : List Nat} {w0 w : World} {A B C L : List Ent} {Z : List Fact}
theorem St.swap (h : St X w0 w (A ++ (B ++ C)) Z) : St X w0 w (A ++ (C ++ B)) Z := h.perm (List.Perm.append_left A List.perm_append_comm)
theorem St.assoc (h : St X w0 w (A ++ (B ++ C)) Z) : St X w0 w ((A ++ B) ++ C) Z := by rw [List.append_assoc]; exact h
theorem St.unassoc (h : St X w0 w ((A ++ B) ++ C) Z) : St X w0 w (A ++ (B ++ C)) Z := by rw [← List.append_assoc]; exact h
end
end Sc
end
section
set_option linter.unusedVariables false
namespace Sc
open Go
theorem p_pos {F : PrF} (h : FOk F) : 0 < F.p := fOk h (P := fun F => 0 < F.p) (by decide) (by decide)
theorem fAdd_lt {F : PrF} (h : FOk F) (a b : Nat) : fAdd F a b < F.p := Nat.mod_lt _ (p_pos h)
theorem fSub_lt {F : PrF} (h : FOk F) (a b : Nat) : fSub F a b < F.p := Nat.mod_lt _ (p_pos h)
theorem fMul_lt {F : PrF} (h : FOk F) (a b : Nat) : fMul F a b < F.p := Nat.mod_lt _ (p_pos h)
def horn (F : PrF) (x : Nat) : List Nat → Nat
  | [] => 0
  | y :: ys => fAdd F (fMul F (horn F x ys) x) y
def quoT (F : PrF) (x : Nat) : List Nat → List Nat
  | [] => []
  | z :: zs => horn F x (z :: zs) :: quoT F x zs
theorem horn_lt {F : PrF} (h : FOk F) (x : Nat) : ∀ ys, horn F x ys < F.p
  | [] => p_pos h
  | y :: ys => fAdd_lt h _ _
theorem quoT_len (F : PrF) (x : Nat) : ∀ ys, (quoT F x ys).length = ys.length
  | [] => rfl
  | y :: ys => by simp [quoT, quoT_len F x ys]
theorem quoT_get (F : PrF) (x : Nat) : ∀ (ys : List Nat) (i : Nat), i < ys.length → (quoT F x ys)[i]? = some (horn F x (ys.drop i))
  | [], i, h => by simp at h
  | y :: ys, 0, _ => rfl
  | y :: ys, i + 1, h => by
    simp only [quoT, List.getElem?_cons_succ, List.drop_succ_cons]
    exact quoT_get F x ys i (by simpa using h)
theorem drop_get {xs : List Nat} {i y : Nat} (h : xs[i]? = some y) : xs.drop i = y :: xs.drop (i + 1) := by
  obtain ⟨hi, hy⟩ := List.getElem?_eq_some_iff.1 h
  rw [List.drop_eq_getElem_cons hi, hy]
theorem quo_all {F : PrF} {x : Nat} {xs q : List Nat} (hl : q.length = xs.length - 1) (h : ∀ i, i + 1 < xs.length → q[i]? = some (horn F x (xs.drop (i + 1)))) : q = quoT F x xs.tail := by
  apply List.ext_getElem?
  intro i
  by_cases hi : i + 1 < xs.length
  · rw [h i hi, quoT_get F x xs.tail i (by rw [List.length_tail]; omega), List.drop_tail]
  · rw [List.getElem?_eq_none (by omega), List.getElem?_eq_none (by rw [quoT_len, List.length_tail]; omega)]
theorem tape_1 {tT tP tR : TypeId} {t : Value} {ev : List Ev} {Lt : List Ent} (h : Tape tT tP tR t ev Lt) : Y1 t := by
  rcases h with ⟨rfl, _⟩ | ⟨bt, sl, x, rows, rfl, _⟩ <;> exact ⟨rfl, rfl⟩
end Sc
end
section
set_option linter.unusedVariables false
namespace Sc
open Go
theorem zt_bI {u x a b : Int} (hu : 0 ≤ u ∧ u < 18446744073709551616) (h1 : a = (0 - u) % 18446744073709551616) (h2 : b = bitv .or .u64 u a) {c : Int} (h3 : c = bitv .xor .u64 (if IntKind.signed .u64 = true then -1 else IntKind.max .u64) b) (h4 : x = Int.fdiv c (2 ^ (min (Int.toNat 63) (IntKind.bits .u64)))) : x = bI (decide (u = 0)) := by
  rw [h4, zero_test hu.1 hu.2 h1 h2 h3]
  unfold bI
  by_cases h : u = 0 <;> simp [h]
theorem or_all {xs : List Int} {k : Nat} {u y r : Int} (hk : xs[k]? = some y) (hu : 0 ≤ u ∧ u < 18446744073709551616) (hy : 0 ≤ y ∧ y < 18446744073709551616) (hz : u = 0 ↔ ∀ z ∈ xs.take k, z = 0) (hr : r = bitv .or .u64 u y) : (0 ≤ r ∧ r < 18446744073709551616) ∧ (r = 0 ↔ ∀ z ∈ xs.take (k + 1), z = 0) := by
  refine ⟨by rw [hr]; exact bv_range .or (by simp) _ _, ?_⟩
  rw [hr, or_zero hu.1 hu.2 hy.1 hy.2, take_snoc hk, hz]
  constructor
  · rintro ⟨h1, h2⟩ z h
    rcases List.mem_append.1 h with h | h
    · exact h1 z h
    · simp at h; rw [h]; exact h2
  · intro h
    exact ⟨fun z hz' => h z (List.mem_append_left _ hz'), h y (by simp)⟩
theorem all_dec {xs : List Int} {u : Int} (hz : u = 0 ↔ ∀ z ∈ xs, z = 0) : mk (decide (u = 0)) = mk (xs.all fun y => decide (y = 0)) := by
  congr 1
  rw [Bool.eq_iff_iff]
  simp [hz]
theorem limbs_zero {a : Nat} (h : a < B256) : ([limb a 0, limb a 1, limb a 2, limb a 3].all fun y => decide (y = 0)) = decide (a = 0) := by
  have := limb_sum a h
  have h0 := limb_nonneg a 0; have h1 := limb_nonneg a 1; have h2 := limb_nonneg a 2; have h3 := limb_nonneg a 3
  rw [Bool.eq_iff_iff]
  simp only [List.all_cons, List.all_nil, Bool.and_true, Bool.and_eq_true, decide_eq_true_eq]
  constructor
  · rintro ⟨g0, g1, g2, g3⟩; omega
  · intro h; subst h; refine ⟨by decide, by decide, by decide, by decide⟩
theorem xor_zero' {a b : Int} (ha : 0 ≤ a ∧ a < 18446744073709551616) (hb : 0 ≤ b ∧ b < 18446744073709551616) : bitv .xor .u64 a b = 0 ↔ a = b := by
  rw [bv_xor]
  constructor
  · intro h
    have h1 : (BitVec.ofInt 64 a ^^^ BitVec.ofInt 64 b) = 0#64 := BitVec.eq_of_toNat_eq (by simpa using h)
    have h2 : BitVec.ofInt 64 a = BitVec.ofInt 64 b := BitVec.xor_eq_zero_iff.1 h1
    have h3 := congrArg BitVec.toNat h2
    rw [ofInt_toNat ha.1 ha.2, ofInt_toNat hb.1 hb.2] at h3
    omega
  · rintro rfl; simp
def pws (F : PrF) (x : Nat) : Nat → Nat
  | 0 => F.one
  | k + 1 => fMul F (pws F x k) x
theorem pws_lt {F : PrF} (h : FOk F) (x : Nat) : ∀ k, pws F x k < F.p
  | 0 => f_one_lt h
  | k + 1 => fMul_lt h _ _
def nib (e i : Nat) : Nat := e / 2 ^ (4 * i) % 16
def powW (F : PrF) (x e : Nat) : Nat → Nat
  | 0 => F.one
  | k + 1 => let s := powW F x e k; let q := fMul F s s; let q := fMul F q q; let q := fMul F q q; let q := fMul F q q; fMul F q (pws F x (nib e (63 - k)))
theorem powW_lt {F : PrF} (h : FOk F) (x e : Nat) : ∀ k, powW F x e k < F.p
  | 0 => f_one_lt h
  | k + 1 => fMul_lt h _ _
end Sc
end
section
set_option linter.unusedVariables false
namespace Sc
open Go
def mulRow (F : PrF) (x : Nat) : List Nat → Nat → List Nat → List Nat
  | [], _, out => out
  | y :: ys, j, out => mulRow F x ys (j + 1) (out.set j (fAdd F (out.getD j 0) (fMul F x y)))
def mulAll (F : PrF) : List Nat → List Nat → Nat → List Nat → List Nat
  | [], _, _, out => out
  | x :: xs, b, i, out => mulAll F xs b (i + 1) (mulRow F x b i out)
def pMul (F : PrF) (a b : List Nat) : List Nat := if a.length = 0 ∨ b.length = 0 then [] else mulAll F a b 0 (List.replicate (a.length + b.length - 1) 0)
theorem mulRow_len (F : PrF) (x : Nat) : ∀ b j out, (mulRow F x b j out).length = out.length
  | [], _, _ => rfl
  | y :: ys, j, out => by rw [mulRow, mulRow_len F x ys]; simp
theorem mulAll_len (F : PrF) : ∀ a b i out, (mulAll F a b i out).length = out.length
  | [], _, _, _ => rfl
  | x :: xs, b, i, out => by rw [mulAll, mulAll_len F xs, mulRow_len]
theorem pMul_len {F : PrF} {a b : List Nat} (ha : a.length ≠ 0) (hb : b.length ≠ 0) : (pMul F a b).length = a.length + b.length - 1 := by
  unfold pMul
  rw [if_neg (by omega), mulAll_len]; simp
theorem all_set {p : Nat} {l : List Nat} {j v : Nat} (h : ∀ z ∈ l, z < p) (hv : v < p) : ∀ z ∈ l.set j v, z < p := by
  intro z hz
  rcases List.mem_or_eq_of_mem_set hz with h1 | h1
  · exact h z h1
  · rw [h1]; exact hv
theorem all_rep {p n : Nat} (hp : 0 < p) : ∀ z ∈ List.replicate n 0, z < p := by
  intro z hz
  rw [(List.mem_replicate.1 hz).2]; exact hp
theorem getD_some {l : List Nat} {j y : Nat} (h : l[j]? = some y) : l.getD j 0 = y := by rw [List.getD_eq_getElem?_getD, h]; rfl
theorem mulRow_lt {F : PrF} (h : FOk F) (x : Nat) : ∀ b j out, (∀ z ∈ out, z < F.p) → ∀ z ∈ mulRow F x b j out, z < F.p
  | [], _, _, ho => ho
  | y :: ys, j, out, ho => mulRow_lt h x ys _ _ (all_set ho (fAdd_lt h _ _))
theorem mulAll_lt {F : PrF} (h : FOk F) : ∀ a b i out, (∀ z ∈ out, z < F.p) → ∀ z ∈ mulAll F a b i out, z < F.p
  | [], _, _, _, ho => ho
  | x :: xs, b, i, out, ho => mulAll_lt h xs b _ _ (mulRow_lt h x b i out ho)
theorem pMul_lt {F : PrF} (h : FOk F) (a b : List Nat) : ∀ z ∈ pMul F a b, z < F.p := by
  unfold pMul
  split
  · intro z hz; simp at hz
  · exact mulAll_lt h _ _ _ _ (all_rep (p_pos h))
theorem row_step {F : PrF} {x y v : Nat} {b o o0 : List Nat} {i k : Nat} (hk : b[k]? = some y) (hv : o[i + k]? = some v) (h : mulRow F x (b.drop k) (i + k) o = mulRow F x b i o0) : mulRow F x (b.drop (k + 1)) (i + (k + 1)) (o.set (i + k) (fAdd F v (fMul F x y))) = mulRow F x b i o0 := by
  rw [← h, drop_get hk, mulRow, getD_some hv]; rfl
theorem all_step {F : PrF} {x : Nat} {a b o o0 : List Nat} {i : Nat} (hi : a[i]? = some x) (h : mulAll F (a.drop i) b i o = mulAll F a b 0 o0) {o' : List Nat} (ho : o' = mulRow F x b i o) : mulAll F (a.drop (i + 1)) b (i + 1) o' = mulAll F a b 0 o0 := by
  rw [← h, drop_get hi, mulAll, ho]
theorem elV_small {x : Int} {N : Nat} (h : x = (N : Int)) (hN : N < 18446744073709551616) : (Value.agg #[.int .u64 x, .int .u64 0, .int .u64 0, .int .u64 0]) = elV N := by
  have h0 : limb N 0 = x := by unfold limb; rw [h]; simp; omega
  have h1 : limb N 1 = 0 := by unfold limb; rw [Nat.div_eq_of_lt (by simpa using hN)]; rfl
  have h2 : limb N 2 = 0 := by unfold limb; rw [Nat.div_eq_of_lt (Nat.lt_of_lt_of_le hN (by decide))]; rfl
  have h3 : limb N 3 = 0 := by unfold limb; rw [Nat.div_eq_of_lt (Nat.lt_of_lt_of_le hN (by decide))]; rfl
  simp [elV, el, h0, h1, h2, h3]
theorem small_lt {F : PrF} (h : FOk F) {N : Nat} (hN : N ≤ 255) : N < F.p := by
  have := f_big h
  unfold B256 at this
  omega
def ptsL (F : PrF) (xs : List Int) : List Nat := xs.map fun x => fMul F x.toNat F.sq
theorem pts_len (F : PrF) (xs : List Int) : (ptsL F xs).length = xs.length := by simp [ptsL]
theorem pts_lt {F : PrF} (h : FOk F) (xs : List Int) : ∀ z ∈ ptsL F xs, z < F.p := by
  intro z hz
  obtain ⟨x, _, rfl⟩ := List.mem_map.1 hz
  exact fMul_lt h _ _
theorem set_map {α β : Type} {f : α → β} {xs : List α} {o : List β} {k : Nat} {x : α} (hx : xs[k]? = some x) (hl : o.length = xs.length) (h : ∀ j, j < k → o[j]? = (xs.map f)[j]?) : ∀ j, j < k + 1 → (o.set k (f x))[j]? = (xs.map f)[j]? := by
  intro j hj
  have hk := (List.getElem?_eq_some_iff.1 hx).1
  rw [List.getElem?_set]
  by_cases hjk : k = j
  · subst hjk; rw [if_pos rfl, if_pos (by omega), List.getElem?_map, hx]; rfl
  · rw [if_neg hjk]; exact h j (by omega)
theorem ext_map {α β : Type} {f : α → β} {xs : List α} {o : List β} (hl : o.length = xs.length) (h : ∀ j, j < xs.length → o[j]? = (xs.map f)[j]?) : o = xs.map f := by
  apply List.ext_getElem?
  intro j
  by_cases hj : j < xs.length
  · exact h j hj
  · rw [List.getElem?_eq_none (by omega), List.getElem?_eq_none (by simp; omega)]
def mastF (F : PrF) : List Nat → List Nat → List Nat
  | [], out => out
  | y :: ys, out => mastF F ys (pMul F out [fSub F 0 y, F.one])
theorem mast_len {F : PrF} : ∀ (ys out : List Nat), out.length ≠ 0 → (mastF F ys out).length = out.length + ys.length
  | [], out, _ => rfl
  | y :: ys, out, h => by
    have h1 : (pMul F out [fSub F 0 y, F.one]).length = out.length + 1 := by rw [pMul_len h (by simp)]; simp
    rw [mastF, mast_len ys _ (by omega), h1]; simp; omega
theorem mast_lt {F : PrF} (h : FOk F) : ∀ (ys out : List Nat), (∀ z ∈ out, z < F.p) → ∀ z ∈ mastF F ys out, z < F.p
  | [], out, ho => ho
  | y :: ys, out, ho => mast_lt h ys _ (pMul_lt h _ _)
theorem mast_step {F : PrF} {ys out o0 : List Nat} {k y : Nat} (hk : ys[k]? = some y) (h : mastF F (ys.drop k) out = mastF F ys o0) : mastF F (ys.drop (k + 1)) (pMul F out [fSub F 0 y, F.one]) = mastF F ys o0 := by
  rw [← h, drop_get hk, mastF]
end Sc
end
section
set_option linter.unusedVariables false
namespace Sc
open Go
def arrAgg (P : Program) (t : TypeId) : Option (Nat × Nat) := match P.underlying t with
  | some (.array n e) => (aggOf P e).map fun k => (n, k)
  | _ => none
section
variable {P : Program} {ρ : Operand → Value} {w w' w0 : World} {ty : TypeId} {X : List Nat} {L : List Ent} {Z : List Fact} {α : Type} {f : α → List Value} {xs : List α} {k : Nat}
theorem ex_indexV {T : TypeId} {x i : Operand} {n : Nat} {kk : IntKind} {jj : Int} {j : Nat} {y : α} (hf : ∀ x, (f x).length = k) (hT : arrAgg P T = some (n, k)) (ha : ρ x = .agg (xs.flatMap f).toArray) (hi : ρ i = .int kk jj) (hj : jj = j) (hn : j < n) (hy : xs[j]? = some y) :
    Ex P ρ (.index T x i) ty w (.agg (f y).toArray) w := by
  unfold arrAgg at hT
  cases hu : P.underlying T with
  | none => simp [hu] at hT
  | some d =>
    cases d <;> simp [hu] at hT
    rename_i n' e
    obtain ⟨hk', rfl⟩ := hT
    obtain ⟨h1, h2⟩ := run_isAgg hk' w
    show Sem.run P _ w = _
    subst hj
    have h3 : ((xs.flatMap f).toArray.extract (j * k) (j * k + k)) = (f y).toArray := by
      apply Array.ext'
      have := fm_at hf xs j y hy
      simp only [Array.toList_extract, List.extract_eq_take_drop, Nat.add_sub_cancel_left]
      exact this
    simp [exec1, execOp, ha, hi, Instr.index, run_underlying hu, asIntOf, hn, part, h1, h2]
    exact fm_at hf xs j y hy
theorem ex_loadTab {T : TypeId} {x : Operand} {b n : Nat} {t : TypeId} {fr : Nat × Nat} (hf : ∀ x, (f x).length = k) (ha : ρ x = .pointer (some ⟨b, 0, none⟩)) (hc : w.heap[b]? = some (.cells (xs.flatMap f).toArray t fr)) (hk : aggOf P T = some n) (hn : xs.length * k = n) :
    Ex P ρ (.load T x) ty w (.agg (xs.flatMap f).toArray) w := by
  refine ex_loads ha hc hk (by rw [List.drop_zero]; exact List.take_of_length_le (by rw [fm_length hf, hn]; exact Nat.le_refl _)) (by rw [fm_length hf, hn])
theorem st_storeTab {T t : TypeId} {x y : Operand} {b n : Nat} {ys : List α} (hf : ∀ x, (f x).length = k) (h1 : ∀ x, ∀ c ∈ f x, c.oneCell' = true) (i : Nat) (hS : St X w0 w L Z) (ha : ρ x = .pointer (some ⟨b, 0, none⟩)) (hy : ρ y = .agg (ys.flatMap f).toArray)
    (hi : L[i]? = some (some (b, .cells (xs.flatMap f).toArray t (0, 0)))) (hk : aggOf P T = some n) (hn : ys.length * k = n) (hl : xs.length * k = n) :
    ∃ w', ExU P ρ (.store T x y) ty w w' ∧ St X w0 w' (L.set i (some (b, .cells (ys.flatMap f).toArray t (0, 0)))) Z := by
  refine st_stores i hS ha hy hi hk (by show (ys.flatMap f).toArray.size = n; rw [List.size_toArray, fm_length hf, hn]) (by rw [List.size_toArray, fm_length hf, hl]; omega) (fun c hc => by
    obtain ⟨z, _, hz⟩ := List.mem_flatMap.1 (show c ∈ ys.flatMap f from by simpa [Value.cells] using hc)
    exact h1 z c hz) ?_
  show setCells (xs.flatMap f).toArray 0 (ys.flatMap f) = _
  unfold setCells
  have e1 : (xs.flatMap f).drop (0 + (ys.flatMap f).length) = [] := List.drop_eq_nil_of_le (by rw [fm_length hf, fm_length hf, hn, hl]; omega)
  simp only [List.take_zero, List.nil_append, e1, List.append_nil]
theorem res_tab {n m' : Nat} {m : Nat → Value} {a T b : Nat} {t : TypeId} {fr : Nat × Nat} (hf : ∀ x, (f x).length = k) (ha : ev n m (.tmp a) = .pointer (some ⟨b, 0, none⟩)) (hc : w.heap[b]? = some (.cells (xs.flatMap f).toArray t fr)) (hk : aggOf P T = some m') (hn : xs.length * k = m') : resv P n m w (.cell a T) (.agg (xs.flatMap f).toArray) :=
  res_row ha hc hk (by rw [List.size_toArray, fm_length hf, hn])
end
def pwt (F : PrF) (x : Nat) : List Nat := (List.range 16).map (pws F x)
theorem pwt_len (F : PrF) (x : Nat) : (pwt F x).length = 16 := by simp [pwt]
theorem pwt_get {F : PrF} {x j : Nat} (h : j < 16) : (pwt F x)[j]? = some (pws F x j) := by simp [pwt, h]
theorem pwt_ext {F : PrF} {x : Nat} {T : List Nat} (hl : T.length = 16) (h : ∀ j, j ≤ 15 → T[j]? = some (pws F x j)) : T = pwt F x := by
  apply List.ext_getElem?
  intro j
  by_cases hj : j < 16
  · rw [h j (by omega), pwt_get hj]
  · rw [List.getElem?_eq_none (by omega), List.getElem?_eq_none (by rw [pwt_len]; omega)]
theorem pwt_step {F : PrF} {x k y : Nat} {T : List Nat} (hl : T.length = 16) (hk : k < 15) (h : ∀ j, j ≤ k → T[j]? = some (pws F x j)) (hy : T[k]? = some y) : ∀ j, j ≤ k + 1 → (T.set (k + 1) (fMul F y x))[j]? = some (pws F x j) := by
  intro j hj
  rw [List.getElem?_set]
  by_cases hjk : k + 1 = j
  · subst hjk
    rw [if_pos rfl, if_pos (by omega)]
    have := h k (Nat.le_refl _)
    rw [hy] at this
    cases this
    rfl
  · rw [if_neg hjk]; exact h j (by omega)
def scanL (T : List Nat) (i : Int) (k : Nat) : Nat := if 0 ≤ i ∧ i < k then T.getD i.toNat 0 else 0
theorem scan_step {T : List Nat} {i : Int} {k y : Nat} (h : T[k]? = some y) (hi : 0 ≤ i) : chN (decide (i = (k : Int))) y (scanL T i k) = scanL T i (k + 1) := by
  unfold scanL chN
  by_cases hk : i = (k : Int)
  · subst hk
    simp only [decide_true, if_true]
    rw [if_pos (by omega), Int.toNat_natCast, getD_some h]
  · simp only [hk, decide_false, Bool.false_eq_true, if_false]
    by_cases h1 : i < k
    · rw [if_pos ⟨hi, h1⟩, if_pos ⟨hi, by omega⟩]
    · rw [if_neg (by omega), if_neg (by omega)]
end Sc
end
section
set_option linter.unusedVariables false
namespace Sc
open Go
def kevs (kind : Int) (j : Nat) : List Ev := (List.range j).map fun (i : Nat) => (⟨kind, (i : Int), 0⟩ : Ev)
theorem kevs_succ (kind : Int) (j : Nat) : kevs kind (j + 1) = kevs kind j ++ [⟨kind, (j : Int), 0⟩] := by simp [kevs, List.range_succ]
theorem kevs_len (kind : Int) (j : Nat) : (kevs kind j).length = j := by simp [kevs]
theorem limb_nib {e j s : Nat} (hs : s ≤ 60) : limb e j / (2 : Int) ^ s % 16 = ((e / 2 ^ (64 * j + s) % 16 : Nat) : Int) := by
  unfold limb
  have e1 : (18446744073709551616 : Nat) = 2 ^ s * 2 ^ (64 - s) := by rw [← Nat.pow_add, show s + (64 - s) = 64 from by omega]
  have e2 : (e / 2 ^ (64 * j) % 18446744073709551616) / 2 ^ s = e / 2 ^ (64 * j) / 2 ^ s % 2 ^ (64 - s) := by rw [e1, Nat.mod_mul_right_div_self]
  have e3 : (e / 2 ^ (64 * j) % 18446744073709551616) / 2 ^ s % 16 = e / 2 ^ (64 * j + s) % 16 := by
    rw [e2, Nat.mod_mod_of_dvd _ (by
      have : (2 : Nat) ^ (64 - s) = 16 * 2 ^ (60 - s) := by rw [show (16 : Nat) = 2 ^ 4 from rfl, ← Nat.pow_add, show 4 + (60 - s) = 64 - s from by omega]
      exact ⟨_, this⟩), Nat.div_div_eq_div_mul, ← Nat.pow_add]
  rw [← e3]
  simp
theorem and15 {x : Int} (h0 : 0 ≤ x) (h1 : x < 18446744073709551616) : bitv .and .u64 x 15 = x % 16 := by
  rw [bv_and, BitVec.toNat_and, ofInt_toNat h0 h1, ofInt_toNat (by decide) (by decide)]
  have e : Int.toNat 15 = 2 ^ 4 - 1 := by decide
  rw [e, Nat.and_two_pow_sub_one_eq_mod]
  have : (2 ^ 4 : Nat) = 16 := by decide
  rw [this]
  omega
theorem or_mod16 {x y : Int} (hx : 0 ≤ x ∧ x < 18446744073709551616) (hy : 0 ≤ y ∧ y < 18446744073709551616) (h : y % 16 = 0) : bitv .or .u64 x y % 16 = x % 16 := by
  rw [bv_or, BitVec.toNat_or, ofInt_toNat hx.1 hx.2, ofInt_toNat hy.1 hy.2]
  have h2 : (x.toNat ||| y.toNat) % 2 ^ 4 = x.toNat % 2 ^ 4 ||| y.toNat % 2 ^ 4 := Nat.or_mod_two_pow
  have h3 : y.toNat % 2 ^ 4 = 0 := by have : (2 ^ 4 : Nat) = 16 := by decide
                                      rw [this]; omega
  rw [h3, Nat.or_zero] at h2
  have e : (2 ^ 4 : Nat) = 16 := by decide
  rw [e] at h2
  omega
def bits4 (e : Nat) (at_ : Int) : Nat := e / 2 ^ at_.toNat % 16
theorem shr_range {y s x : Int} (hy : 0 ≤ y ∧ y < 18446744073709551616) (hx : x = Int.fdiv y (2 ^ (min (Int.toNat s) (IntKind.bits .u64)))) : 0 ≤ x ∧ x < 18446744073709551616 := by
  have hp : (0 : Int) < 2 ^ (min (Int.toNat s) (IntKind.bits .u64)) := Int.pow_pos (by decide)
  rw [hx, Int.fdiv_eq_ediv_of_nonneg _ (Int.le_of_lt hp)]
  refine ⟨Int.ediv_nonneg hy.1 (Int.le_of_lt hp), Int.lt_of_le_of_lt (Int.ediv_le_self _ hy.1) hy.2⟩
theorem bits_last {e : Nat} {at_ : Int} {j : Nat} {s y x m1 m x' : Int} (h0 : 0 ≤ at_ ∧ at_ < 256) (h4 : at_ % 4 = 0) (hj : (j : Int) = at_ / 64) (hs : s = at_ % 64) (hy : y = limb e j) (hx : x = Int.fdiv y (2 ^ (min (Int.toNat s) (IntKind.bits .u64))))
    (hm1 : m1 = IntKind.wrap .u64 (1 * 2 ^ (min (Int.toNat 4) (IntKind.bits .u64)))) (hm : m = (m1 - 1) % 18446744073709551616) {z : Int} (hz : z % 16 = x % 16) (hzr : 0 ≤ z ∧ z < 18446744073709551616) (hx' : x' = bitv .and .u64 z m) : x' = (bits4 e at_ : Int) := by
  have hm' : m = 15 := by rw [hm, hm1]; decide
  rw [hx', hm', and15 hzr.1 hzr.2, hz, hx, hy]
  have hs' : s.toNat ≤ 60 := by omega
  have e1 : min s.toNat (IntKind.bits .u64) = s.toNat := by
    have : IntKind.bits .u64 = 64 := rfl
    rw [this]; omega
  rw [e1, Int.fdiv_eq_ediv_of_nonneg _ (Int.pow_nonneg (by decide)), limb_nib hs']
  unfold bits4
  rw [show 64 * j + s.toNat = at_.toNat from by omega]
theorem shl_16 {y s b t : Int} (hs : 0 ≤ s ∧ s ≤ 60) (ht : t = 64 - s) (hb : b = IntKind.wrap .u64 (y * 2 ^ (min (Int.toNat t) (IntKind.bits .u64)))) : (0 ≤ b ∧ b < 18446744073709551616) ∧ b % 16 = 0 := by
  have e1 : min t.toNat (IntKind.bits .u64) = (t.toNat - 4) + 4 := by
    have : IntKind.bits .u64 = 64 := rfl
    rw [this]; omega
  rw [hb, e1, IntKind.wrap_u64, Int.pow_add, ← Int.mul_assoc]
  have e2 : (2 : Int) ^ 4 = 16 := by decide
  rw [e2]
  generalize y * 2 ^ (t.toNat - 4) = q
  omega
end Sc
end
section
set_option linter.unusedVariables false
namespace Sc
open Go
def pevs : Nat → List Ev
  | 0 => []
  | k + 1 => pevs k ++ (⟨6, 63 - (k : Int), 0⟩ :: kevs 1 16)
theorem pevs_len : ∀ k, (pevs k).length = 17 * k
  | 0 => rfl
  | k + 1 => by simp [pevs, pevs_len k, kevs_len]; omega
theorem bits4_lt (e : Nat) (a : Int) : bits4 e a < 16 := Nat.mod_lt _ (by decide)
theorem scan_pws (F : PrF) (x e : Nat) (a : Int) : scanL (pwt F x) (bits4 e a : Int) 16 = pws F x (bits4 e a) := by
  have := bits4_lt e a
  unfold scanL
  rw [if_pos (by omega), Int.toNat_natCast, getD_some (pwt_get this)]
theorem pow_step {F : PrF} {x e k o : Nat} {a : Int} (hk : k < 64) (ha : a = (63 - (k : Int)) * 4) (ho : o = powW F x e k) : fMul F (fMul F (fMul F (fMul F (fMul F o o) (fMul F o o)) (fMul F (fMul F o o) (fMul F o o))) (fMul F (fMul F (fMul F o o) (fMul F o o)) (fMul F (fMul F o o) (fMul F o o)))) (scanL (pwt F x) (bits4 e a : Int) 16) = powW F x e (k + 1) := by
  rw [scan_pws, ho]
  have : bits4 e a = nib e (63 - k) := by
    unfold bits4 nib
    rw [show a.toNat = 4 * (63 - k) from by omega]
  rw [this]
  rfl
def fInv (F : PrF) (x : Nat) : Nat := powW F x (subN F.p 2) 64
theorem fInv_lt {F : PrF} (h : FOk F) (x : Nat) : fInv F x < F.p := powW_lt h _ _ _
end Sc
end
section
set_option linter.unusedVariables false
namespace Sc
open Go
def nz (F : PrF) (x : Nat) : Nat := chN (decide (x = 0)) F.one x
theorem nz_lt {F : PrF} (h : FOk F) {x : Nat} (hx : x < F.p) : nz F x < F.p := by
  unfold nz chN; split
  · exact f_one_lt h
  · exact hx
def bpre (F : PrF) (xs : List Nat) (j : Nat) : Nat := (xs.take j).foldl (fun a x => fMul F a (nz F x)) F.one
def bsuf (F : PrF) (i0 : Nat) (xs : List Nat) : Nat := xs.foldr (fun x a => fMul F a (nz F x)) i0
def batE (F : PrF) (xs : List Nat) (i x : Nat) : Nat := chN (decide (x = 0)) 0 (fMul F (bpre F xs i) (bsuf F (fInv F (bpre F xs xs.length)) (xs.drop (i + 1))))
def batL (F : PrF) (xs : List Nat) : List Nat := xs.zipIdx.map fun p => batE F xs p.2 p.1
theorem batL_len (F : PrF) (xs : List Nat) : (batL F xs).length = xs.length := by simp [batL]
theorem batL_get {F : PrF} {xs : List Nat} {i x : Nat} (h : xs[i]? = some x) : (batL F xs)[i]? = some (batE F xs i x) := by
  unfold batL
  rw [List.getElem?_map, List.getElem?_zipIdx, h]; simp
theorem bpre_lt {F : PrF} (h : FOk F) (xs : List Nat) (j : Nat) : bpre F xs j < F.p := by
  unfold bpre
  have : ∀ (l : List Nat) (a : Nat), a < F.p → l.foldl (fun a x => fMul F a (nz F x)) a < F.p := by
    intro l
    induction l with
    | nil => exact fun a ha => ha
    | cons x l ih => exact fun a _ => ih _ (fMul_lt h _ _)
  exact this _ _ (f_one_lt h)
theorem bpre_succ {F : PrF} {xs : List Nat} {j x : Nat} (h : xs[j]? = some x) : bpre F xs (j + 1) = fMul F (bpre F xs j) (nz F x) := by
  unfold bpre
  rw [take_snoc h, List.foldl_append]; rfl
theorem bsuf_step {F : PrF} {i0 : Nat} {xs : List Nat} {i x : Nat} (h : xs[i]? = some x) : bsuf F i0 (xs.drop i) = fMul F (bsuf F i0 (xs.drop (i + 1))) (nz F x) := by
  rw [drop_get h]; rfl
theorem batL_ext {F : PrF} {xs q : List Nat} (hl : q.length = xs.length) (h : ∀ i x, xs[i]? = some x → q[i]? = some (batE F xs i x)) : q = batL F xs := by
  apply List.ext_getElem?
  intro i
  by_cases hi : i < xs.length
  · obtain ⟨x, hx⟩ := get_lt xs i hi
    rw [h i x hx, batL_get hx]
  · rw [List.getElem?_eq_none (by omega), List.getElem?_eq_none (by rw [batL_len]; omega)]
theorem bsuf_nil (F : PrF) (i0 : Nat) : bsuf F i0 [] = i0 := rfl
def batEv (n : Nat) : List Ev := if n = 0 then [] else ievs (fun i => i) n ++ (pevs 64 ++ ievs (fun i => n - 1 - i) n)
theorem set_below {q : List Nat} {j v : Nat} {f : Nat → Nat} (hq : ∀ i, i < j → q[i]? = some (f i)) (hl : j < q.length) (hv : v = f j) : ∀ i, i < j + 1 → (q.set j v)[i]? = some (f i) := by
  intro i hi
  rw [List.getElem?_set]
  by_cases h : j = i
  · subst h; rw [if_pos rfl, if_pos hl, hv]
  · rw [if_neg h]; exact hq i (by omega)
theorem ones_nil : ∀ x ∈ ([] : List Value), x.oneCell' = true := fun _ h => absurd h (by simp)
theorem ones_cons {v : Value} {l : List Value} (h : v.oneCell' = true) (t : ∀ x ∈ l, x.oneCell' = true) : ∀ x ∈ v :: l, x.oneCell' = true := fun x hx => (List.mem_cons.1 hx).elim (fun e => e ▸ h) (t x)
def idxL (l : List Sh) : List Int := l.map (·.i)
theorem idxL_len (l : List Sh) : (idxL l).length = l.length := by simp [idxL]
def colL (l : List Sh) (c : Nat) : List Nat := l.map fun s => s.p.getD c 0
theorem colL_len (l : List Sh) (c : Nat) : (colL l c).length = l.length := by simp [colL]
end Sc
end
section
set_option linter.unusedVariables false
namespace Sc
open Go
end Sc
end
section
set_option linter.unusedVariables false
namespace Sc
open Go
def arrOne (P : Program) (t : TypeId) : Option Nat := match P.underlying t with
  | some (.array n e) => if oneOf P e = true then some n else none
  | _ => none
theorem ex_index1 {P : Program} {ρ : Operand → Value} {w : World} {ty : TypeId} {T : TypeId} {x i : Operand} {n j : Nat} {kk : IntKind} {cs : Array Value} {v : Value} (hT : arrOne P T = some n) (ha : ρ x = .agg cs) (hi : ρ i = .int kk (j : Int)) (hn : Nat.blt j n = true) (hv : cs[j]? = some v) : Ex P ρ (.index T x i) ty w v w := by
  unfold arrOne at hT
  cases hu : P.underlying T with
  | none => simp [hu] at hT
  | some d =>
    cases d <;> simp only [hu] at hT <;> try cases hT
    rename_i n' e
    split at hT
    · rename_i ho
      cases hT
      obtain ⟨h1, h2⟩ := run_isOne ho w
      have hn' : j < n := by simpa [Nat.blt_eq] using hn
      show Sem.run P _ w = _
      simp [exec1, execOp, ha, hi, Instr.index, run_underlying hu, asIntOf, hn', part, h1, h2, hv]
    · cases hT
def bel (K : Int) : Nat → List Ev
  | 0 => []
  | j + 1 => bel K j ++ (if K ≤ (j : Int) then [⟨2, (j : Int), 0⟩] else [])
theorem bel_len (K : Int) : ∀ j, (bel K j).length ≤ j
  | 0 => Nat.le_refl _
  | j + 1 => by
    have := bel_len K j
    simp only [bel, List.length_append]
    split <;> simp <;> omega
def allZ (K : Int) (cs : List Nat) (j : Nat) : Prop := ∀ i y, i < j → K ≤ (i : Int) → cs[i]? = some y → y = 0
theorem allZ_skip {K : Int} {cs : List Nat} {j : Nat} (h : (j : Int) < K) : allZ K cs j ↔ allZ K cs (j + 1) :=
  ⟨fun a i y h1 h2 h3 => a i y (by omega) h2 h3, fun a i y h1 h2 h3 => a i y (by omega) h2 h3⟩
theorem allZ_step {K : Int} {cs : List Nat} {j y : Nat} (h : K ≤ (j : Int)) (hy : cs[j]? = some y) : (allZ K cs j ∧ y = 0) ↔ allZ K cs (j + 1) := by
  constructor
  · rintro ⟨a, b⟩ i z h1 h2 h3
    by_cases hij : i = j
    · subst hij; rw [hy] at h3; cases h3; exact b
    · exact a i z (by omega) h2 h3
  · exact fun a => ⟨fun i z h1 h2 h3 => a i z (by omega) h2 h3, a j y (by omega) h hy⟩
theorem or4_zero {u a0 a1 a2 a3 : Int} {y : Nat} (hyb : y < B256) (hu : 0 ≤ u ∧ u < 18446744073709551616) (h0 : a0 = bitv .or .u64 u (limb y 0)) (h1 : a1 = bitv .or .u64 a0 (limb y 1)) (h2 : a2 = bitv .or .u64 a1 (limb y 2)) (h3 : a3 = bitv .or .u64 a2 (limb y 3)) :
    (0 ≤ a3 ∧ a3 < 18446744073709551616) ∧ (a3 = 0 ↔ u = 0 ∧ y = 0) := by
  have r0 : 0 ≤ a0 ∧ a0 < 18446744073709551616 := by rw [h0]; exact bv_range .or (by simp) _ _
  have r1 : 0 ≤ a1 ∧ a1 < 18446744073709551616 := by rw [h1]; exact bv_range .or (by simp) _ _
  have r2 : 0 ≤ a2 ∧ a2 < 18446744073709551616 := by rw [h2]; exact bv_range .or (by simp) _ _
  have r3 : 0 ≤ a3 ∧ a3 < 18446744073709551616 := by rw [h3]; exact bv_range .or (by simp) _ _
  refine ⟨r3, ?_⟩
  rw [h3, or_zero r2.1 r2.2 (limb_nonneg _ _) (limb_lt _ _), h2, or_zero r1.1 r1.2 (limb_nonneg _ _) (limb_lt _ _), h1, or_zero r0.1 r0.2 (limb_nonneg _ _) (limb_lt _ _), h0, or_zero hu.1 hu.2 (limb_nonneg _ _) (limb_lt _ _)]
  have hz := limbs_zero hyb
  simp only [List.all_cons, List.all_nil, Bool.and_true] at hz
  constructor
  · rintro ⟨⟨⟨⟨g, g0⟩, g1⟩, g2⟩, g3⟩
    exact ⟨g, by simpa [g0, g1, g2, g3] using hz.symm⟩
  · rintro ⟨g, rfl⟩
    exact ⟨⟨⟨⟨g, by decide⟩, by decide⟩, by decide⟩, by decide⟩
theorem allZ_all {K : Int} {cs : List Nat} (hK : 0 ≤ K) : allZ K cs cs.length ↔ ((cs.drop K.toNat).all fun y => decide (y = 0)) = true := by
  rw [List.all_eq_true]
  constructor
  · intro h y hy
    obtain ⟨i, hi⟩ := List.mem_iff_getElem?.1 hy
    rw [List.getElem?_drop] at hi
    have := h _ y (lt_of_get hi) (by omega) hi
    simpa using this
  · intro h i y h1 h2 h3
    have : y ∈ cs.drop K.toNat := List.mem_iff_getElem?.2 ⟨i - K.toNat, by rw [List.getElem?_drop, show K.toNat + (i - K.toNat) = i from by omega]; exact h3⟩
    simpa using h y this
theorem below_close {K u : Int} {cs : List Nat} (hK : 0 ≤ K) (hz : u = 0 ↔ allZ K cs cs.length) : mk ([u].all fun y => decide (y = 0)) = mk ((cs.drop K.toNat).all fun y => decide (y = 0)) := by
  congr 1
  rw [Bool.eq_iff_iff, ← allZ_all hK, ← hz]
  simp
end Sc
end
section
set_option linter.unusedVariables false
namespace Sc
open Go
def IMap (V : Value → Prop) (ks : List Int) (o : Obj) : Prop := ∃ (es : Array MapEntry) (clock : Nat), o = .map es clock ∧ es.toList.map (·.key) = ks.map (Value.int .i64) ∧ ks.Nodup ∧ ∀ e ∈ es.toList, V e.val
theorem IMap.nil (V : Value → Prop) : IMap V [] (.map #[] 0) := ⟨#[], 0, rfl, rfl, List.nodup_nil, fun _ h => absurd h (by simp)⟩
theorem findNow_int (q : IntKind) (k : Int) : ∀ (es : List MapEntry) (ks : List Int) (i : Nat), es.map (·.key) = ks.map (Value.int .i64) →
    (k ∉ ks ∧ Instr.findNow (.int q) (.int .i64 k) es i = some none) ∨ (k ∈ ks ∧ ∃ j e, es[j]? = some e ∧ e.key = .int .i64 k ∧ Instr.findNow (.int q) (.int .i64 k) es i = some (some (i + j, e.val)))
  | [], ks, i, h => by
    have : ks = [] := by cases ks with
      | nil => rfl
      | cons a b => simp at h
    subst this
    exact .inl ⟨by simp, rfl⟩
  | e :: es, ks, i, h => by
    cases ks with
    | nil => simp at h
    | cons a ks =>
      simp only [List.map_cons, List.cons.injEq] at h
      obtain ⟨h1, h2⟩ := h
      by_cases hk : k = a
      · subst hk
        refine .inr ⟨by simp, 0, e, rfl, h1, ?_⟩
        simp [Instr.findNow, Instr.sameNow, h1]
      · have hf : Instr.findNow (.int q) (.int .i64 k) (e :: es) i = Instr.findNow (.int q) (.int .i64 k) es (i + 1) := by
          have hb : (k == a) = false := by simpa using hk
          simp [Instr.findNow, Instr.sameNow, h1, hb]
        rcases findNow_int q k es ks (i + 1) h2 with ⟨g1, g2⟩ | ⟨g1, j, e', g2, g3, g4⟩
        · exact .inl ⟨by simp [hk, g1], by rw [hf, g2]⟩
        · exact .inr ⟨by simp [g1], j + 1, e', by simpa using g2, g3, by rw [hf, g4]; congr 3; omega⟩
def mapOf (P : Program) (t : TypeId) : Bool := match P.underlying t with
  | some (.map k _) => match P.underlying k with
    | some (.int .i64) => true
    | _ => false
  | _ => false
theorem mapOf_spec {P : Program} {t : TypeId} (h : mapOf P t = true) : ∃ k e, P.underlying t = some (.map k e) ∧ P.underlying k = some (.int .i64) := by
  unfold mapOf at h
  cases hu : P.underlying t with
  | none => simp [hu] at h
  | some d =>
    cases d <;> simp only [hu] at h <;> try cases h
    rename_i k e
    refine ⟨k, e, rfl, ?_⟩
    split at h
    · rename_i h'; exact h'
    · cases h
section
variable {P : Program} {ρ : Operand → Value} {w w' w0 : World} {ty : TypeId} {X : List Nat} {L : List Ent} {Z : List Fact} {V : Value → Prop} {ks : List Int}
theorem st_makeMap {T : TypeId} (hS : St X w0 w L Z) : ∃ b w', Ex P ρ (.makeMap T none) ty w (.map (some b)) w' ∧ St X w0 w' (some (b, .map #[] 0) :: L) Z := by
  refine ⟨w.heap.size, w.alloc (.map #[] 0), ?_, hS.new _⟩
  show Sem.run P _ w = _
  simp [exec1, execOp, Instr.makeMap, run_newObj_alloc]
def addKey (ks : List Int) (k : Int) : List Int := if k ∈ ks then ks else ks ++ [k]
theorem run_getMap {r : Nat} {es : Array MapEntry} {c : Nat} (h : w.heap[r]? = some (.map es c)) : (getObj r).run P w = .ok (.map es c) w := by simp [getObj, Sem.run, h]
theorem run_setMap {r : Nat} {es : Array MapEntry} {c : Nat} {o' : Obj} (h : w.heap[r]? = some (.map es c)) : (setObj r o').run P w = .ok () { w with heap := w.heap.setIfInBounds r o' } := by simp [setObj, Sem.run, h]
theorem modify_keys {es : Array MapEntry} {j : Nat} {e : MapEntry} {k v : Value} (he : es[j]? = some e) (hk : e.key = k) : (es.modify j fun e => { e with key := k, val := v }).toList.map (·.key) = es.toList.map (·.key) := by
  apply List.ext_getElem?
  intro i
  rw [List.getElem?_map, List.getElem?_map]
  simp only [Array.getElem?_toList, Array.getElem?_modify]
  by_cases h : j = i
  · subst h; simp [he, hk]
  · simp [h]
theorem run_checkKey {kt : TypeId} {k : Int} (hku : P.underlying kt = some (.int .i64)) (d : Nat) (b : Bool) : (Instr.checkKey b (d + 1) kt (.int .i64 k)).run P w = .ok () w := by
  simp [Instr.checkKey, run_underlying hku]
theorem st_mapSet {T : TypeId} {m kx x : Operand} {b : Nat} {o : Obj} {k : Int} {v : Value} (i : Nat) (hS : St X w0 w L Z) (hi : L[i]? = some (some (b, o))) (hM : IMap V ks o) (hT : mapOf P T = true) (hV : V v) (hm : ρ m = .map (some b)) (hk : ρ kx = .int .i64 k) (hx : ρ x = v) :
    ∃ w', ExU P ρ (.mapUpdate T m kx x) ty w w' ∧ ∃ o', St X w0 w' (L.set i (some (b, o'))) Z ∧ IMap V (addKey ks k) o' := by
  obtain ⟨es, c, rfl, h1, h2, h3⟩ := hM
  obtain ⟨kt, et, hu, hku⟩ := mapOf_spec hT
  have hb := hS.at i hi
  have hck : (Instr.checkKey false 10000 kt (.int .i64 k)).run P w = .ok () w := run_checkKey hku 9999 false
  rcases findNow_int .i64 k es.toList ks 0 h1 with ⟨g1, g2⟩ | ⟨g1, j, e, g2, g3, g4⟩
  · refine ⟨_, ?_, _, hS.obj i (.map (es.push { key := .int .i64 k, val := v, born := c }) (c + 1)) hi, es.push { key := .int .i64 k, val := v, born := c }, c + 1, rfl, ?_, ?_, ?_⟩
    · show Sem.run P _ w = _
      simp [exec1, execOp, hm, hk, hx, Instr.mapUpdate, run_underlying hu, run_getMap hb, hck, Instr.findKey, run_underlying hku, g2, run_setMap hb]
    · simp [h1, addKey, g1]
    · simp only [addKey, g1, if_false]
      rw [List.nodup_append]
      exact ⟨h2, by simp, fun a ha b hb' => by simp at hb'; subst hb'; exact fun e => g1 (e ▸ ha)⟩
    · intro e he
      simp at he
      rcases he with he | rfl
      · exact h3 e (by simpa using he)
      · exact hV
  · have he : es[j]? = some e := by simpa using g2
    refine ⟨_, ?_, _, hS.obj i (.map (es.modify j fun e => { e with key := .int .i64 k, val := v }) c) hi, es.modify j fun e => { e with key := .int .i64 k, val := v }, c, rfl, ?_, ?_, ?_⟩
    · show Sem.run P _ w = _
      simp [exec1, execOp, hm, hk, hx, Instr.mapUpdate, run_underlying hu, run_getMap hb, hck, Instr.findKey, run_underlying hku, g4, run_setMap hb, he, g3, Instr.keyThatStays, Instr.sameBits]
    · rw [modify_keys he g3, h1]; simp [addKey, g1]
    · simpa [addKey, g1] using h2
    · intro z hz
      obtain ⟨q, hq⟩ := List.mem_iff_getElem?.1 hz
      simp only [Array.getElem?_toList, Array.getElem?_modify] at hq
      by_cases h : j = q
      · subst h; simp [he] at hq; rw [← hq]; exact hV
      · simp [h] at hq; exact h3 z (List.mem_iff_getElem?.2 ⟨q, by simpa using hq⟩)
theorem imap_size {o : Obj} (hM : IMap V ks o) : ∃ es c, o = .map es c ∧ es.size = ks.length := by
  obtain ⟨es, c, rfl, h1, _, _⟩ := hM
  refine ⟨es, c, rfl, ?_⟩
  have := congrArg List.length h1
  simpa using this
theorem ex_lenMap {T : TypeId} {x : Operand} {b : Nat} {o : Obj} {r : Int} (i : Nat) (hS : St X w0 w L Z) (hi : L[i]? = some (some (b, o))) (hM : IMap V ks o) (hT : mapOf P T = true) (hx : ρ x = .map (some b)) (hr : r = ks.length) :
    Ex P ρ (.call { callee := .builtin .len, args := #[x], argTypes := #[T] }) ty w (.int .i64 r) w := by
  obtain ⟨es, c, rfl, hs⟩ := imap_size hM
  obtain ⟨kt, et, hu, hku⟩ := mapOf_spec hT
  subst hr
  show Sem.run P _ w = _
  simp [exec1, execOp, hx, resolve, invoke, builtin, Builtin.len_, run_underlying hu, goInt, run_getMap (hS.at i hi), hs]
end
end Sc
end
section
set_option linter.unusedVariables false
namespace Sc
open Go
def wRow (F : PrF) (X : List Nat) (x i : Nat) : Nat → Nat
  | 0 => F.one
  | j + 1 => if j = i then wRow F X x i j else fMul F (wRow F X x i j) (fSub F x (X.getD j 0))
def wDs (F : PrF) (X : List Nat) : List Nat := (List.range X.length).map fun i => wRow F X (X.getD i 0) i X.length
theorem wDs_len (F : PrF) (X : List Nat) : (wDs F X).length = X.length := by simp [wDs]
def wL (F : PrF) (X : List Nat) : List Nat := batL F (wDs F X)
def rEv (i : Nat) : Nat → List Ev
  | 0 => []
  | j + 1 => rEv i j ++ (if j = i then [] else [⟨3, (i : Int), (j : Int)⟩])
def wEv0 (n : Nat) : Nat → List Ev
  | 0 => []
  | i + 1 => wEv0 n i ++ rEv i n
def wEv (n : Nat) : List Ev := wEv0 n n ++ batEv n
theorem rEv_len (i : Nat) : ∀ j, (rEv i j).length ≤ j
  | 0 => Nat.le_refl _
  | j + 1 => by
    have := rEv_len i j
    simp only [rEv, List.length_append]
    split <;> simp <;> omega
theorem wEv0_len (n : Nat) : ∀ i, (wEv0 n i).length ≤ i * n
  | 0 => by simp [wEv0]
  | i + 1 => by
    have := wEv0_len n i
    have := rEv_len i n
    simp only [wEv0, List.length_append]
    rw [Nat.add_mul]; omega
end Sc
end
