/- Memory of layer 14's program: the states that a walk has found; what it still has before it. -/
import Derived.Test.YtjkbhdocpjekmaaVMemB
import Derived.Test.YtjkbhdocpjekmaaRMemC
import Derived.Test.YtjkbhdocpjekmaaPlainB
namespace Go.Proofs.Ytjkbhdocpjekmaa
open Go.RowKit
set_option linter.unusedVariables false

/-- A pointer to a state of a block of its own; nil: there is none. -/
def HBox (w : World) (v : Value) : Option St → Prop
  | none => v = .pointer none
  | some s => ∃ g x, v = .pointer (some ⟨g, 0, none⟩) ∧ Whole w g 56 #[.int .i64 s.d, x] ∧ MksV w x s.m
theorem HBox.keep {w w' : World} {v : Value} {o : Option St} (h : HBox w v o) (hk : ∀ g t cs, t = 56 ∨ t = 89 → Whole w g t cs → Whole w' g t cs) : HBox w' v o := by
  cases o with
  | none => exact h
  | some s =>
    obtain ⟨g, x, e, h1, h2⟩ := h
    exact ⟨g, x, e, hk _ _ _ (.inl rfl) h1, h2.keep fun g cs => hk g _ cs (.inr rfl)⟩
def HadAt (w : World) (H : Nat) (had : List (Option St)) : Prop := ∃ cs, Whole w H 53 cs ∧ cs.size = had.length ∧ ∀ k v, cs[k]? = some v → HBox w v (had.getD k none)
section
variable {w w' : World} {H : Nat} {had : List (Option St)}
theorem HadAt.keep (h : HadAt w H had) (hk : ∀ g t cs, t = 53 ∨ t = 56 ∨ t = 89 → Whole w g t cs → Whole w' g t cs) : HadAt w' H had := by
  obtain ⟨cs, hw, hs, hc⟩ := h
  exact ⟨cs, hk _ _ _ (.inl rfl) hw, hs, fun k v hv => (hc k v hv).keep fun g t cs ht => hk g t cs (.inr ht)⟩
theorem HadAt.below (h : HadAt w H had) (hb : Below w.heap.size w w') : HadAt w' H had := h.keep fun g t cs _ hw => hw.below hb hw.lt
theorem HadAt.alloc (h : HadAt w H had) (o : Obj) : HadAt (w.alloc o) H had := h.keep fun g t cs _ hw => hw.alloc o
theorem HadAt.lt (h : HadAt w H had) : H < w.heap.size := by obtain ⟨cs, hw, _⟩ := h; exact hw.lt
theorem HadAt.free (h : HadAt w H had) (k : Nat) : w.frozen? ⟨H, k, none⟩ = false := by obtain ⟨cs, hw, _⟩ := h; exact hw.free k
theorem HadAt.at_ (h : HadAt w H had) {k : Nat} (hk : k < had.length) : ∃ v, w.cell? ⟨H, k, none⟩ = some v ∧ HBox w v (had.getD k none) := by
  obtain ⟨cs, hw, hs, hc⟩ := h
  have : cs[k]? = some cs[k] := Array.getElem?_eq_getElem (by omega)
  exact ⟨_, (hw.cell k).trans this, hc k _ this⟩
theorem HadAt.set (h : HadAt w H had) {k g : Nat} (hk : k < had.length) {s : St} {x : Value} (h1 : Whole w g 56 #[.int .i64 s.d, x]) (h2 : MksV w x s.m) : HadAt (w.setCell ⟨H, k, none⟩ (.pointer (some ⟨g, 0, none⟩))) H (had.set k (some s)) := by
  obtain ⟨cs, hw, hs, hc⟩ := h
  have hkp : ∀ g t cs', t = 56 ∨ t = 89 → Whole w g t cs' → Whole (w.setCell ⟨H, k, none⟩ (.pointer (some ⟨g, 0, none⟩))) g t cs' → True := fun _ _ _ _ _ _ => trivial
  have far : ∀ g' t cs', t = 56 ∨ t = 89 → Whole w g' t cs' → Whole (w.setCell ⟨H, k, none⟩ (.pointer (some ⟨g, 0, none⟩))) g' t cs' := fun g' t cs' ht hw' => hw'.far (whole_ne hw' hw (by rcases ht with rfl | rfl <;> decide)) _
  refine ⟨_, hw.put k _, by rw [List.length_set]; simp [hs], fun j v hv => ?_⟩
  rw [Array.getElem?_setIfInBounds] at hv
  rw [getD_set hk]
  by_cases hj : k = j
  · subst hj
    rw [if_pos rfl, if_pos (by omega)] at hv
    rw [if_pos rfl]
    cases hv
    exact ⟨g, x, rfl, far _ _ _ (.inl rfl) h1, h2.keep fun g cs => far g _ cs (.inr rfl)⟩
  · rw [if_neg hj] at hv
    rw [if_neg (fun h => hj h.symm)]
    exact (hc j v hv).keep far
theorem HadAt.made {L : Nat} (h : Whole w H 53 (madeCells (Value.pointer none).cells (L * 1))) : HadAt w H (List.replicate L none) := by
  refine ⟨_, h, by rw [made_size]; simp, fun k v hv => ?_⟩
  have hz : (List.replicate L (none : Option St)).getD k none = none := by
    rw [List.getD_eq_getElem?_getD, List.getElem?_replicate]; split <;> rfl
  rw [hz]
  by_cases hk : k < L
  · rw [made_get _ _ _ (by omega)] at hv
    have hc : (Value.pointer none).cells = #[.pointer none] := rfl
    rw [hc] at hv
    have : k % (#[Value.pointer none] : Array Value).size = 0 := Nat.mod_one k
    rw [this] at hv
    cases hv; rfl
  · rw [Array.getElem?_eq_none (by rw [made_size]; omega)] at hv; cases hv
end
/-- How many instructions no state is known of. -/
def nones (had : List (Option St)) : Nat := had.countP Option.isNone
theorem nones_set : ∀ {had : List (Option St)} {k : Nat} {s : St}, k < had.length → had.getD k none = none → nones (had.set k (some s)) + 1 = nones had
  | [], k, s, h, _ => absurd h (by simp)
  | x :: l, 0, s, _, h => by
    simp only [List.getD_cons_zero] at h; subst h
    simp [nones]
  | x :: l, k + 1, s, h, h2 => by
    have := nones_set (had := l) (k := k) (s := s) (by simpa using h) (by simpa using h2)
    simp only [nones, List.set_cons_succ, List.countP_cons] at this ⊢
    omega
theorem nones_le (had : List (Option St)) : nones had ≤ had.length := List.countP_le_length
theorem go_len {op a b k : Int} {s on : St} {l : List (Int × St)} (h : goF op a b k s on = some l) : l.length ≤ 2 := by
  unfold goF at h
  repeat' (split at h)
  all_goals first
    | (cases h; decide)
    | (cases h; simp)
    | cases h
theorem next_len {c : Cod} {n : Nat} {f : Bdy} {k : Int} {s : St} {l : List (Int × St)} (h : nextF c n f k s = some l) : l.length ≤ 2 := by
  unfold nextF nextI at h
  split at h
  · cases h
  split at h
  · cases h
  exact go_len h
/-- The state of the program's walk. -/
structure WSt (c : Cod) (n : Nat) (f : Bdy) (had : List (Option St)) (l : List (Int × St)) : Prop where
  inv : Inv c n f had l
  ok : ∀ p ∈ l, 0 ≤ p.1 ∧ StOK (f.code.length - nones had) p.2
  hok : ∀ (k : Nat) s, had.getD k none = some s → StOK (f.code.length - nones had) s
theorem WSt.start (c : Cod) (n : Nat) (f : Bdy) : WSt c n f (List.replicate f.code.length none) [(0, st0)] := by
  refine ⟨inv_start c n f, fun p hp => ?_, fun k s hk => ?_⟩
  · simp at hp; subst hp
    exact ⟨by decide, by decide, by decide, by simp [st0], fun x hx => by simp [st0] at hx⟩
  · rw [List.getD_eq_getElem?_getD, List.getElem?_replicate] at hk
    split at hk <;> cases hk
theorem WSt.old {c : Cod} {n : Nat} {f : Bdy} {had : List (Option St)} {l : List (Int × St)} {a : Int} {s : St} (h : WSt c n f had (l ++ [(a, s)])) (ha : 0 ≤ a) (hs : had.getD a.toNat none = some s) : WSt c n f had l :=
  ⟨h.inv.old ha hs, fun p hp => h.ok p (by simp [hp]), h.hok⟩
theorem WSt.new {c : Cod} {n : Nat} {f : Bdy} {had : List (Option St)} {l more : List (Int × St)} {k : Nat} {s : St} (h : WSt c n f had (l ++ [((k : Int), s)])) (hn : had.getD k none = none) (hl : k < f.code.length) (hd : s.d ≤ f.stack) (hst : f.stack ≤ 60)
    (hi : (f.code.getD k ins0).ok = true) (hm : nextF c n f (k : Int) s = some more) : WSt c n f (had.set k (some s)) (l ++ more) := by
  have hk : k < had.length := by rw [h.inv.len]; exact hl
  have hc := nones_set (s := s) hk hn
  have hle := nones_le had
  rw [h.inv.len] at hle
  have h0 := h.ok ((k : Int), s) (by simp)
  have hi2 : 0 ≤ (f.code.getD ((k : Int)).toNat ins0).a ∧ 0 ≤ (f.code.getD ((k : Int)).toNat ins0).b ∧ (f.code.getD ((k : Int)).toNat ins0).b ≤ 65535 := by
    rw [show ((k : Int)).toNat = k from by simp]
    generalize f.code.getD k ins0 = i at *
    obtain ⟨op, a, b⟩ := i
    simp only [Ins.ok, insOK, decide_eq_true_eq] at hi
    exact ⟨hi.2.1, hi.2.2.2.1, hi.2.2.2.2.1⟩
  have hnx := next_ok (by omega) hi2 h0.2 (by have : s.d ≤ f.stack := hd; show s.d ≤ 60; omega) hm
  refine ⟨?_, fun p hp => ?_, fun j t hj => ?_⟩
  · have := h.inv.new (by omega) (by simpa using hn) (by omega) hd hm
    simpa using this
  · simp only [List.mem_append] at hp
    rcases hp with hp | hp
    · have := h.ok p (by simp [hp]); exact ⟨this.1, this.2.more (by omega)⟩
    · have := hnx p hp; exact ⟨this.1, this.2.more (by omega)⟩
  · rw [getD_set hk] at hj
    split at hj
    · cases hj; exact h0.2.more (by omega)
    · exact (h.hok j t hj).more (by omega)
theorem info53 : (Try.prog.info? 53).map (fun i => (i.zero, i.size, i.bytes)) = some (some (.pointer none), 1, 8) := by kernel_rfl
theorem ty_tgt : ElemTy 70 69 3 40 := elemTy (i := none) (z := .agg #[.int .i64 0, .int .i64 0, .slice none 0 0]) Try.underlying70 (by kernel_rfl) rfl (by decide)
/-- An append of nothing. -/
theorem info69b : (Try.prog.info? 69).map (fun i => (i.zero, i.size)) = some (some (.agg #[.int .i64 0, .int .i64 0, .slice none 0 0]), 3) := by kernel_rfl
theorem run_app0 (w : World) (ty : TypeId) (b : Addr) (n c : Nat) (h : n ≤ c) (hn : n ≤ 1000000) : (Builtin.append_ #[70, 70] ty #[.slice (some b) n c, .slice none 0 0]).run Try.prog w = .ok (.slice (some b) n c) w := by
  have hi := info69b
  cases hq : Try.prog.info? 69 with
  | none => rw [hq] at hi; simp at hi
  | some ie =>
    rw [hq] at hi
    simp only [Option.map_some, Option.some.injEq, Prod.mk.injEq] at hi
    have h1 : ¬ (9223372036854775807 < (n : Int)) := by omega
    simp [Builtin.append_, run_underlying Try.underlying70, sizeOf, typeInfo, zeroValue, hq, hi, Builtin.lenOf, h, run_firstCells_none, storeCells]
theorem list_app0 {ops : Array Oper} {rest : List Oper} {o : Oper} {a : Act} {Q : Exit → Act → World → Prop} {w : World} (hgd : o.guard = none) (s x : Operand) (ho : o.op = .call { callee := .builtin .append, args := #[s, x], argTypes := #[70, 70] }) (b : Addr) (n c : Nat) (hs : a.eval s = .slice (some b) n c) (hx : a.eval x = .slice none 0 0) (h : n ≤ c) (hn : n ≤ 1000000)
    (hK : wpList Try.prog ops Q rest (a.put o.dst (.slice (some b) n c)) w) : wpList Try.prog ops Q (o :: rest) a w := by
  refine wpList_plain hgd fun K hK' => ?_
  have hr := run_app0 w o.type b n c h hn
  unfold Oper.wp execOp
  simp only [ho, resolve, invoke, builtin, Sem.run_bind, Sem.run_pure, Result.andThen_ok, List.map_toArray, List.map_cons, List.map_nil, hs, hx, hr]
  exact hK' _ _ hK
/-- A row's last element is taken off. -/
theorem own_popl {w : World} {base e size gl j cl : Nat} {ys zs : List Value} (h : w.ownsRow base e size (.slice (some ⟨gl, 0, none⟩) (j + 1) cl) (j + 1) (ys ++ zs)) (hy : ys.length = j * size) : w.ownsRow base e size (.slice (some ⟨gl, 0, none⟩) j cl) j ys := by
  refine ⟨hy, .inr ?_⟩
  rcases h.2 with ⟨h1, _⟩ | ⟨g, c, cur, h1, hb, hh, hn, hc, hs, ht⟩
  · cases h1
  · cases h1
    refine ⟨_, _, cur, rfl, hb, hh, by omega, hc, hs, ?_⟩
    have hlen : j * size ≤ (j + 1) * size := Nat.mul_le_mul_right _ (by omega)
    have := congrArg (List.take (j * size)) ht
    rw [List.take_take, Nat.min_eq_left hlen] at this
    rw [this, ← hy, List.take_left']
    rfl
theorem own_made {w : World} {base e size n : Nat} {cs : List Value} (hl : cs.length = n * size) (hb : base ≤ w.heap.size) (hn : n ≤ maxLen) : (w.alloc (.cells cs.toArray e)).ownsRow base e size (.slice (some ⟨w.heap.size, 0, none⟩) n n) n cs :=
  ⟨hl, .inr ⟨w.heap.size, n, cs.toArray, rfl, hb, Whole.made w e cs.toArray, Nat.le_refl _, hn, by simp [hl], by simp [← hl]⟩⟩
theorem own_more_alloc {w : World} {base e size n : Nat} {v : Value} {xs : List Value} (h : w.ownsRow base e size v n xs) (o : Obj) : (w.alloc o).ownsRow base e size v n xs := own_below h ((Below.refl _ _).alloc (Nat.le_refl _) o) (Nat.le_refl _)
theorem row_get {ys : List Value} {a b c : Value} {j : Nat} (h : ys.length = j * 3) : (ys ++ [a, b, c])[j * 3]? = some a ∧ (ys ++ [a, b, c])[j * 3 + 1]? = some b ∧ (ys ++ [a, b, c])[j * 3 + 2]? = some c := by
  rw [← h]; simp
end Go.Proofs.Ytjkbhdocpjekmaa
