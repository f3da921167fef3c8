/- A region that draws its order, whose last operation may end what was held of the world: loads are taken first under S; behind each operation but the last one S is shown anew. -/
import Derived.Deep.RegionHeld3
import Derived.KernelRfl
namespace Go.Proofs.Ytjkbhdocpjekmaa
set_option linter.unusedVariables false

section
variable {P : Program} {ops : Array Oper} {Q : Exit → Act → World → Prop} {md : Region.Mode} {S : World → Prop} {z : Nat}

/-- Does x wait for i, by others? -/
def waitsB (md : Region.Mode) (ops : Array Oper) : Nat → Nat → Nat → Bool
  | 0, _, _ => false
  | f + 1, x, i => match ops[x]? with
    | some o => o.after.any fun e => Region.binds md e && (e.on == i || waitsB md ops f e.on i)
    | none => false
def Clo (md : Region.Mode) (ops : Array Oper) (listed : Array Bool) : Prop :=
  ∀ j oj, ops[j]? = some oj → listed.getD j false = true → ∀ e ∈ oj.after, Region.binds md e = true → listed.getD e.on false = true
def cloB (md : Region.Mode) (ops : Array Oper) (listed : Array Bool) : Bool :=
  (List.range ops.size).all fun j => match ops[j]? with | some oj => !listed.getD j false || oj.after.all fun e => !Region.binds md e || listed.getD e.on false | none => true
theorem clo_of {listed : Array Bool} (h : cloB md ops listed = true) : Clo md ops listed := fun j oj ho hl e he hb => by
  have h1 := List.all_eq_true.1 h j (List.mem_range.2 (Array.getElem?_eq_some_iff.1 ho).1)
  simp only [ho, hl, Bool.not_true, Bool.false_or] at h1
  have h2 := Array.all_eq_true_iff_forall_mem.1 h1 e he
  simpa [hb] using h2
theorem waits_step {listed : Array Bool} : ∀ (f x i : Nat) (o : Oper), ops[x]? = some o → Clo md ops listed → (∀ e ∈ o.after, Region.binds md e = true → listed.getD e.on false = true) → waitsB md ops f x i = true → listed.getD i false = true
  | 0, x, i, o, _, _, _, h => by simp [waitsB] at h
  | f + 1, x, i, o, ho, hc, ha, h => by
    simp only [waitsB, ho] at h
    obtain ⟨e, he, hb⟩ := Array.any_eq_true'.1 h
    simp only [Bool.and_eq_true, Bool.or_eq_true, beq_iff_eq] at hb
    have h1 := ha e he hb.1
    rcases hb.2 with h2 | h2
    · rw [← h2]; exact h1
    · rcases ho' : ops[e.on]? with _ | o'
      · cases f with
        | zero => simp [waitsB] at h2
        | succ f => simp [waitsB, ho'] at h2
      · exact waits_step f e.on i o' ho' hc (fun e' he' hb' => hc e.on o' ho' h1 e' he' hb') h2
theorem waits_ready {listed : Array Bool} {f x i : Nat} (hc : Clo md ops listed) (hx : x ∈ Region.ready md ops listed) (h : waitsB md ops f x i = true) (hi : listed.getD i true = false) : False := by
  obtain ⟨_, o, ho, hall⟩ := mem_ready.1 hx
  have h1 := waits_step f x i o ho hc hall h
  rcases Nat.lt_or_ge i listed.size with h' | h'
  · simp [h'] at h1 hi; rw [hi] at h1; cases h1
  · simp [Array.getElem?_eq_none h'] at h1
theorem Clo.set {listed : Array Bool} {i : Nat} (h : Clo md ops listed) (hi : i ∈ Region.ready md ops listed) : Clo md ops (listed.setIfInBounds i true) := fun j oj ho hl e he hb => by
  obtain ⟨_, oi, hoi, hall⟩ := mem_ready.1 hi
  by_cases hij : i = j
  · subst hij
    rw [hoi] at ho; cases ho
    exact getD_set_true (hall e he hb)
  · rw [getD_set_ne false hij] at hl
    exact getD_set_true (h j oj ho hl e he hb)
/-- Whatever order is picked: behind each operation but z S holds. -/
def anyZ (P : Program) (md : Region.Mode) (ops : Array Oper) (Q : Exit → Act → World → Prop) (S : World → Prop) (z : Nat) : Nat → Array Bool → Act → World → Prop
  | 0, listed, a, w => Region.ready md ops listed = [] ∧ Q .normal a w
  | fuel + 1, listed, a, w =>
    (Region.ready md ops listed = [] → Q .normal a w) ∧
    ∀ i ∈ Region.ready md ops listed, wpOp P ops Q i (fun a' w' => (i ≠ z → S w') ∧ anyZ P md ops Q S z fuel (listed.setIfInBounds i true) a' w') a w
theorem any_of_Z : ∀ (fuel : Nat) (listed : Array Bool) (a : Act) (w : World), anyZ P md ops Q S z fuel listed a w → wpAny P md ops Q fuel listed a w
  | 0, _, _, _, h => h
  | fuel + 1, _, _, _, h => ⟨h.1, fun i hi => wpOp_mono (fun a' w' h' => any_of_Z fuel _ a' w' h'.2) (h.2 i hi)⟩
theorem anyZ_first {i f : Nat} {oi : Oper} {v : Value} (hi : ops[i]? = some oi) (hsel : ∀ (j : Nat) (o : Oper) cs b, ops[j]? = some o → o.op ≠ .select cs b)
    (hQ : ∀ c a w, Q (.panic c) (a.put oi.dst v) w → Q (.panic c) a w) (hz : waitsB md ops f z i = true) :
    ∀ (fuel : Nat) (listed : Array Bool) (a : Act) (w : World), Clo md ops listed →
      (∀ j oj, ops[j]? = some oj → j ≠ i → listed.getD j true = false → (∀ e ∈ oj.after, Region.binds md e = true → e.on ≠ i) → oi.apart ops oj = true) →
      i ∈ Region.ready md ops listed → YieldsIf P ops S oi v a → S w →
      anyZ P md ops Q S z fuel (listed.setIfInBounds i true) (a.put oi.dst v) w → anyZ P md ops Q S z (fuel + 1) listed a w := by
  intro fuel
  induction fuel with
  | zero =>
    intro listed a w _ _ hr hy hS H
    refine ⟨fun h => (by rw [h] at hr; cases hr), fun j hj => ?_⟩
    by_cases hji : j = i
    · subst hji; exact hy.wpOp hi hS ⟨fun _ => hS, H⟩
    · have := ready_mono hj hji
      rw [H.1] at this; cases this
  | succ fuel ih =>
    intro listed a w hc hfree hr hy hS H
    refine ⟨fun h => (by rw [h] at hr; cases hr), fun j hj => ?_⟩
    by_cases hji : j = i
    · subst hji; exact hy.wpOp hi hS ⟨fun _ => hS, H⟩
    · have hun := (mem_ready.1 hr).1
      have hjz : j ≠ z := fun e => by subst e; exact waits_ready hc hj hz hun
      obtain ⟨hjun, oj, hoj, hall⟩ := mem_ready.1 hj
      have hnot : ∀ e ∈ oj.after, Region.binds md e = true → e.on ≠ i := fun e he hb heq => by
        have h1 := hall e he hb
        rw [heq] at h1
        rcases Nat.lt_or_ge i listed.size with h' | h'
        · simp [h'] at h1 hun; rw [hun] at h1; cases h1
        · simp [Array.getElem?_eq_none h'] at h1
      have h2 := wpOp_putIf hoj (hfree j oj hoj hji hjun hnot) (fun cs b => hsel i oi cs b hi) (fun cs b => hsel j oj cs b hoj) hQ hy (H.2 j (ready_mono hj hji))
      have hfree' : ∀ k ok, ops[k]? = some ok → k ≠ i → (listed.setIfInBounds j true).getD k true = false →
          (∀ e ∈ ok.after, Region.binds md e = true → e.on ≠ i) → oi.apart ops ok = true := fun k ok hk hki hun2 hno => by
        refine hfree k ok hk hki ?_ hno
        by_cases hjk : j = k
        · subst hjk; exact hjun
        · rw [getD_set_ne true hjk] at hun2; exact hun2
      refine wpOp_mono (fun a' w' h3 => ⟨h3.2.1, ih (listed.setIfInBounds j true) a' w' (hc.set hj) hfree' (ready_mono hr (Ne.symm hji)) h3.1 (h3.2.1 hjz) ?_⟩) h2
      rw [Array.setIfInBounds_comm _ _ hji]
      exact h3.2.2
theorem anyZ_take {i : Nat} {oi : Oper} {v : Value} {fuel : Nat} {listed : Array Bool} {a : Act} {w : World} (hi : ops[i]? = some oi)
    (hs : Region.noSelect ops = true) (hf : Region.free md ops listed i = true) (hr : (Region.ready md ops listed).contains i = true) (hc : cloB md ops listed = true) (hz : waitsB md ops ops.size z i = true)
    (hQ : ∀ c a w, Q (.panic c) (a.put oi.dst v) w → Q (.panic c) a w) (hy : YieldsIf P ops S oi v a) (hS : S w)
    (h : anyZ P md ops Q S z fuel (listed.setIfInBounds i true) (a.put oi.dst v) w) : anyZ P md ops Q S z (fuel + 1) listed a w :=
  anyZ_first hi (Region.noSelect_spec hs) hQ hz fuel listed a w (clo_of hc) (Region.free_spec hi hf) (by simpa using hr) hy hS h
theorem anyZ_step {i : Nat} {o : Oper} {fuel : Nat} {listed : Array Bool} {a : Act} {w : World} (hr : Region.ready md ops listed = [i]) (ho : ops[i]? = some o)
    (h : ∀ K' : Act → World → Prop, Shut (∀ a w, (i ≠ z → S w) → ((i ≠ z → S w) → anyZ P md ops Q S z fuel (listed.setIfInBounds i true) a w) → K' a w) → if Region.wanted o (yielded ops a.tmps) = true then Oper.wp P o a w K' Q else K' (a.put o.dst undef) w) :
    anyZ P md ops Q S z (fuel + 1) listed a w := by
  refine ⟨fun h0 => (by rw [hr] at h0; cases h0), fun j hj => ?_⟩
  rw [hr] at hj
  obtain rfl : j = i := by simpa using hj
  exact wpOp_step ho (fun K' hK => h K' (fun a w hS hW => hK a w ⟨hS, hW hS⟩))
theorem anyZ_done {listed : Array Bool} {a : Act} {w : World} (hr : Region.ready md ops listed = []) (h : Q .normal a w) : ∀ fuel, anyZ P md ops Q S z fuel listed a w
  | 0 => ⟨hr, h⟩
  | _ + 1 => ⟨fun _ => h, by rw [hr]; simp⟩
theorem region_Z (S : World → Prop) (z : Nat) {id : Nat} {a : Act} {w : World} (hm : P.follows .mixedOrders = true) (hS : S w.drew)
    (h : S w.drew → anyZ P .any ops Q S z ops.size (Array.replicate ops.size false) a w.drew) : (Code.region id ops true).wp P Q a w :=
  wp_region_any hm (any_of_Z _ _ _ _ (h hS))
end
end Go.Proofs.Ytjkbhdocpjekmaa
