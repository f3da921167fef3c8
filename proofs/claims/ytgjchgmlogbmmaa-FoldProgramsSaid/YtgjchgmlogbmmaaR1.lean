/- A part of the proofs of chapter 11, squeezed, merged and shrunk by group.py: Last Sq Tk. -/
import Derived.Deep.RegionHeld3
import Derived.KernelRfl
import Derived.WalkKit
import Derived.Deep.Draws
import Derived.Laws.Rows
import Derived.Laws.BitsAllLaws
import Derived.WalkSpells
import Derived.WalkLawsBesides
import Derived.Lib.Hide
import Derived.Deep.DeepMust
import Derived.Deep.QuietTactic
import Derived.BigQuiet
import Derived.StillTailTactics
import Derived.IntWalk
import Derived.Deep.AppendLies
import Derived.Laws.BytesArg
import Derived.Maps.Own
import Derived.Maps.OwnOps
import Derived.Maps.OwnSet
import Derived.Deep.RegionWith
import Derived.OpenShut
import Derived.Test.YtgjchgmlogbmmaaProg
import Derived.Deep.RegionLaw
import Derived.Deep.DrawnRows
import Derived.Outline
import Derived.OwnWalk
import Derived.Lib.IndexMore
import Derived.Deep.LoopGhost
import Derived.Deep.CutBlock
import Derived.Deep.DeepCutAuto
/- A region that draws its order, whose last operations may end what was held of the world: loads are taken first under S; behind each operation but those last ones S is shown anew. -/
namespace Go.Proofs.Ytgjchgmlogbmmaa
set_option linter.unusedVariables false

section
variable {P : Program} {ops : Array Oper} {Q : Exit → Act → World → Prop} {md : Region.Mode} {S : World → Prop} {z : Nat → Bool}

/-- Does x wait for i, by others? -/
def waitsB (md : Region.Mode) (ops : Array Oper) : Nat → Nat → Nat → Bool
 | 0, _, _ => false
 | f + 1, x, i => match ops[x]? with
  | some o => o.after.any fun e => Region.binds md e && (e.on == i || waitsB md ops f e.on i)
  | none => false
def Clo (md : Region.Mode) (ops : Array Oper) (listed : Array Bool) : Prop :=
 ∀ j oj, ops[j]? = some oj → listed.getD j false = true → ∀ e ∈ oj.after, Region.binds md e = true → listed.getD e.on false = true
def cloB (md : Region.Mode) (ops : Array Oper) (listed : Array Bool) : Bool :=
 (List.range ops.size).all fun j => match ops[j]? with | some oj => !listed.getD j false || oj.after.all fun e => !Region.binds md e || listed.getD e.on false | none => true
theorem clo_of {listed : Array Bool} (h : cloB md ops listed = true) : Clo md ops listed := fun j oj ho hl e he hb => by
 have h1 := List.all_eq_true.1 h j (List.mem_range.2 (Array.getElem?_eq_some_iff.1 ho).1)
 simp only [ho, hl, Bool.not_true, Bool.false_or] at h1
 have h2 := Array.all_eq_true_iff_forall_mem.1 h1 e he
 simpa [hb] using h2
theorem waits_step {listed : Array Bool} : ∀ (f x i : Nat) (o : Oper), ops[x]? = some o → Clo md ops listed → (∀ e ∈ o.after, Region.binds md e = true → listed.getD e.on false = true) → waitsB md ops f x i = true → listed.getD i false = true
 | 0, x, i, o, _, _, _, h => by simp [waitsB] at h
 | f + 1, x, i, o, ho, hc, ha, h => by
  simp only [waitsB, ho] at h
  obtain ⟨e, he, hb⟩ := Array.any_eq_true'.1 h
  simp only [Bool.and_eq_true, Bool.or_eq_true, beq_iff_eq] at hb
  have h1 := ha e he hb.1
  rcases hb.2 with h2 | h2
  ·rw [← h2]; exact h1
  ·rcases ho' : ops[e.on]? with _ | o'
   ·cases f with
    | zero => simp [waitsB] at h2
    | succ f => simp [waitsB, ho'] at h2
   ·exact waits_step f e.on i o' ho' hc (fun e' he' hb' => hc e.on o' ho' h1 e' he' hb') h2
theorem waits_ready {listed : Array Bool} {f x i : Nat} (hc : Clo md ops listed) (hx : x ∈ Region.ready md ops listed) (h : waitsB md ops f x i = true) (hi : listed.getD i true = false) : False := by
 obtain ⟨_, o, ho, hall⟩ := mem_ready.1 hx
 have h1 := waits_step f x i o ho hc hall h
 rcases Nat.lt_or_ge i listed.size with h' | h'
 ·simp [h'] at h1 hi; rw [hi] at h1; cases h1
 ·simp [Array.getElem?_eq_none h'] at h1
theorem Clo.set {listed : Array Bool} {i : Nat} (h : Clo md ops listed) (hi : i ∈ Region.ready md ops listed) : Clo md ops (listed.setIfInBounds i true) := fun j oj ho hl e he hb => by
 obtain ⟨_, oi, hoi, hall⟩ := mem_ready.1 hi
 by_cases hij : i = j
 ·subst hij
  rw [hoi] at ho; cases ho
  exact getD_set_true (hall e he hb)
 ·rw [getD_set_ne false hij] at hl
  exact getD_set_true (h j oj ho hl e he hb)
/-- Whatever order is picked: behind each operation but z S holds. -/
def anyZ (P : Program) (md : Region.Mode) (ops : Array Oper) (Q : Exit → Act → World → Prop) (S : World → Prop) (z : Nat → Bool) : Nat → Array Bool → Act → World → Prop
 | 0, listed, a, w => Region.ready md ops listed = [] ∧ Q .normal a w
 | fuel + 1, listed, a, w =>
  (Region.ready md ops listed = [] → Q .normal a w) ∧
  ∀ i ∈ Region.ready md ops listed, wpOp P ops Q i (fun a' w' => (z i = false → S w') ∧ anyZ P md ops Q S z fuel (listed.setIfInBounds i true) a' w') a w
theorem any_of_Z : ∀ (fuel : Nat) (listed : Array Bool) (a : Act) (w : World), anyZ P md ops Q S z fuel listed a w → wpAny P md ops Q fuel listed a w
 | 0, _, _, _, h => h
 | fuel + 1, _, _, _, h => ⟨h.1, fun i hi => wpOp_mono (fun a' w' h' => any_of_Z fuel _ a' w' h'.2) (h.2 i hi)⟩
theorem anyZ_first {i f : Nat} {oi : Oper} {v : Value} (hi : ops[i]? = some oi) (hsel : ∀ (j : Nat) (o : Oper) cs b, ops[j]? = some o → o.op ≠ .select cs b)
  (hQ : ∀ c a w, Q (.panic c) (a.put oi.dst v) w → Q (.panic c) a w) (hz : ∀ k, z k = true → waitsB md ops f k i = true) :
  ∀ (fuel : Nat) (listed : Array Bool) (a : Act) (w : World), Clo md ops listed →
   (∀ j oj, ops[j]? = some oj → j ≠ i → listed.getD j true = false → (∀ e ∈ oj.after, Region.binds md e = true → e.on ≠ i) → oi.apart ops oj = true) →
   i ∈ Region.ready md ops listed → YieldsIf P ops S oi v a → S w →
   anyZ P md ops Q S z fuel (listed.setIfInBounds i true) (a.put oi.dst v) w → anyZ P md ops Q S z (fuel + 1) listed a w := by
 intro fuel
 induction fuel with
 | zero =>
  intro listed a w _ _ hr hy hS H
  refine ⟨fun h => (by rw [h] at hr; cases hr), fun j hj => ?_⟩
  by_cases hji : j = i
  ·subst hji; exact hy.wpOp hi hS ⟨fun _ => hS, H⟩
  ·have := ready_mono hj hji
   rw [H.1] at this; cases this
 | succ fuel ih =>
  intro listed a w hc hfree hr hy hS H
  refine ⟨fun h => (by rw [h] at hr; cases hr), fun j hj => ?_⟩
  by_cases hji : j = i
  ·subst hji; exact hy.wpOp hi hS ⟨fun _ => hS, H⟩
  ·have hun := (mem_ready.1 hr).1
   have hjz : z j = false := by
    rcases hq : z j with _ | _
    ·rfl
    ·exact (waits_ready hc hj (hz j hq) hun).elim
   obtain ⟨hjun, oj, hoj, hall⟩ := mem_ready.1 hj
   have hnot : ∀ e ∈ oj.after, Region.binds md e = true → e.on ≠ i := fun e he hb heq => by
    have h1 := hall e he hb
    rw [heq] at h1
    rcases Nat.lt_or_ge i listed.size with h' | h'
    ·simp [h'] at h1 hun; rw [hun] at h1; cases h1
    ·simp [Array.getElem?_eq_none h'] at h1
   have h2 := wpOp_putIf hoj (hfree j oj hoj hji hjun hnot) (fun cs b => hsel i oi cs b hi) (fun cs b => hsel j oj cs b hoj) hQ hy (H.2 j (ready_mono hj hji))
   have hfree' : ∀ k ok, ops[k]? = some ok → k ≠ i → (listed.setIfInBounds j true).getD k true = false →
     (∀ e ∈ ok.after, Region.binds md e = true → e.on ≠ i) → oi.apart ops ok = true := fun k ok hk hki hun2 hno => by
    refine hfree k ok hk hki ?_ hno
    by_cases hjk : j = k
    ·subst hjk; exact hjun
    ·rw [getD_set_ne true hjk] at hun2; exact hun2
   refine wpOp_mono (fun a' w' h3 => ⟨h3.2.1, ih (listed.setIfInBounds j true) a' w' (hc.set hj) hfree' (ready_mono hr (Ne.symm hji)) h3.1 (h3.2.1 hjz) ?_⟩) h2
   rw [Array.setIfInBounds_comm _ _ hji]
   exact h3.2.2
theorem anyZ_take {i : Nat} {oi : Oper} {v : Value} {fuel : Nat} {listed : Array Bool} {a : Act} {w : World} (hi : ops[i]? = some oi)
  (hs : Region.noSelect ops = true) (hf : Region.free md ops listed i = true) (hr : (Region.ready md ops listed).contains i = true) (hc : cloB md ops listed = true) (hz : ((List.range ops.size).all fun k => !z k || waitsB md ops ops.size k i) = true) (hzo : ∀ k, ops.size ≤ k → z k = false)
  (hQ : ∀ c a w, Q (.panic c) (a.put oi.dst v) w → Q (.panic c) a w) (hy : YieldsIf P ops S oi v a) (hS : S w)
  (h : anyZ P md ops Q S z fuel (listed.setIfInBounds i true) (a.put oi.dst v) w) : anyZ P md ops Q S z (fuel + 1) listed a w :=
 anyZ_first hi (Region.noSelect_spec hs) hQ (fun k hk => by
  rcases Nat.lt_or_ge k ops.size with h | h
  ·have := List.all_eq_true.1 hz k (List.mem_range.2 h)
   simpa [hk] using this
  ·rw [hzo k h] at hk; cases hk) fuel listed a w (clo_of hc) (Region.free_spec hi hf) (by simpa using hr) hy hS h
theorem anyZ_step {i : Nat} {o : Oper} {fuel : Nat} {listed : Array Bool} {a : Act} {w : World} (hr : Region.ready md ops listed = [i]) (ho : ops[i]? = some o)
  (h : ∀ K' : Act → World → Prop, Shut (∀ a w, (z i = false → S w) → ((z i = false → S w) → anyZ P md ops Q S z fuel (listed.setIfInBounds i true) a w) → K' a w) → if Region.wanted o (yielded ops a.tmps) = true then Oper.wp P o a w K' Q else K' (a.put o.dst undef) w) :
  anyZ P md ops Q S z (fuel + 1) listed a w := by
 refine ⟨fun h0 => (by rw [hr] at h0; cases h0), fun j hj => ?_⟩
 rw [hr] at hj
 obtain rfl : j = i := by simpa using hj
 exact wpOp_step ho (fun K' hK => h K' (fun a w hS hW => hK a w ⟨hS, hW hS⟩))
theorem anyZ_split {i j : Nat} {o o2 : Oper} {fuel : Nat} {listed : Array Bool} {a : Act} {w : World} (hr : Region.ready md ops listed = [i, j]) (ho : ops[i]? = some o) (ho2 : ops[j]? = some o2)
  (h : ∀ K' : Act → World → Prop, Shut (∀ a w, (z i = false → S w) → ((z i = false → S w) → anyZ P md ops Q S z fuel (listed.setIfInBounds i true) a w) → K' a w) → if Region.wanted o (yielded ops a.tmps) = true then Oper.wp P o a w K' Q else K' (a.put o.dst undef) w)
  (h2 : ∀ K' : Act → World → Prop, Shut (∀ a w, (z j = false → S w) → ((z j = false → S w) → anyZ P md ops Q S z fuel (listed.setIfInBounds j true) a w) → K' a w) → if Region.wanted o2 (yielded ops a.tmps) = true then Oper.wp P o2 a w K' Q else K' (a.put o2.dst undef) w) :
  anyZ P md ops Q S z (fuel + 1) listed a w := by
 refine ⟨fun h0 => (by rw [hr] at h0; cases h0), fun k hk => ?_⟩
 rw [hr] at hk
 simp only [List.mem_cons, List.not_mem_nil, or_false] at hk
 rcases hk with rfl | rfl
 ·exact wpOp_step ho (fun K' hK => h K' (fun a w hS hW => hK a w ⟨hS, hW hS⟩))
 ·exact wpOp_step ho2 (fun K' hK => h2 K' (fun a w hS hW => hK a w ⟨hS, hW hS⟩))
/-- Where all that is left may end what is held, nothing is held any more. -/
theorem anyZ_free : ∀ (fuel : Nat) (listed : Array Bool) (a : Act) (w : World), (∀ i, i < ops.size → listed.getD i true = false → z i = true) → anyZ P md ops Q (fun _ => True) (fun _ => false) fuel listed a w → anyZ P md ops Q S z fuel listed a w
 | 0, _, _, _, _, h => h
 | fuel + 1, listed, a, w, hz, h => ⟨h.1, fun i hi => by
  have hm := mem_ready.1 hi
  obtain ⟨hun, o, ho, _⟩ := hm
  have hlt : i < ops.size := (Array.getElem?_eq_some_iff.1 ho).1
  refine wpOp_mono (fun a' w' h' => ⟨fun hf => ?_, anyZ_free fuel _ a' w' (fun k hk hl => hz k hk ?_) h'.2⟩) (h.2 i hi)
  ·rw [hz i hlt hun] at hf; cases hf
  ·by_cases hik : i = k
   ·subst hik; exact hun
   ·rw [getD_set_ne true hik] at hl; exact hl⟩
theorem anyZ_done {listed : Array Bool} {a : Act} {w : World} (hr : Region.ready md ops listed = []) (h : Q .normal a w) : ∀ fuel, anyZ P md ops Q S z fuel listed a w
 | 0 => ⟨hr, h⟩
 | _ + 1 => ⟨fun _ => h, by rw [hr]; simp⟩
theorem region_Z (S : World → Prop) (z : Nat → Bool) {id : Nat} {a : Act} {w : World} (hm : P.follows .mixedOrders = true) (hS : S w.drew)
  (h : S w.drew → anyZ P .any ops Q S z ops.size (Array.replicate ops.size false) a w.drew) : (Code.region id ops true).wp P Q a w :=
 wp_region_any hm (any_of_Z _ _ _ _ (h hS))
end

section
variable {P : Program} {ops : Array Oper} {Q : Exit → Act → World → Prop} {md : Region.Mode} {S : World → Prop}
theorem tkf (i : Nat) {oi : Oper} {v : Value} {fuel : Nat} {listed : Array Bool} {a : Act} {w : World} (hi : ops[i]? = some oi) (hy : ∀ w, S w → (execOp a.eval oi).run P w = .ok (.value v) w)
  (h : anyZ P md ops Q S (fun _ => false) fuel (listed.setIfInBounds i true) (a.put oi.dst v) w) (hw : Region.wanted oi (yielded ops a.tmps) = true := by rfl) (hs : Region.noSelect ops = true := by kernel_rfl) (hf : Region.free md ops listed i = true := by kernel_rfl) (hr : (Region.ready md ops listed).contains i = true := by kernel_rfl) (hc : cloB md ops listed = true := by kernel_rfl)
  (hz : ((List.range ops.size).all fun k => !(fun _ => false) k || waitsB md ops ops.size k i) = true := by kernel_rfl) (hQ : ∀ c a w, Q (.panic c) (a.put oi.dst v) w → Q (.panic c) a w := by exact fun _ _ _ h => h) (hS : S w := by assumption) : anyZ P md ops Q S (fun _ => false) (fuel + 1) listed a w :=
 anyZ_take hi hs hf hr hc hz (fun _ _ => rfl) hQ (Or.inl ⟨hw, hy⟩) hS h
theorem tke (i : Nat) {m : Nat} {oi : Oper} {v : Value} {fuel : Nat} {listed : Array Bool} {a : Act} {w : World} (hi : ops[i]? = some oi) (hy : ∀ w, S w → (execOp a.eval oi).run P w = .ok (.value v) w)
  (h : anyZ P md ops Q S (fun i => i == m) fuel (listed.setIfInBounds i true) (a.put oi.dst v) w) (hw : Region.wanted oi (yielded ops a.tmps) = true := by rfl) (hs : Region.noSelect ops = true := by kernel_rfl) (hf : Region.free md ops listed i = true := by kernel_rfl) (hr : (Region.ready md ops listed).contains i = true := by kernel_rfl) (hc : cloB md ops listed = true := by kernel_rfl)
  (hz : ((List.range ops.size).all fun k => !(fun i => i == m) k || waitsB md ops ops.size k i) = true := by kernel_rfl) (hm : Nat.blt m ops.size = true := by kernel_rfl) (hQ : ∀ c a w, Q (.panic c) (a.put oi.dst v) w → Q (.panic c) a w := by exact fun _ _ _ h => h) (hS : S w := by assumption) : anyZ P md ops Q S (fun i => i == m) (fuel + 1) listed a w :=
 anyZ_take hi hs hf hr hc hz (fun k hk => by have h1 : m < ops.size := by simpa [Nat.blt_eq] using hm
                                             exact beq_eq_false_iff_ne.2 (by omega)) hQ (Or.inl ⟨hw, hy⟩) hS h
theorem tkg {z : Nat → Bool} (i : Nat) {oi : Oper} {v : Value} {fuel : Nat} {listed : Array Bool} {a : Act} {w : World} (hi : ops[i]? = some oi) (hzo : ∀ k, ops.size ≤ k → z k = false) (hy : ∀ w, S w → (execOp a.eval oi).run P w = .ok (.value v) w)
  (h : anyZ P md ops Q S z fuel (listed.setIfInBounds i true) (a.put oi.dst v) w) (hw : Region.wanted oi (yielded ops a.tmps) = true := by rfl) (hs : Region.noSelect ops = true := by kernel_rfl) (hf : Region.free md ops listed i = true := by kernel_rfl) (hr : (Region.ready md ops listed).contains i = true := by kernel_rfl) (hc : cloB md ops listed = true := by kernel_rfl)
  (hz : ((List.range ops.size).all fun k => !z k || waitsB md ops ops.size k i) = true := by kernel_rfl) (hQ : ∀ c a w, Q (.panic c) (a.put oi.dst v) w → Q (.panic c) a w := by exact fun _ _ _ h => h) (hS : S w := by assumption) : anyZ P md ops Q S z (fuel + 1) listed a w :=
 anyZ_take hi hs hf hr hc hz hzo hQ (Or.inl ⟨hw, hy⟩) hS h
theorem stp {z : Nat → Bool} (i : Nat) {o : Oper} {fuel : Nat} {listed : Array Bool} {a : Act} {w : World} (ho : ops[i]? = some o)
  (h : ∀ K' : Act → World → Prop, Shut (∀ a w, (z i = false → S w) → ((z i = false → S w) → anyZ P md ops Q S z fuel (listed.setIfInBounds i true) a w) → K' a w) → if Region.wanted o (yielded ops a.tmps) = true then Oper.wp P o a w K' Q else K' (a.put o.dst undef) w)
  (hr : Region.ready md ops listed = [i] := by kernel_rfl) : anyZ P md ops Q S z (fuel + 1) listed a w := anyZ_step hr ho h
end
end Go.Proofs.Ytgjchgmlogbmmaa
/- Turned from another seat: runquote_any unqF escF_len escX_len. -/
namespace Go.Proofs.Ytgjchgmlogbmmaa.S
open Go.RowKit
open Go.RowKit Go.Maps
set_option linter.unusedVariables false

/-- Block g holds just these cells, none of them frozen. -/
def Whole (w : World) (g : Nat) (t : TypeId) (cs : Array Value) : Prop := w.heap[g]? = some (.cells cs t (0, 0))
theorem Whole.lt {w : World} {g : Nat} {t : TypeId} {cs : Array Value} (h : Whole w g t cs) : g < w.heap.size := by
 unfold Whole at h
 rcases Nat.lt_or_ge g w.heap.size with hl | hl
 ·exact hl
 ·rw [Array.getElem?_eq_none hl] at h; cases h
theorem Whole.cell {w : World} {g : Nat} {t : TypeId} {cs : Array Value} (h : Whole w g t cs) (i : Nat) : w.cell? ⟨g, i, none⟩ = cs[i]? :=
 cell_of_row w g i cs t (0, 0) h
theorem Whole.made (w : World) (t : TypeId) (cs : Array Value) : Whole (w.alloc (.cells cs t)) w.heap.size t cs := heap_alloc_new w _
theorem Whole.put {w : World} {g : Nat} {t : TypeId} {cs : Array Value} (h : Whole w g t cs) (i : Nat) (u : Value) : Whole (w.setCell ⟨g, i, none⟩ u) g t (cs.setIfInBounds i u) := by
 unfold Whole at h ⊢; simp [World.setCell, Array.getElem?_modify, h]
theorem Whole.alloc {w : World} {g : Nat} {t : TypeId} {cs : Array Value} (h : Whole w g t cs) (o : Obj) : Whole (w.alloc o) g t cs := (Below.heap_alloc w o g h.lt).trans h
theorem data_get (d : ByteArray) (k : Nat) (h : k < d.size) : d.data.toList[k]? = some d[k] := by
 rw [Array.getElem?_toList, Array.getElem?_eq_getElem (by simpa using h)]; rfl
theorem size_data (d : ByteArray) : d.data.toList.length = d.size := by simp
theorem ret_i {k : IntKind} {a b : Int} (h : a = b) : Ending.returned (.int k a) = .returned (.int k b) := by rw [h]
/-- Bytes that are written as themselves. -/
def plainB (c : UInt8) : Bool := decide (32 ≤ (c.toNat : Int)) && decide ((c.toNat : Int) ≤ 126) && ((c.toNat : Int) != 34) && ((c.toNat : Int) != 92)
def u8v (c : UInt8) : Value := .int .u8 (c.toNat : Int)
theorem Try.info5 : (Try.prog.info? 5).map (fun i => (i.zero, i.size, i.bytes)) = some (some (.int .u8 0), 1, 1) := by kernel_rfl
theorem app_u8 {ops : Array Oper} {rest : List Oper} {o : Oper} {a : Act} {Q : Exit → Act → World → Prop} {w0 wr : World} {base : Nat} {v : Value} {n m : Nat} {xs news : List Value} (hgd : o.guard = none) (s x : Operand)
  (ho : o.op = .call { callee := .builtin .append, args := #[s, x], argTypes := #[83, 83] }) (hs : a.eval s = v) (hown : wr.ownsRow base 5 1 v n xs) (hw : Below base w0 wr) (hb : base ≤ wr.heap.size)
  (hx : a.eval x = .slice (some ⟨wr.heap.size, 0, none⟩) m m) (hm : news.length = m) (h1 : ∀ u ∈ news, u.oneCell' = true) (hn : n + m ≤ 1000000000)
  (h : ∀ v' w', w'.ownsRow base 5 1 v' (n + m) (xs ++ news) → Below base w0 w' → base ≤ w'.heap.size → wpList Try.prog ops Q rest (a.put o.dst v') w') :
  wpList Try.prog ops Q (o :: rest) a (wr.alloc (.cells news.toArray 5)) := by
 obtain ⟨i0, hi, hz0, hz1, hz2⟩ := info_parts Try.info5
 refine wpList_append_own _ hgd s x 83 ho base 5 i0 (.int .u8 0) 1 1 Try.underlying83 hi hz0 hz1 hz2 rfl (by decide) v n xs hs (hown.alloc _) ⟨wr.heap.size, 0, none⟩ m m news hx (by omega) ?_ h1 ?_ ?_ ?_ ?_
 ·intro j u hj
  have := (Whole.made wr 5 news.toArray).cell j
  have e : (⟨wr.heap.size, 0, none⟩ : Addr).add j = ⟨wr.heap.size, j, none⟩ := by unfold Addr.add; split <;> simp_all
  rw [e, this]; simpa using hj
 ·unfold maxLen; omega
 ·omega
 ·simp; omega
 ·intro v' w1 hown' hgrow _
  refine h v' w1 hown' ((hw.alloc hb _).grown hgrow (by simp; omega) (fun k hk => (hown.lt k hk).1)) ?_
  have := hgrow.size; simp at this; omega
theorem conv_own {w : World} {base n : Nat} {v : Value} {xs : List Value} {l : List UInt8} (h : w.ownsRow base 5 1 v n xs) (hx : xs = l.map u8v) : (convert 83 9 v).run Try.prog w = .ok (.string ⟨l.toArray⟩) w := by
 subst hx
 have hl := h.1
 rw [List.length_map, Nat.mul_one] at hl
 rcases h.2 with ⟨rfl, rfl⟩ | ⟨g, cap, cur, rfl, hg, hh, hn, hc, hs, ht⟩
 ·have : l = [] := List.eq_nil_of_length_eq_zero hl
  subst this
  exact run_convert_bytes_nil w 83 5 Try.underlying83 Try.underlying5 0 0 9 Try.underlying9
 ·have hr := run_convert_bytes_arg w 83 5 Try.underlying83 Try.underlying5 g 0 n cap (l.map fun c => (c.toNat : Int)) (by simpa using hl) (fun i hi => by
   have h1 : w.cell? ⟨g, 0 + i, none⟩ = cur[i]? := by rw [Nat.zero_add]; exact cell_of_row w g i cur 5 (0, 0) hh
   rw [h1]
   have h2 : cur[i]? = (cur.toList.take (n * 1))[i]? := by rw [List.getElem?_take, if_pos (by omega), Array.getElem?_toList]
   rw [h2, ht, List.getElem?_map]
   simp [List.getD, List.getElem?_map, List.getElem?_eq_getElem (show i < l.length by omega), u8v]) 9 Try.underlying9
  rw [hr]
  congr 2
  unfold strOfNums
  congr 2
  rw [List.map_map]
  conv => rhs; rw [← List.map_id l]
  apply List.map_congr_left
  intro b _
  simp
def hexV (c : UInt8) : Option Nat := if 48 ≤ c.toNat ∧ c.toNat ≤ 57 then some (c.toNat - 48) else if 97 ≤ c.toNat ∧ c.toNat ≤ 102 then some (c.toNat - 87) else none
def idxH (c : UInt8) : Int := match hexV c with | some p => (p : Int) | none => -1
/-- What stands behind a backslash: the byte, how many bytes, the error. -/
def escX : List UInt8 → UInt8 × Nat × Int
 | [] => (0, 0, 11)
 | x :: r => match hexV x with
  | none => (0, 0, 10)
  | some p => match r with
   | [] => (0, 0, 11)
   | y :: _ => match hexV y with
    | none => (0, 0, 10)
    | some q => (UInt8.ofNat (16 * p + q), 3, 0)
def escF : List UInt8 → UInt8 × Nat × Int
 | [] => (0, 0, 11)
 | a :: r => if a = 110 then (10, 1, 0) else if a = 34 then (34, 1, 0) else if a = 92 then (92, 1, 0) else if a = 120 then escX r else (0, 0, 10)
theorem hexV_lt {c : UInt8} {p : Nat} (h : hexV c = some p) : p < 16 := by
 unfold hexV at h
 split at h
 ·injection h with h; omega
 ·split at h
  ·injection h with h; omega
  ·cases h
theorem drop_more (s : ByteArray) (k : Nat) (h : k < s.size) : s.data.toList.drop k = s[k] :: s.data.toList.drop (k + 1) := by
 rw [List.drop_eq_getElem_cons (by rw [size_data]; exact h)]; rfl
theorem data_cons (s : ByteArray) (h : 0 < s.size) : s.data.toList = s[0] :: s.data.toList.drop 1 := drop_more s 0 h
theorem drop_end (s : ByteArray) (k : Nat) (h : ¬ k < s.size) : s.data.toList.drop k = [] := List.drop_eq_nil_of_le (by rw [size_data]; omega)
theorem idx_none {c : UInt8} (h : hexV c = none) : idxH c = -1 := by unfold idxH; rw [h]
theorem idx_some {c : UInt8} {p : Nat} (h : hexV c = some p) : idxH c = p := by unfold idxH; rw [h]
theorem ne_u8 {c d : UInt8} (h : ¬ c = d) : ((c.toNat : Int) != (d.toNat : Int)) = true := by rw [bne_iff_ne]; intro hh; exact h (UInt8.toNat.inj (by omega))
def unq : Nat → List UInt8 → List UInt8 → Nat → List UInt8 × Nat × Int
 | 0, _, _, _ => ([], 0, 11)
 | f + 1, rest, acc, k => match rest with
  | [] => ([], 0, 11)
  | c :: r =>
   if c = 10 then ([], 0, 11)
   else if c = 34 then (if 60 < acc.length then ([], 0, 12) else (acc, k + 1, 0))
   else if c = 92 then (if (escF r).2.2 = 0 then unq f (r.drop (escF r).2.1) (acc ++ [(escF r).1]) (k + 1 + (escF r).2.1) else ([], 0, (escF r).2.2))
   else if plainB c then unq f r (acc ++ [c]) (k + 1) else ([], 0, 10)
def unqF (l : List UInt8) : List UInt8 × Nat × Int := match l with
 | c :: r => if c = 34 then unq (r.length + 1) r [] 1 else ([], 0, 14)
 | [] => ([], 0, 14)
theorem escX_len (l : List UInt8) (h : (escX l).2.2 = 0) : (escX l).2.1 = 3 ∧ 2 ≤ l.length := by
 cases l with
 | nil => simp [escX] at h
 | cons x r =>
  rw [escX] at h ⊢
  cases hv : hexV x with
  | none => rw [hv] at h; simp at h
  | some p =>
   rw [hv] at h
   cases r with
   | nil => simp at h
   | cons y t =>
    dsimp only at h ⊢
    cases hw : hexV y with
    | none => rw [hw] at h; simp at h
    | some q => simp
theorem escF_len (l : List UInt8) (h : (escF l).2.2 = 0) : 1 ≤ (escF l).2.1 ∧ (escF l).2.1 ≤ l.length ∧ (escF l).2.1 ≤ 3 := by
 cases l with
 | nil => simp [escF] at h
 | cons a r =>
  rw [escF] at h ⊢
  split
  ·simp
  ·split
   ·simp
   ·split
    ·simp
    ·split
     ·rename_i h1 h2 h3 h4
      rw [if_neg h1, if_neg h2, if_neg h3, if_pos h4] at h
      obtain ⟨e1, e2⟩ := escX_len r h
      rw [e1]; simp; omega
     ·rename_i h1 h2 h3 h4
      rw [if_neg h1, if_neg h2, if_neg h3, if_neg h4] at h
      simp at h
/-- Where a reading stands. -/
structure UnqAt (l : List UInt8) (k f : Nat) (acc : List UInt8) : Prop where
 fuel : l.length < k + f
 le : k ≤ l.length
 few : acc.length ≤ k
 all : unqF l = unq f (l.drop k) acc k
theorem unq_start {c : UInt8} {r : List UInt8} (h : c = 34) : UnqAt (c :: r) 1 (r.length + 1) [] :=
 ⟨by simp, by simp, by simp, by rw [unqF, if_pos h]; rfl⟩
theorem unq_end {l : List UInt8} {k f : Nat} {acc : List UInt8} (h : UnqAt l k f acc) (hk : ¬ k < l.length) : unqF l = ([], 0, 11) := by
 rw [h.all, List.drop_eq_nil_of_le (by omega)]
 have := h.fuel; have := h.le
 cases f with
 | zero => rfl
 | succ f => rfl
theorem UnqAt.step {l : List UInt8} {k f : Nat} {acc : List UInt8} (h : UnqAt l k f acc) {c : UInt8} (hc : l[k]? = some c) : ∃ g, f = g + 1 ∧ k < l.length ∧ unqF l = (if c = 10 then ([], 0, 11)
   else if c = 34 then (if 60 < acc.length then ([], 0, 12) else (acc, k + 1, 0))
   else if c = 92 then (if (escF (l.drop (k + 1))).2.2 = 0 then unq g ((l.drop (k + 1)).drop (escF (l.drop (k + 1))).2.1) (acc ++ [(escF (l.drop (k + 1))).1]) (k + 1 + (escF (l.drop (k + 1))).2.1) else ([], 0, (escF (l.drop (k + 1))).2.2))
   else if plainB c then unq g (l.drop (k + 1)) (acc ++ [c]) (k + 1) else ([], 0, 10)) := by
 have hk : k < l.length := by
  rcases Nat.lt_or_ge k l.length with hk | hk
  ·exact hk
  ·rw [List.getElem?_eq_none hk] at hc; cases hc
 have hf := h.fuel
 obtain ⟨g, rfl⟩ : ∃ g, f = g + 1 := ⟨f - 1, by omega⟩
 have hd : l.drop k = c :: l.drop (k + 1) := by
  rw [List.getElem?_eq_getElem hk] at hc
  injection hc with hc
  rw [List.drop_eq_getElem_cons hk, hc]
 refine ⟨g, rfl, hk, ?_⟩
 rw [h.all, hd, unq]
theorem UnqAt.open_ {l : List UInt8} {k f : Nat} {acc : List UInt8} (h : UnqAt l k f acc) (hc : l[k]? = some 10) : unqF l = ([], 0, 11) := by
 obtain ⟨g, _, _, e⟩ := h.step hc; rw [e]; simp
theorem UnqAt.long {l : List UInt8} {k f : Nat} {acc : List UInt8} (h : UnqAt l k f acc) (hc : l[k]? = some 34) (ha : 60 < acc.length) : unqF l = ([], 0, 12) := by
 obtain ⟨g, _, _, e⟩ := h.step hc; rw [e]; simp; omega
theorem UnqAt.done {l : List UInt8} {k f : Nat} {acc : List UInt8} (h : UnqAt l k f acc) (hc : l[k]? = some 34) (ha : ¬ 60 < acc.length) : unqF l = (acc, k + 1, 0) := by
 obtain ⟨g, _, _, e⟩ := h.step hc; rw [e]; simp; omega
theorem UnqAt.esc_no {l : List UInt8} {k f : Nat} {acc : List UInt8} (h : UnqAt l k f acc) (hc : l[k]? = some 92) (he : (escF (l.drop (k + 1))).2.2 ≠ 0) : unqF l = ([], 0, (escF (l.drop (k + 1))).2.2) := by
 obtain ⟨g, _, _, e⟩ := h.step hc; rw [e]; simp [he]
theorem UnqAt.esc_ok {l : List UInt8} {k f : Nat} {acc : List UInt8} (h : UnqAt l k f acc) (hc : l[k]? = some 92) (he : (escF (l.drop (k + 1))).2.2 = 0) :
  ∃ g, UnqAt l (k + 1 + (escF (l.drop (k + 1))).2.1) g (acc ++ [(escF (l.drop (k + 1))).1]) := by
 obtain ⟨g, hg, hk, e⟩ := h.step hc
 obtain ⟨n1, n2, n3⟩ := escF_len _ he
 rw [List.length_drop] at n2
 have := h.fuel; have := h.few
 refine ⟨g, by omega, by omega, by simp; omega, ?_⟩
 rw [e, List.drop_drop]; simp [he]
theorem UnqAt.bad {l : List UInt8} {k f : Nat} {acc : List UInt8} (h : UnqAt l k f acc) {c : UInt8} (hc : l[k]? = some c) (h1 : c ≠ 10) (h2 : c ≠ 34) (h3 : c ≠ 92) (hp : plainB c = false) : unqF l = ([], 0, 10) := by
 obtain ⟨g, _, _, e⟩ := h.step hc; rw [e]; simp [h1, h2, h3, hp]
theorem UnqAt.next {l : List UInt8} {k f : Nat} {acc : List UInt8} (h : UnqAt l k f acc) {c : UInt8} (hc : l[k]? = some c) (h1 : c ≠ 10) (hp : plainB c = true) : ∃ g, UnqAt l (k + 1) g (acc ++ [c]) := by
 obtain ⟨g, hg, hk, e⟩ := h.step hc
 have h2 : c ≠ 34 := by rintro rfl; revert hp; decide
 have h3 : c ≠ 92 := by rintro rfl; revert hp; decide
 have := h.fuel; have := h.few
 refine ⟨g, by omega, by omega, by simp; omega, ?_⟩
 rw [e]; simp [h1, h2, h3, hp]
theorem own_val {w : World} {base e n : Nat} {v : Value} {xs : List Value} (h : w.ownsRow base e 1 v n xs) : ∃ A c, v = .slice A n c := by
 rcases h.2 with ⟨rfl, rfl⟩ | ⟨g, cap, cur, rfl, _⟩
 ·exact ⟨none, 0, rfl⟩
 ·exact ⟨_, cap, rfl⟩
def UnqPost (l : List UInt8) (w : World) (e : Ending) (w' : World) : Prop :=
 e = .returned (.tuple #[.string ⟨(unqF l).1.toArray⟩, .int .i64 ((unqF l).2.1 : Int), .int .i64 (unqF l).2.2]) ∧ Below w.heap.size w w'
theorem unq_post {l : List UInt8} {w w' : World} {S : ByteArray} {n e : Int} {x : List UInt8} {m : Nat} (h : unqF l = (x, m, e)) (hS : S = ⟨x.toArray⟩) (hn : n = (m : Int)) (hb : Below w.heap.size w w') :
  UnqPost l w (.returned (.tuple #[.string S, .int .i64 n, .int .i64 e])) w' := by
 unfold UnqPost; rw [h, hS, hn]; exact ⟨rfl, hb⟩
def UnqRel (s : ByteArray) (w : World) (v i : Value) (wr : World) : Prop :=
 ∃ (k f : Nat) (acc : List UInt8), i = .int .i64 (k : Int) ∧ UnqAt s.data.toList k f acc ∧ wr.ownsRow w.heap.size 5 1 v acc.length (acc.map u8v) ∧ Below w.heap.size w wr
theorem eq_u8 {c d : UInt8} (h : c = d) : ((c.toNat : Int) == (d.toNat : Int)) = true := by rw [h]; exact beq_self_eq_true _
theorem nq_u8 {c d : UInt8} (h : ¬ c = d) : ((c.toNat : Int) == (d.toNat : Int)) = false := by rw [beq_eq_false_iff_ne]; intro hh; exact h (UInt8.toNat.inj (by omega))
set_option maxRecDepth 100000 in
set_option maxHeartbeats 1000000 in
theorem digit_any (c : UInt8) (w : World) :
  Calls Try.prog 74 #[.int .u8 (c.toNat : Int)] w fun e w' => e = .returned (.int .i64 (idxH c)) ∧ w = w' := by
 have hc := c.toNat_lt
 by_cases h1 : 48 ≤ c.toNat ∧ c.toNat ≤ 57
 ·have HF : Hid (idxH c = (c.toNat : Int) - 48) := by
   show idxH c = _
   unfold idxH hexV; rw [if_pos h1]; show ((c.toNat - 48 : Nat) : Int) = _; omega
  have a1 : 48 ≤ (c.toNat : Int) := by omega
  have a2 : (c.toNat : Int) ≤ 57 := by omega
  clear h1
  go_enter Try.func74, Try.ntmps74
  go_wp2
  go_ret
  exact ⟨ret_i HF.out.symm, rfl⟩
 ·by_cases h2 : 97 ≤ c.toNat ∧ c.toNat ≤ 102
  ·have HF : Hid (idxH c = (c.toNat : Int) - 97 + 10) := by
    show idxH c = _
    unfold idxH hexV; rw [if_neg h1, if_pos h2]; show ((c.toNat - 87 : Nat) : Int) = _; omega
   have a1 : 48 ≤ (c.toNat : Int) := by omega
   have a2 : ¬ (c.toNat : Int) ≤ 57 := by omega
   have a3 : 97 ≤ (c.toNat : Int) := by omega
   have a4 : (c.toNat : Int) ≤ 102 := by omega
   clear h1 h2
   go_enter Try.func74, Try.ntmps74
   go_wp2
   go_ret
   exact ⟨ret_i HF.out.symm, rfl⟩
  ·have HF : Hid (idxH c = -1) := by
    show idxH c = _
    unfold idxH hexV; rw [if_neg h1, if_neg h2]
   generalize idxH c = v at *
   rcases (by omega : c.toNat < 48 ∨ (57 < c.toNat ∧ c.toNat < 97) ∨ 102 < c.toNat) with h3 | ⟨h3, h4⟩ | h3
   all_goals
    have a0 : (c.toNat : Int) < 256 := by omega
    have H1 := Lib.hid h1; have H2 := Lib.hid h2
    clear h1 h2
   ·have a1 : (c.toNat : Int) < 48 := by omega
    have a2 : (c.toNat : Int) < 97 := by omega
    go_enter Try.func74, Try.ntmps74
    go_wp2
    go_ret
    exact ⟨ret_i HF.out.symm, rfl⟩
   ·have a1 : 48 ≤ (c.toNat : Int) := by omega
    have a2 : 57 < (c.toNat : Int) := by omega
    have a3 : (c.toNat : Int) < 97 := by omega
    go_enter Try.func74, Try.ntmps74
    go_wp2
    go_ret
    exact ⟨ret_i HF.out.symm, rfl⟩
   ·have a1 : 48 ≤ (c.toNat : Int) := by omega
    have a2 : 57 < (c.toNat : Int) := by omega
    have a3 : 97 ≤ (c.toNat : Int) := by omega
    have a4 : 102 < (c.toNat : Int) := by omega
    go_enter Try.func74, Try.ntmps74
    go_wp2
    go_ret
    exact ⟨ret_i HF.out.symm, rfl⟩
theorem esc_at {s : ByteArray} {k : Nat} (h : k < s.size) : escF (s.data.toList.drop k) = (if s[k] = 110 then (10, 1, 0) else if s[k] = 34 then (34, 1, 0) else if s[k] = 92 then (92, 1, 0) else if s[k] = 120 then escX (s.data.toList.drop (k + 1)) else (0, 0, 10)) := by
 rw [drop_more s k h, escF]
theorem ex_0 {s : ByteArray} {k : Nat} (h : ¬ k < s.size) : escX (s.data.toList.drop k) = (0, 0, 11) := by rw [drop_end s k h]; rfl
theorem ex_1 {s : ByteArray} {k : Nat} (h : k < s.size) (hv : hexV s[k] = none) : escX (s.data.toList.drop k) = (0, 0, 10) := by rw [drop_more s k h, escX, hv]
theorem ex_2 {s : ByteArray} {k : Nat} (h : k < s.size) {p : Nat} (hv : hexV s[k] = some p) (h2 : ¬ k + 1 < s.size) : escX (s.data.toList.drop k) = (0, 0, 11) := by rw [drop_more s k h, escX, hv, drop_end s (k + 1) h2]
theorem ex_3 {s : ByteArray} {k : Nat} (h : k < s.size) {p : Nat} (hv : hexV s[k] = some p) (h2 : k + 1 < s.size) (hw : hexV s[k + 1] = none) : escX (s.data.toList.drop k) = (0, 0, 10) := by
 rw [drop_more s k h, escX, hv]
 show (match s.data.toList.drop (k + 1) with | [] => _ | y :: _ => _) = _
 rw [drop_more s (k + 1) h2]; show (match hexV s[k + 1] with | none => _ | some q => _) = _; rw [hw]
theorem ex_4 {s : ByteArray} {k : Nat} (h : k < s.size) {p q : Nat} (hv : hexV s[k] = some p) (h2 : k + 1 < s.size) (hw : hexV s[k + 1] = some q) : escX (s.data.toList.drop k) = (UInt8.ofNat (16 * p + q), 3, 0) := by
 rw [drop_more s k h, escX, hv]
 show (match s.data.toList.drop (k + 1) with | [] => _ | y :: _ => _) = _
 rw [drop_more s (k + 1) h2]; show (match hexV s[k + 1] with | none => _ | some q => _) = _; rw [hw]
def YRel (s : ByteArray) (k : Nat) (i n j : Value) : Prop :=
 (i = .int .i64 (k : Int) ∧ n = .int .i64 0 ∧ j = .int .i64 0) ∨ (∃ p, ∃ h : k < s.size, hexV s[k] = some p ∧ i = .int .i64 ((k + 1 : Nat) : Int) ∧ n = .int .i64 (p : Int) ∧ j = .int .i64 1) ∨
 (∃ p q, ∃ h : k + 1 < s.size, hexV s[k] = some p ∧ hexV s[k + 1] = some q ∧ i = .int .i64 ((k + 2 : Nat) : Int) ∧ n = .int .i64 ((16 * p + q : Nat) : Int) ∧ j = .int .i64 2)
set_option maxRecDepth 100000 in
set_option maxHeartbeats 4000000 in
theorem runquote_in (s : ByteArray) (w : World) (hs : s.size ≤ 1000) (h0 : 0 < s.size) (h34 : s[0] = 34) : Calls Try.prog 62 #[.string s] w (UnqPost s.data.toList w) := by
 have he : ((s.size : Int) == 0) = false := by rw [beq_eq_false_iff_ne]; omega
 have ht : ((s[0].toNat : Int) != 34) = false := by rw [h34]; rfl
 have hst : UnqAt s.data.toList 1 ((s.data.toList.drop 1).length + 1) [] := by
  have h := unq_start (r := s.data.toList.drop 1) h34
  rw [← data_cons s h0] at h
  exact h
 have HS := Lib.hid hst
 clear hst h34
 go_enter Try.func62, Try.ntmps62
 go_wp2_with fail
 go_loopw [5, 6] (UnqRel s w) (fun _ i _ => s.size + 1 - (intOf i).toNat)
 case atStart => exact ⟨1, _, [], rfl, HS.out, World.ownsRow_nil _ _ _ _, Below.refl _ _⟩
 case round =>
  obtain ⟨k, f, acc, rfl, ha, hown, hw⟩ := hrel
  clear HS
  have hkl := ha.le
  rw [size_data] at hkl
  have hfew := ha.few
  obtain ⟨A, cp, hv⟩ := own_val hown
  rw [hv] at hown ⊢
  clear hv
  by_cases hlt : k < s.size
  ·have hge : ¬ (s.size : Int) ≤ k := by omega
   have hc := data_get s k hlt
   have hc8 := s[k].toNat_lt
   have HA := Lib.hid ha
   clear ha
   by_cases h34 : s[k] = 34
   ·have t2 : ((s[k].toNat : Int) != 34) = false := by rw [h34]; rfl
    rw [h34] at hc
    by_cases hl : 60 < acc.length
    ·have HF := Lib.hid (HA.out.long hc hl)
     have hl' : 60 < (acc.length : Int) := by omega
     clear hc h34
     go_wp2
     go_ret3
     exact unq_post HF.out rfl rfl hw
    ·have HF := Lib.hid (HA.out.done hc hl)
     have hl' : ¬ 60 < (acc.length : Int) := by omega
     have hcv := conv_own hown rfl
     clear hc h34
     go_wp2
     go_ret3
     exact unq_post HF.out rfl (by omega) hw
   ·have t2 : ((s[k].toNat : Int) != 34) = true := ne_u8 h34
    by_cases h10 : s[k] = 10
    ·have t1 : ((s[k].toNat : Int) == 10) = true := eq_u8 h10
     rw [h10] at hc
     have HF := Lib.hid (HA.out.open_ hc)
     clear hc h10 h34
     go_wp2
     go_ret3
     exact unq_post HF.out rfl rfl hw
    ·have t1 : ((s[k].toNat : Int) == 10) = false := nq_u8 h10
     by_cases h92 : s[k] = 92
     ·have t3 : ((s[k].toNat : Int) != 92) = false := by rw [h92]; rfl
      have p1 : 32 ≤ (s[k].toNat : Int) := by rw [h92]; decide
      have p2 : (s[k].toNat : Int) ≤ 126 := by rw [h92]; decide
      rw [h92] at hc
      have hno := HA.out.esc_no hc
      have hok := HA.out.esc_ok hc
      clear h10 h34 h92 hc
      by_cases hk1 : k + 1 < s.size
      ·have hk1' : ¬ (s.size : Int) ≤ (k : Int) + 1 := by omega
       have hd1 := s[k + 1].toNat_lt
       have hes := esc_at hk1
       by_cases n1 : s[k + 1] = 110
       ·rw [if_pos n1] at hes
        obtain ⟨g, hg⟩ := hok (by rw [hes])
        rw [hes] at hg
        have HG := Lib.hid hg
        have u1 : ((s[k + 1].toNat : Int) == 110) = true := eq_u8 n1
        clear hno hok hes hg n1
        go_wp2_with (at_builtin; go_must (refine app_u8 rfl _ _ rfl rfl hown hw hw.size rfl rfl (by intro u hu; simp at hu; subst hu; rfl) (by omega) ?_); intro v' w' hown' hw' _)
        exact ⟨⟨k + 1 + 1, g, acc ++ [10], by congr 1, HG.out, by simpa [u8v] using hown', hw'⟩, by simp [intOf]; omega⟩
       ·have u1 : ((s[k + 1].toNat : Int) == 110) = false := nq_u8 n1
        rw [if_neg n1] at hes
        by_cases n2 : s[k + 1] = 34
        ·rw [if_pos n2] at hes
         obtain ⟨g, hg⟩ := hok (by rw [hes])
         rw [hes] at hg
         have HG := Lib.hid hg
         have u2 : (s[k + 1].toNat : Int) = 34 := by rw [n2]; rfl
         clear hno hok hes hg n1 n2
         go_wp2_with (at_builtin; go_must (refine app_u8 rfl _ _ rfl rfl hown hw hw.size rfl rfl (by intro u hu; simp at hu; subst hu; rfl) (by omega) ?_); intro v' w' hown' hw' _)
         exact ⟨⟨k + 1 + 1, g, acc ++ [34], by congr 1, HG.out, by simpa [u8v] using hown', hw'⟩, by simp [intOf]; omega⟩
        ·have u2 : ((s[k + 1].toNat : Int) == 34) = false := nq_u8 n2
         rw [if_neg n2] at hes
         by_cases n3 : s[k + 1] = 92
         ·rw [if_pos n3] at hes
          obtain ⟨g, hg⟩ := hok (by rw [hes])
          rw [hes] at hg
          have HG := Lib.hid hg
          have u3 : (s[k + 1].toNat : Int) = 92 := by rw [n3]; rfl
          clear hno hok hes hg n1 n2 n3 u1 u2
          go_wp2_with (at_builtin; go_must (refine app_u8 rfl _ _ rfl rfl hown hw hw.size rfl rfl (by intro u hu; simp at hu; subst hu; rfl) (by omega) ?_); intro v' w' hown' hw' _)
          exact ⟨⟨k + 1 + 1, g, acc ++ [92], by congr 1, HG.out, by simpa [u8v] using hown', hw'⟩, by simp [intOf]; omega⟩
         ·have u3 : ((s[k + 1].toNat : Int) == 92) = false := nq_u8 n3
          rw [if_neg n3] at hes
          by_cases n4 : s[k + 1] = 120
          ·rw [if_pos n4] at hes
           have u4x : ((s[k + 1].toNat : Int) == 120) = true := eq_u8 n4
           have HE := Lib.hid hes; have HNO := Lib.hid hno; have HOK := Lib.hid hok
           clear hno hok hes n1 n2 n3 n4
           go_wp2
           go_loop [6, 9, 10] (fun i n j => YRel s (k + 2) i n j) (fun _ _ j => 2 - (intOf j).toNat)
           case atStart => exact .inl ⟨by congr 1, rfl, rfl⟩
           case round =>
            rcases hrel with ⟨rfl, rfl, rfl⟩ | ⟨p, h1, hv, rfl, rfl, rfl⟩ | ⟨p, q, h2, hv, hv2, rfl, rfl, rfl⟩
            ·by_cases h1 : k + 2 < s.size
             ·have h1' : ¬ (s.size : Int) ≤ (k : Int) + 2 := by omega
              rcases hv : hexV s[k + 2] with _ | p
              ·have hix := fun W => digit_any s[k + 2] W
               rw [idx_none hv] at hix
               have he := HE.out
               rw [ex_1 h1 hv] at he
               have HF := Lib.hid (HNO.out (by rw [he]; decide))
               rw [he] at HF
               have HI := Lib.hid hix
               clear hv hix he
               go_wp2_with (go_at_call 74; refine (HI.out _).mono ?_; rintro e w' ⟨rfl, rfl⟩)
               go_ret3
               exact unq_post HF.out rfl rfl hw
              ·have hix := fun W => digit_any s[k + 2] W
               rw [idx_some hv] at hix
               have hp := hexV_lt hv
               have HI := Lib.hid hix; have HV := Lib.hid hv
               clear hv hix
               go_wp2_with (go_at_call 74; refine (HI.out _).mono ?_; rintro e w' ⟨rfl, rfl⟩)
               go_round
               case rel => exact .inr (.inl ⟨p, h1, HV.out, by congr 1, by congr 1, rfl⟩)
               case measure => simp [intOf]
             ·have h1' : (s.size : Int) ≤ (k : Int) + 2 := by omega
              have he := HE.out
              rw [ex_0 h1] at he
              have HF := Lib.hid (HNO.out (by rw [he]; decide))
              rw [he] at HF
              clear he
              go_wp2
              go_ret3
              exact unq_post HF.out rfl rfl hw
            ·have hp := hexV_lt hv
             by_cases h2 : k + 3 < s.size
             ·have h2' : ¬ (s.size : Int) ≤ (k : Int) + 2 + 1 := by omega
              have h2'' : ¬ (s.size : Int) ≤ (k : Int) + 3 := by omega
              rcases hv2 : hexV s[k + 3] with _ | q
              ·have hix := fun W => digit_any s[k + 3] W
               rw [idx_none hv2] at hix
               have he := HE.out
               rw [ex_3 h1 hv h2 hv2] at he
               have HF := Lib.hid (HNO.out (by rw [he]; decide))
               rw [he] at HF
               have HI := Lib.hid hix
               clear hv hv2 hix he
               go_wp2_with (go_at_call 74; refine (HI.out _).mono ?_; rintro e w' ⟨rfl, rfl⟩)
               go_ret3
               exact unq_post HF.out rfl rfl hw
              ·have hix := fun W => digit_any s[k + 3] W
               rw [idx_some hv2] at hix
               have hq := hexV_lt hv2
               have HI := Lib.hid hix; have HV := Lib.hid hv; have HV2 := Lib.hid hv2
               clear hv hv2 hix
               go_wp2_with (go_at_call 74; refine (HI.out _).mono ?_; rintro e w' ⟨rfl, rfl⟩)
               go_round
               case rel => exact .inr (.inr ⟨p, q, h2, HV.out, HV2.out, by congr 1, by congr 1, rfl⟩)
               case measure => simp [intOf]
             ·have h2' : (s.size : Int) ≤ (k : Int) + 2 + 1 := by omega
              have h2'' : (s.size : Int) ≤ (k : Int) + 3 := by omega
              have he := HE.out
              rw [ex_2 h1 hv h2] at he
              have HF := Lib.hid (HNO.out (by rw [he]; decide))
              rw [he] at HF
              clear he hv
              go_wp2
              go_ret3
              exact unq_post HF.out rfl rfl hw
            ·have hp := hexV_lt hv
             have hq := hexV_lt hv2
             have he := HE.out
             rw [ex_4 (by omega) hv h2 hv2] at he
             obtain ⟨g, hg⟩ := HOK.out (by rw [he])
             rw [he] at hg
             have HG := Lib.hid hg
             have hwr : ((UInt8.ofNat (16 * p + q)).toNat : Int) = ((16 * p + q : Nat) : Int) := by rw [UInt8.toNat_ofNat']; omega
             have HR := Lib.hid hwr
             have hlt2 : 16 * p + q < 256 := by omega
             generalize 16 * p + q = t at *
             clear hv hv2 hwr he hg
             go_wp2_with (at_builtin; go_must (refine app_u8 rfl _ _ rfl rfl hown hw hw.size rfl rfl (by intro u hu; simp at hu; subst hu; rfl) (by omega) ?_); intro v' w' hown' hw' _)
             exact ⟨⟨k + 1 + 3, g, acc ++ [UInt8.ofNat t], by congr 1, HG.out, by rw [List.map_append, List.map_cons, u8v, HR.out, List.length_append]; exact hown', hw'⟩, by simp [intOf]; omega⟩
          ·rw [if_neg n4] at hes
           have HF := Lib.hid (hno (by rw [hes]; decide))
           rw [hes] at HF
           have u4x : ((s[k + 1].toNat : Int) == 120) = false := nq_u8 n4
           clear hno hok hes n1 n2 n3 n4
           go_wp2
           go_ret3
           exact unq_post HF.out rfl rfl hw
      ·have hk1' : (s.size : Int) ≤ (k : Int) + 1 := by omega
       have hes : escF (s.data.toList.drop (k + 1)) = (0, 0, 11) := by rw [drop_end s (k + 1) hk1]; rfl
       have HF := Lib.hid (hno (by rw [hes]; decide))
       rw [hes] at HF
       clear hno hok hes
       go_wp2
       go_ret3
       exact unq_post HF.out rfl rfl hw
     ·have t3 : ((s[k].toNat : Int) != 92) = true := ne_u8 h92
      rcases hp : plainB s[k] with _ | _
      ·have HF := Lib.hid (HA.out.bad hc h10 h34 h92 hp)
       have hr : (s[k].toNat : Int) < 32 ∨ 126 < (s[k].toNat : Int) := by
        unfold plainB at hp
        rw [t2, t3] at hp
        simp only [Bool.and_true, Bool.and_eq_false_iff, decide_eq_false_iff_not] at hp
        omega
       clear hc h10 h34 h92 hp
       rcases hr with hr | hr
       ·go_wp2
        go_ret3
        exact unq_post HF.out rfl rfl hw
       ·have hr2 : 32 ≤ (s[k].toNat : Int) := by omega
        go_wp2
        go_ret3
        exact unq_post HF.out rfl rfl hw
      ·obtain ⟨g, hg⟩ := HA.out.next hc h10 hp
       have HG := Lib.hid hg
       have hr : 32 ≤ (s[k].toNat : Int) ∧ (s[k].toNat : Int) ≤ 126 := by
        unfold plainB at hp
        simp only [Bool.and_eq_true, decide_eq_true_eq] at hp
        exact ⟨hp.1.1.1, hp.1.1.2⟩
       obtain ⟨r1, r2⟩ := hr
       clear hc h10 h34 h92 hg hp
       go_wp2_with (at_builtin; go_must (refine app_u8 rfl _ _ rfl rfl hown hw hw.size rfl rfl (by intro u hu; simp at hu; subst hu; rfl) (by omega) ?_); intro v' w' hown' hw' _)
       exact ⟨⟨k + 1, g, acc ++ [s[k]], by congr 1, HG.out, by simpa [u8v] using hown', hw'⟩, by simp [intOf]; omega⟩
  ·have hge : (s.size : Int) ≤ k := by omega
   have HF := Lib.hid (unq_end ha (by rw [size_data]; exact hlt))
   clear ha
   go_wp2
   go_ret3
   exact unq_post HF.out rfl rfl hw
set_option maxHeartbeats 400000 in
theorem runquote_out (s : ByteArray) (w : World) (hs : s.size ≤ 1000) (h : ∀ h0 : 0 < s.size, s[0] ≠ 34) : Calls Try.prog 62 #[.string s] w (UnqPost s.data.toList w) := by
 by_cases h0 : 0 < s.size
 ·have he : ((s.size : Int) == 0) = false := by rw [beq_eq_false_iff_ne]; omega
  have ht : ((s[0].toNat : Int) != 34) = true := ne_u8 (h h0)
  have HF : Hid (unqF s.data.toList = ([], 0, 14)) := by
   show unqF s.data.toList = _
   rw [data_cons s h0, unqF, if_neg (h h0)]
  clear h
  go_enter Try.func62, Try.ntmps62
  go_wp2_with fail
  go_ret3
  exact unq_post HF.out rfl rfl (Below.refl _ _)
 ·have he : ((s.size : Int) == 0) = true := by rw [beq_iff_eq]; omega
  have HF : Hid (unqF s.data.toList = ([], 0, 14)) := by
   show unqF s.data.toList = _
   have e : s.data.toList = [] := List.eq_nil_of_length_eq_zero (by rw [size_data]; omega)
   rw [e]; rfl
  clear h h0
  go_enter Try.func62, Try.ntmps62
  go_wp2_with fail
  go_ret3
  exact unq_post HF.out rfl rfl (Below.refl _ _)
theorem runquote_any (s : ByteArray) (w : World) (hs : s.size ≤ 1000) : Calls Try.prog 62 #[.string s] w (UnqPost s.data.toList w) := by
 by_cases h : ∃ h0 : 0 < s.size, s[0] = 34
 ·obtain ⟨h0, h1⟩ := h
  exact runquote_in s w hs h0 h1
 ·exact runquote_out s w hs (fun h0 h1 => h ⟨h0, h1⟩)
end Go.Proofs.Ytgjchgmlogbmmaa.S
/- Turned from another seat: rtokens_any toks_row TokRow.below TokRow.at_ Toks.places Toks.len Toks.at_le of_tokensF tokensF_of tokensF_bad Toks.ne shortQ u8_eq u8_ne own_form own_cell own_below own_more own_more_alloc own_of_block own_setCell own_drew own_made own_whole_ne own_ne_type list_app step_app elemTy But.trans But.refl But.of_below But.mono But.below But.alloc But.drew But.set But.setCell But.whole whole_ne Whole.below Whole.far Whole.put Whole.free Whole.cell Whole.lt Whole.made Whole.alloc Appended.stays Appended.far Appended.own Appended.grows Appended.below Appended.other cell_far below_drewN ba_list ba_ext ba_eq get_list size_list. -/
namespace Go.Proofs.Ytgjchgmlogbmmaa
open Go.RowKit
open Go.Proofs.Ytgjchgmlogbmmaa.S (unqF)
set_option linter.unusedVariables false

/-- Block g holds just these cells, none of them frozen. -/
def Whole (w : World) (g : Nat) (t : TypeId) (cs : Array Value) : Prop := w.heap[g]? = some (.cells cs t (0, 0))
theorem Whole.lt {w : World} {g : Nat} {t : TypeId} {cs : Array Value} (h : Whole w g t cs) : g < w.heap.size := by
 unfold Whole at h
 rcases Nat.lt_or_ge g w.heap.size with hl | hl
 ·exact hl
 ·rw [Array.getElem?_eq_none hl] at h; cases h
theorem Whole.cell {w : World} {g : Nat} {t : TypeId} {cs : Array Value} (h : Whole w g t cs) (i : Nat) : w.cell? ⟨g, i, none⟩ = cs[i]? :=
 cell_of_row w g i cs t (0, 0) h
theorem Whole.free {w : World} {g : Nat} {t : TypeId} {cs : Array Value} (h : Whole w g t cs) (i : Nat) : w.frozen? ⟨g, i, none⟩ = false := by
 unfold Whole at h; simp [World.frozen?, h]
theorem Whole.made (w : World) (t : TypeId) (cs : Array Value) : Whole (w.alloc (.cells cs t)) w.heap.size t cs := heap_alloc_new w _
theorem Whole.put {w : World} {g : Nat} {t : TypeId} {cs : Array Value} (h : Whole w g t cs) (i : Nat) (u : Value) : Whole (w.setCell ⟨g, i, none⟩ u) g t (cs.setIfInBounds i u) := by
 unfold Whole at h ⊢; simp [World.setCell, Array.getElem?_modify, h]
theorem Whole.alloc {w : World} {g : Nat} {t : TypeId} {cs : Array Value} (h : Whole w g t cs) (o : Obj) : Whole (w.alloc o) g t cs := (Below.heap_alloc w o g h.lt).trans h
theorem Whole.far {w : World} {g : Nat} {t : TypeId} {cs : Array Value} (h : Whole w g t cs) {p : Addr} (hp : g ≠ p.block) (u : Value) : Whole (w.setCell p u) g t cs := (Below.heap_setCell w p u g hp).trans h
theorem Whole.below {B : Nat} {w w' : World} {g : Nat} {t : TypeId} {cs : Array Value} (h : Whole w g t cs) (hb : Below B w w') (hg : g < B) : Whole w' g t cs := (hb.block g hg).trans h
theorem below_drewN {B : Nat} {a w : World} (h : Below B a w) (n : Nat) : Below B a (w.drewN n) := ⟨h.os, h.tape, h.output, h.size, h.block⟩
/-- A slice type, its elements' type, how many cells and bytes one has. -/
structure ElemTy (t e : TypeId) (size bytes : Nat) : Prop where
 under : Try.prog.underlying t = some (.slice e)
 info : ∃ i z, Try.prog.info? e = some i ∧ i.zero = some z ∧ i.size = size ∧ i.bytes = bytes ∧ z.cells.size = size
 pos : 0 < size
theorem Whole.news {w : World} {g : Nat} {t : TypeId} {news : List Value} (h : Whole w g t news.toArray) : ∀ j u, news[j]? = some u → w.cell? ((⟨g, 0, none⟩ : Addr).add j) = some u := fun j u hj => by
 have e : (⟨g, 0, none⟩ : Addr).add j = ⟨g, j, none⟩ := by unfold Addr.add; split <;> simp_all
 rw [e, h.cell j]; simpa using hj
/-- What an append leaves: the value owns the row, which is the old one, or new. -/
def Appended (w : World) (base : Nat) (e : TypeId) (size : Nat) (v : Value) (n : Nat) (xs : List Value) (v' : Value) (w' : World) : Prop :=
 w'.ownsRow base e size v' n xs ∧ w.grownBy w' v.ownBlock ∧ (∀ k, v'.ownBlock = some k → v.ownBlock = some k ∨ k = w.heap.size)
theorem list_app {t e : TypeId} {size bytes : Nat} (T : ElemTy t e size bytes) {ops : Array Oper} {rest : List Oper} {o : Oper} {a : Act} {Q : Exit → Act → World → Prop} {w : World} {base : Nat} {v : Value} {n : Nat} {xs : List Value} (hgd : o.guard = none) (s x : Operand)
  (ho : o.op = .call { callee := .builtin .append, args := #[s, x], argTypes := #[t, t] }) (hs : a.eval s = v) (hown : w.ownsRow base e size v n xs) (g m : Nat) (news : List Value) (hx : a.eval x = .slice (some ⟨g, 0, none⟩) m m)
  (hnew : Whole w g e news.toArray) (hl : news.length = m * size) (h1 : ∀ u ∈ news, u.oneCell' = true) (hm : 0 < m) (hn : n + m ≤ 1000000000) (hb : bytes ≤ 1000) (hbase : base ≤ w.heap.size)
  (h : ∀ g' cap w', Appended w base e size v (n + m) (xs ++ news) (.slice (some ⟨g', 0, none⟩) (n + m) cap) w' → wpList Try.prog ops Q rest (a.put o.dst (.slice (some ⟨g', 0, none⟩) (n + m) cap)) w') : wpList Try.prog ops Q (o :: rest) a w := by
 obtain ⟨i, z, hi, hz, hsz, hby, hzs⟩ := T.info
 refine wpList_append_lies w hgd s x t ho base e i z size bytes T.under hi hz hsz hby hzs T.pos v n xs hs hown ⟨g, 0, none⟩ m m news hx hl hnew.news h1 hm (by unfold maxLen; omega) ?_ hbase _ rfl ?_
 ·have := Nat.mul_le_mul hn hb; omega
 ·intro g' cap w' ho' hg' hat _
  exact h _ _ w' ⟨ho', hg', fun k hk => by
   have : g' = k := by simpa [Value.ownBlock] using hk
   subst this; exact hat⟩
theorem step_app {t e : TypeId} {size bytes : Nat} (T : ElemTy t e size bytes) {ops : Array Oper} {o : Oper} {a : Act} {K : Act → World → Prop} {Q : Exit → Act → World → Prop} {E : Prop} {w : World} {base : Nat} {v : Value} {n : Nat} {xs : List Value} (hgd : o.guard = none) (s x : Operand)
  (ho : o.op = .call { callee := .builtin .append, args := #[s, x], argTypes := #[t, t] }) (hs : a.eval s = v) (hown : w.ownsRow base e size v n xs) (g m : Nat) (news : List Value) (hx : a.eval x = .slice (some ⟨g, 0, none⟩) m m)
  (hnew : Whole w g e news.toArray) (hl : news.length = m * size) (h1 : ∀ u ∈ news, u.oneCell' = true) (hm : 0 < m) (hn : n + m ≤ 1000000000) (hb : bytes ≤ 1000) (hbase : base ≤ w.heap.size)
  (h : ∀ g' cap w', Appended w base e size v (n + m) (xs ++ news) (.slice (some ⟨g', 0, none⟩) (n + m) cap) w' → K (a.put o.dst (.slice (some ⟨g', 0, none⟩) (n + m) cap)) w') :
  if Region.wanted o (yielded ops a.tmps) = true then Oper.wp Try.prog o a w K Q else E := by
 obtain ⟨i, z, hi, hz, hsz, hby, hzs⟩ := T.info
 refine step_append_lies w hgd s x t ho base e i z size bytes T.under hi hz hsz hby hzs T.pos v n xs hs hown ⟨g, 0, none⟩ m m news hx hl hnew.news h1 hm (by unfold maxLen; omega) ?_ hbase _ rfl ?_
 ·have := Nat.mul_le_mul hn hb; omega
 ·intro g' cap w' ho' hg' hat _
  exact h _ _ w' ⟨ho', hg', fun k hk => by
   have : g' = k := by simpa [Value.ownBlock] using hk
   subst this; exact hat⟩
section
variable {w w' : World} {base n size : Nat} {e : TypeId} {v v' : Value} {xs : List Value}
theorem heap_lt {g : Nat} {o : Obj} (h : w.heap[g]? = some o) : g < w.heap.size := by
 rcases Nat.lt_or_ge g w.heap.size with h2 | h2
 ·exact h2
 ·rw [Array.getElem?_eq_none h2] at h; cases h
/-- A block that is not of the row's elements is as it was. -/
theorem Appended.stays (h : Appended w base e size v n xs v' w') {n0 : Nat} {xs0 : List Value} (ho : w.ownsRow base e size v n0 xs0) {g : Nat} {t : TypeId} {cs : Array Value} (hw : Whole w g t cs) (ht : t ≠ e) : Whole w' g t cs := by
 refine (h.2.1.block g hw.lt ?_).trans hw
 intro hh
 rcases ho.2 with ⟨rfl, _⟩ | ⟨g2, cap, cur, rfl, _, hh2, _⟩
 ·cases hh
 ·have : g = g2 := by simpa [Value.ownBlock] using hh
  subst this
  unfold Whole at hw; rw [hw] at hh2
  simp only [Option.some.injEq, Obj.cells.injEq] at hh2
  exact ht hh2.2.1
/-- A block that is no row of this value is as it was. -/
theorem Appended.far (h : Appended w base e size v n xs v' w') {g : Nat} {t : TypeId} {cs : Array Value} (hw : Whole w g t cs) (hne : v.ownBlock ≠ some g) : Whole w' g t cs :=
 (h.2.1.block g hw.lt (Ne.symm hne)).trans hw
theorem Appended.own (h : Appended w base e size v n xs v' w') : w'.ownsRow base e size v' n xs := h.1
theorem Appended.grows (h : Appended w base e size v n xs v' w') : w.heap.size ≤ w'.heap.size := h.2.1.size
theorem Appended.below (h : Appended w base e size v n xs v' w') {n0 : Nat} {xs0 : List Value} (ho : w.ownsRow base e size v n0 xs0) {B : Nat} {a : World} (hB : Below B a w) (hb : B ≤ base) (hs : base ≤ w.heap.size) : Below B a w' :=
 hB.grown h.2.1 (by omega) (fun k hk => by have := (ho.lt k hk).1; omega)
/-- A row owned by another value is as it was. -/
theorem Appended.other (h : Appended w base e size v n xs v' w') {b2 n2 s2 : Nat} {e2 : TypeId} {u : Value} {ys : List Value} (hu : w.ownsRow b2 e2 s2 u n2 ys) (hne : ∀ g, u.ownBlock = some g → v.ownBlock ≠ some g) : w'.ownsRow b2 e2 s2 u n2 ys := by
 refine hu.kept h.2.1 ?_
 rcases hq : u.ownBlock with _ | g
 ·exact .inl rfl
 ·exact .inr (fun hh => hne g hq hh.symm)
theorem own_ne_type {b2 n2 s2 : Nat} {e2 : TypeId} {u : Value} {ys : List Value} (ho : w.ownsRow base e size v n xs) (hu : w.ownsRow b2 e2 s2 u n2 ys) (ht : e2 ≠ e) : ∀ g, u.ownBlock = some g → v.ownBlock ≠ some g := fun g hg hv => by
 rcases ho.2 with ⟨rfl, _⟩ | ⟨g1, c1, cur1, rfl, _, h1, _⟩
 ·cases hv
 rcases hu.2 with ⟨rfl, _⟩ | ⟨g2, c2, cur2, rfl, _, h2, _⟩
 ·cases hg
 have e1 : g1 = g := by simpa [Value.ownBlock] using hv
 have e2 : g2 = g := by simpa [Value.ownBlock] using hg
 subst e1; subst e2
 rw [h1] at h2
 simp only [Option.some.injEq, Obj.cells.injEq] at h2
 exact ht h2.2.1.symm
theorem own_whole_ne {g : Nat} {t : TypeId} {cs : Array Value} (ho : w.ownsRow base e size v n xs) (hw : Whole w g t cs) (ht : t ≠ e) : v.ownBlock ≠ some g := fun hv => by
 rcases ho.2 with ⟨rfl, _⟩ | ⟨g1, c1, cur1, rfl, _, h1, _⟩
 ·cases hv
 have e1 : g1 = g := by simpa [Value.ownBlock] using hv
 subst e1
 unfold Whole at hw; rw [hw] at h1
 simp only [Option.some.injEq, Obj.cells.injEq] at h1
 exact ht h1.2.1
/-- A row is as it was where its block is. -/
theorem own_of_block (ho : w.ownsRow base e size v n xs) (h : ∀ g, v.ownBlock = some g → w'.heap[g]? = w.heap[g]?) : w'.ownsRow base e size v n xs := by
 refine ⟨ho.1, ?_⟩
 rcases ho.2 with h1 | ⟨g, c, cur, rfl, hb, hh, hr⟩
 ·exact .inl h1
 ·exact .inr ⟨g, c, cur, rfl, hb, (h g rfl).trans hh, hr⟩
theorem own_setCell (ho : w.ownsRow base e size v n xs) {p : Addr} (hp : v.ownBlock ≠ some p.block) (u : Value) : (w.setCell p u).ownsRow base e size v n xs :=
 own_of_block ho fun g hg => Below.heap_setCell w p u g (fun hh => hp (hh ▸ hg))
theorem own_below (ho : w.ownsRow base e size v n xs) {B : Nat} (hb : Below B w w') (hB : w.heap.size ≤ B) : w'.ownsRow base e size v n xs :=
 own_of_block ho fun g hg => hb.block g (Nat.lt_of_lt_of_le (ho.lt g hg).2 hB)
theorem own_drew (ho : w.ownsRow base e size v n xs) : w.drew.ownsRow base e size v n xs := ho
theorem own_more {b2 : Nat} (ho : w.ownsRow base e size v n xs) (h : b2 ≤ base) : w.ownsRow b2 e size v n xs := by
 refine ⟨ho.1, ?_⟩
 rcases ho.2 with h1 | ⟨g, c, cur, rfl, hb, hr⟩
 ·exact .inl h1
 ·exact .inr ⟨g, c, cur, rfl, by omega, hr⟩
/-- The cells of a row that is owned. -/
theorem own_cell (ho : w.ownsRow base e size v n xs) {k : Nat} (hk : k < n * size) : ∃ g c, v = .slice (some ⟨g, 0, none⟩) n c ∧ base ≤ g ∧ g < w.heap.size ∧ w.cell? ⟨g, k, none⟩ = xs[k]? ∧ w.frozen? ⟨g, k, none⟩ = false := by
 rcases ho.2 with ⟨rfl, rfl⟩ | ⟨g, c, cur, rfl, hb, hh, hn, hc, hs, ht⟩
 ·omega
 ·refine ⟨g, c, rfl, hb, heap_lt hh, ?_, by simp [World.frozen?, hh]⟩
  rw [cell_of_row w g k cur e (0, 0) hh, ← ht, List.getElem?_take, if_pos hk, Array.getElem?_toList]
theorem own_form (ho : w.ownsRow base e size v n xs) : ∃ A c, v = .slice A n c ∧ (∀ a, A = some a → ∃ g, a = ⟨g, 0, none⟩ ∧ base ≤ g ∧ g < w.heap.size) ∧ c ≤ maxLen ∧ n ≤ c := by
 rcases ho.2 with ⟨rfl, rfl⟩ | ⟨g, c, cur, rfl, hb, hh, hn, hc, _⟩
 ·exact ⟨none, 0, rfl, (fun a ha => by cases ha), by unfold maxLen; omega, by omega⟩
 ·exact ⟨_, c, rfl, fun a ha => by cases ha; exact ⟨g, rfl, hb, heap_lt hh⟩, hc, hn⟩
end
theorem cell_far {w : World} {p q : Addr} {u v : Value} (h : w.cell? q = some v) (hne : q.block ≠ p.block) : (w.setCell p u).cell? q = some v := by
 rw [← h]; exact World.cell?_of_block (Below.heap_setCell w p u q.block hne)
theorem Below.whole {B : Nat} {w w' : World} (h : Below B w w') {g : Nat} {t : TypeId} {cs : Array Value} (hw : Whole w g t cs) (hg : g < B) : Whole w' g t cs := hw.below h hg
/-- A block of the call's own at G, whole; what lies below it is as it was. -/
def BoxAt (w2 : World) (G : Nat) (t : TypeId) (cs : Array Value) (wr : World) : Prop := Below G w2 wr ∧ Whole wr G t cs ∧ G + 1 ≤ wr.heap.size
section
variable {w2 wr w' : World} {G : Nat} {t e : TypeId} {cs : Array Value} {size n n0 : Nat} {v v' : Value} {xs xs0 : List Value}
theorem BoxAt.cell (h : BoxAt w2 G t cs wr) (i : Nat) : wr.cell? ⟨G, i, none⟩ = cs[i]? := h.2.1.cell i
theorem BoxAt.free (h : BoxAt w2 G t cs wr) (i : Nat) : wr.frozen? ⟨G, i, none⟩ = false := h.2.1.free i
theorem BoxAt.alloc (h : BoxAt w2 G t cs wr) (o : Obj) : BoxAt w2 G t cs (wr.alloc o) := ⟨h.1.alloc (by have := h.2.2; omega) _, h.2.1.alloc _, by have := h.2.2; simp; omega⟩
theorem BoxAt.drew (h : BoxAt w2 G t cs wr) : BoxAt w2 G t cs wr.drew := ⟨h.1.drew, h.2.1, h.2.2⟩
theorem BoxAt.made (w : World) (t : TypeId) (cs : Array Value) : BoxAt w w.heap.size t cs (w.alloc (.cells cs t)) := ⟨(Below.refl _ _).alloc (Nat.le_refl _) _, Whole.made _ _ _, by simp⟩
theorem BoxAt.put (h : BoxAt w2 G t cs wr) (i : Nat) (u : Value) : BoxAt w2 G t (cs.setIfInBounds i u) (wr.setCell ⟨G, i, none⟩ u) :=
 ⟨h.1.setCell (Nat.le_refl _) _, h.2.1.put i u, by have := h.2.2; simp [World.setCell]; omega⟩
theorem BoxAt.below (h : BoxAt w2 G t cs wr) {B : Nat} (hb : Below B wr w') (hB : G < B) : BoxAt w2 G t cs w' := ⟨h.1.trans (hb.mono (by omega)), h.2.1.below hb hB, Nat.le_trans h.2.2 hb.size⟩
end
attribute [local go_sem ↓] Go.wp_at_zero Go.wp_at_succ
theorem elemTy {t e : TypeId} {i : Option TypeInfo} {z : Value} {size bytes : Nat} (hu : Try.prog.underlying t = some (.slice e)) (hi : (Try.prog.info? e).map (fun i => (i.zero, i.size, i.bytes)) = some (some z, size, bytes)) (hz : z.cells.size = size) (hp : 0 < size) : ElemTy t e size bytes := by
 obtain ⟨i0, h1, h2, h3, h4⟩ := info_parts hi
 exact ⟨hu, ⟨i0, z, h1, h2, h3, h4, hz⟩, hp⟩
/-- All as it was below B, but block H. -/
structure But (H B : Nat) (w w' : World) : Prop where
 os : w'.os = w.os
 tape : w'.tape = w.tape
 output : w'.output = w.output
 size : w.heap.size ≤ w'.heap.size
 block : ∀ g, g < B → g ≠ H → w'.heap[g]? = w.heap[g]?
section
variable {H B : Nat} {w w' w'' : World}
theorem But.refl (H B : Nat) (w : World) : But H B w w := ⟨rfl, rfl, rfl, Nat.le_refl _, fun _ _ _ => rfl⟩
theorem But.trans (h : But H B w w') (k : But H B w' w'') : But H B w w'' :=
 ⟨k.os.trans h.os, k.tape.trans h.tape, k.output.trans h.output, Nat.le_trans h.size k.size, fun i hi hh => (k.block i hi hh).trans (h.block i hi hh)⟩
theorem But.of_below (h : Below B w w') : But H B w w' := ⟨h.os, h.tape, h.output, h.size, fun g hg _ => h.block g hg⟩
theorem But.mono (h : But H B w w') {b : Nat} (hb : b ≤ B) : But H b w w' := ⟨h.os, h.tape, h.output, h.size, fun g hg => h.block g (by omega)⟩
theorem But.below (h : But H B w w') {b : Nat} (hb : b ≤ B) (hH : b ≤ H) : Below b w w' := ⟨h.os, h.tape, h.output, h.size, fun g hg => h.block g (by omega) (by omega)⟩
theorem But.alloc (h : But H B w w') (hB : B ≤ w'.heap.size) (o : Obj) : But H B w (w'.alloc o) := h.trans (.of_below ((Below.refl _ _).alloc hB o))
theorem But.drew (h : But H B w w') : But H B w w'.drew := h.trans (.of_below (Below.refl _ _).drew)
theorem But.set (h : But H B w w') (o : Nat) (u : Value) : But H B w (w'.setCell ⟨H, o, none⟩ u) :=
 h.trans ⟨rfl, rfl, rfl, by simp [World.setCell], fun g hg hh => Below.heap_setCell _ _ _ _ (by simpa using hh)⟩
theorem But.setCell (h : But H B w w') {p : Addr} (hp : B ≤ p.block) (u : Value) : But H B w (w'.setCell p u) :=
 h.trans (.of_below ((Below.refl _ _).setCell hp u))
theorem But.whole (h : But H B w w') {g : Nat} {t : TypeId} {cs : Array Value} (hw : Whole w g t cs) (hg : g < B) (hn : g ≠ H) : Whole w' g t cs := (h.block g hg hn).trans hw
theorem whole_ne {g k : Nat} {t e : TypeId} {cs ds : Array Value} (h : Whole w g t cs) (hk : Whole w k e ds) (ht : t ≠ e) : g ≠ k := fun hh => by
 subst hh; unfold Whole at h hk; rw [h] at hk
 simp only [Option.some.injEq, Obj.cells.injEq] at hk
 exact ht hk.2.1
theorem own_made {w : World} {base e size n : Nat} {cs : List Value} (hl : cs.length = n * size) (hb : base ≤ w.heap.size) (hn : n ≤ maxLen) : (w.alloc (.cells cs.toArray e)).ownsRow base e size (.slice (some ⟨w.heap.size, 0, none⟩) n n) n cs :=
 ⟨hl, .inr ⟨w.heap.size, n, cs.toArray, rfl, hb, Whole.made w e cs.toArray, Nat.le_refl _, hn, by simp [hl], by simp [← hl]⟩⟩
theorem own_more_alloc {w : World} {base e size n : Nat} {v : Value} {xs : List Value} (h : w.ownsRow base e size v n xs) (o : Obj) : (w.alloc o).ownsRow base e size v n xs := own_below h ((Below.refl _ _).alloc (Nat.le_refl _) o) (Nat.le_refl _)
def digB (c : UInt8) : Bool := decide (48 ≤ c.toNat) && decide (c.toNat ≤ 57)
def smaB (c : UInt8) : Bool := decide (97 ≤ c.toNat) && decide (c.toNat ≤ 122)
def larB (c : UInt8) : Bool := decide (65 ≤ c.toNat) && decide (c.toNat ≤ 90)
def innB (c : UInt8) : Bool := smaB c || larB c || digB c || c == 95
/-- `=<+-*/%^;|(),_` -/
def signL : List UInt8 := [61, 60, 43, 45, 42, 47, 37, 94, 59, 124, 40, 41, 44, 95]
/-- The number of digits. -/
def valT (l : List UInt8) : Nat := l.foldl (fun v c => 10 * v + (c.toNat - 48)) 0
def keyL : List (List UInt8) := [[108, 101, 116], [114, 101, 99], [105, 110], [102, 117, 110], [105, 102], [116, 104, 101, 110], [101, 108, 115, 101], [109, 97, 116, 99, 104], [119, 105, 116, 104], [101, 110, 100], [116, 114, 121], [112, 114, 105, 110, 116], [114, 97, 105, 115, 101], [115, 112, 97, 119, 110], [97, 116, 111, 109, 105, 99, 97, 108, 108, 121], [114, 101, 116, 114, 121], [111, 114, 101, 108, 115, 101], [116, 118, 97, 114], [114, 101, 97, 100], [119, 114, 105, 116, 101], [116, 121, 112, 101], [111, 102], [100, 111]]
def keyB (l : List UInt8) : Bool := keyL.contains l
/-- A token: kind, text, number, place. -/
structure Tok where
 kind : Int
 text : List UInt8
 num : Int
 at_ : Nat
deriving DecidableEq
/-- What a token comes to: kind, text, number, how many bytes; an error (0: none). -/
structure TokR where
 kind : Int
 text : List UInt8
 num : Int
 n : Nat
 e : Int
def tokF (l : List UInt8) : TokR := match l with
 | [] => ⟨0, [], 0, 0, 0⟩
 | c :: r =>
  if digB c = true then
   (if 4611686018427387903 < valT (l.takeWhile digB) then ⟨0, [], 0, 0, 13⟩ else ⟨1, [], valT (l.takeWhile digB), (l.takeWhile digB).length, 0⟩)
  else if c = 34 then ⟨2, (unqF l).1, 0, (unqF l).2.1, (unqF l).2.2⟩
  else if (smaB c || larB c) = true then
   (if 16 < (l.takeWhile innB).length then ⟨0, [], 0, 0, 12⟩
    else ⟨if larB c = true then 4 else if keyB (l.takeWhile innB) = true then 6 else 3, l.takeWhile innB, 0, (l.takeWhile innB).length, 0⟩)
  else if c = 45 ∧ r.head? = some 62 then ⟨5, [45, 62], 0, 2, 0⟩
  else if signL.contains c = true then ⟨5, [c], 0, 1, 0⟩
  else ⟨0, [], 0, 0, 10⟩
/-- What stands between tokens: how many bytes. -/
def gapF : Nat → List UInt8 → Nat
 | 0, _ => 0
 | f + 1, l => match l with
  | [] => 0
  | c :: r => if c = 32 ∨ c = 9 ∨ c = 10 then 1 + gapF f r else if c = 35 then (l.takeWhile (· ≠ 10)).length + gapF f (l.drop (l.takeWhile (· ≠ 10)).length) else 0
attribute [local go_sem ↓] Go.wp_at_zero Go.wp_at_succ
theorem rt_b {a b : Bool} (h : a = b) : Ending.returned (.bool a) = .returned (.bool b) := by rw [h]
theorem rdigit_any (c : UInt8) (w : World) : Calls Try.prog 61 #[.int .u8 (c.toNat : Int)] w fun e w' => e = .returned (.bool (digB c)) ∧ w = w' := by
 have HF : Hid (digB c = (decide (48 ≤ c.toNat) && decide (c.toNat ≤ 57))) := rfl
 have hc := c.toNat_lt
 generalize c.toNat = n at *
 by_cases h1 : 48 ≤ n
 ·have d1 : decide (48 ≤ (n : Int)) = true := decide_eq_true (by omega)
  by_cases h2 : n ≤ 57
  ·have d2 : decide ((n : Int) ≤ 57) = true := decide_eq_true (by omega)
   have HG : Hid (digB c = true) := by show _ = _; rw [HF.out, decide_eq_true h1, decide_eq_true h2]; rfl
   rw [HG.out]
   go_enter Try.func61, Try.ntmps61
   go_wp2
   go_ret
   exact ⟨rt_b (by simp [*]), rfl⟩
  ·have d2 : decide ((n : Int) ≤ 57) = false := decide_eq_false (by omega)
   have HG : Hid (digB c = false) := by show _ = _; rw [HF.out, decide_eq_true h1, decide_eq_false h2]; rfl
   rw [HG.out]
   go_enter Try.func61, Try.ntmps61
   go_wp2
   go_ret
   exact ⟨rt_b (by simp [*]), rfl⟩
 ·have d1 : decide (48 ≤ (n : Int)) = false := decide_eq_false (by omega)
  have HG : Hid (digB c = false) := by show _ = _; rw [HF.out, decide_eq_false h1]; rfl
  rw [HG.out]
  go_enter Try.func61, Try.ntmps61
  go_wp2
  go_ret
  exact ⟨rt_b (by simp [*]), rfl⟩
theorem rsmall_any (c : UInt8) (w : World) : Calls Try.prog 63 #[.int .u8 (c.toNat : Int)] w fun e w' => e = .returned (.bool (smaB c)) ∧ w = w' := by
 have HF : Hid (smaB c = (decide (97 ≤ c.toNat) && decide (c.toNat ≤ 122))) := rfl
 have hc := c.toNat_lt
 generalize c.toNat = n at *
 by_cases h1 : 97 ≤ n
 ·have d1 : decide (97 ≤ (n : Int)) = true := decide_eq_true (by omega)
  by_cases h2 : n ≤ 122
  ·have d2 : decide ((n : Int) ≤ 122) = true := decide_eq_true (by omega)
   have HG : Hid (smaB c = true) := by show _ = _; rw [HF.out, decide_eq_true h1, decide_eq_true h2]; rfl
   rw [HG.out]
   go_enter Try.func63, Try.ntmps63
   go_wp2
   go_ret
   exact ⟨rt_b (by simp [*]), rfl⟩
  ·have d2 : decide ((n : Int) ≤ 122) = false := decide_eq_false (by omega)
   have HG : Hid (smaB c = false) := by show _ = _; rw [HF.out, decide_eq_true h1, decide_eq_false h2]; rfl
   rw [HG.out]
   go_enter Try.func63, Try.ntmps63
   go_wp2
   go_ret
   exact ⟨rt_b (by simp [*]), rfl⟩
 ·have d1 : decide (97 ≤ (n : Int)) = false := decide_eq_false (by omega)
  have HG : Hid (smaB c = false) := by show _ = _; rw [HF.out, decide_eq_false h1]; rfl
  rw [HG.out]
  go_enter Try.func63, Try.ntmps63
  go_wp2
  go_ret
  exact ⟨rt_b (by simp [*]), rfl⟩
theorem rlarge_any (c : UInt8) (w : World) : Calls Try.prog 64 #[.int .u8 (c.toNat : Int)] w fun e w' => e = .returned (.bool (larB c)) ∧ w = w' := by
 have HF : Hid (larB c = (decide (65 ≤ c.toNat) && decide (c.toNat ≤ 90))) := rfl
 have hc := c.toNat_lt
 generalize c.toNat = n at *
 by_cases h1 : 65 ≤ n
 ·have d1 : decide (65 ≤ (n : Int)) = true := decide_eq_true (by omega)
  by_cases h2 : n ≤ 90
  ·have d2 : decide ((n : Int) ≤ 90) = true := decide_eq_true (by omega)
   have HG : Hid (larB c = true) := by show _ = _; rw [HF.out, decide_eq_true h1, decide_eq_true h2]; rfl
   rw [HG.out]
   go_enter Try.func64, Try.ntmps64
   go_wp2
   go_ret
   exact ⟨rt_b (by simp [*]), rfl⟩
  ·have d2 : decide ((n : Int) ≤ 90) = false := decide_eq_false (by omega)
   have HG : Hid (larB c = false) := by show _ = _; rw [HF.out, decide_eq_true h1, decide_eq_false h2]; rfl
   rw [HG.out]
   go_enter Try.func64, Try.ntmps64
   go_wp2
   go_ret
   exact ⟨rt_b (by simp [*]), rfl⟩
 ·have d1 : decide (65 ≤ (n : Int)) = false := decide_eq_false (by omega)
  have HG : Hid (larB c = false) := by show _ = _; rw [HF.out, decide_eq_false h1]; rfl
  rw [HG.out]
  go_enter Try.func64, Try.ntmps64
  go_wp2
  go_ret
  exact ⟨rt_b (by simp [*]), rfl⟩
attribute [local go_sem ↓] Go.wp_at_zero Go.wp_at_succ
/-- How many bytes of a kind stand at i. -/
def runN (P : UInt8 → Bool) (s : ByteArray) (i : Nat) : Nat := ((s.data.toList.drop i).takeWhile P).length
theorem size_list (s : ByteArray) : s.data.toList.length = s.size := by simp
theorem get_list (s : ByteArray) (k : Nat) (h : k < s.size) : s.data.toList[k]? = some s[k] := by
 rw [Array.getElem?_toList, Array.getElem?_eq_getElem (by simpa using h)]; rfl
theorem tw_len {P : UInt8 → Bool} : ∀ {l : List UInt8} {n : Nat}, n ≤ l.length → (∀ j (c : UInt8), j < n → l[j]? = some c → P c = true) → (n = l.length ∨ ∃ c, l[n]? = some c ∧ P c = false) → (l.takeWhile P).length = n
 | [], n, h, _, _ => by simp at h; subst h; rfl
 | x :: l, 0, _, _, h => by
  rcases h with h | ⟨c, h1, h2⟩
  ·simp at h
  ·simp at h1; subst h1; rw [List.takeWhile_cons, h2]; rfl
 | x :: l, n + 1, h, hp, he => by
  have hx := hp 0 x (by omega) rfl
  rw [List.takeWhile_cons, hx]
  simp only [if_true, List.length_cons]
  rw [tw_len (n := n) (by simpa using h) (fun j c hj hc => hp (j + 1) c (by omega) (by simpa using hc)) (by simpa using he)]
theorem run_len {P : UInt8 → Bool} {s : ByteArray} {i k : Nat} (h1 : i ≤ k) (h2 : k ≤ s.size) (hp : ∀ j, i ≤ j → j < k → ∀ h : j < s.size, P s[j] = true) (he : ∀ h : k < s.size, P s[k] = false) : k = i + runN P s i := by
 have hl := size_list s
 have := tw_len (P := P) (l := s.data.toList.drop i) (n := k - i) (by rw [List.length_drop]; omega) (fun j c hj hc => by
   rw [List.getElem?_drop, get_list s (i + j) (by omega)] at hc
   cases hc; exact hp _ (by omega) (by omega) _) (by
   rcases Nat.lt_or_ge k s.size with h | h
   ·right
    refine ⟨s[k], ?_, he h⟩
    rw [List.getElem?_drop, show i + (k - i) = k from by omega]; exact get_list s k h
   ·left; rw [List.length_drop]; omega)
 unfold runN; omega
theorem runN_le (P : UInt8 → Bool) (s : ByteArray) (i : Nat) (h : i ≤ s.size) : i + runN P s i ≤ s.size := by
 have := (List.takeWhile_sublist P (l := s.data.toList.drop i)).length_le
 rw [List.length_drop, size_list] at this
 unfold runN; omega
attribute [local go_sem ↓] Go.wp_at_zero Go.wp_at_succ
theorem ba_eq {t : ByteArray} {l : List UInt8} (h : t.data.toList = l) : t = ⟨l.toArray⟩ := by
 cases t; simp at h; subst h; simp
theorem ba_ext {t u : ByteArray} (h : t.data.toList = u.data.toList) : t = u := (ba_eq h).trans (by cases u; simp)
attribute [local go_sem ↓] Go.wp_at_zero Go.wp_at_succ
/-- All as it was but blocks R and T. -/
structure Two (R T B : Nat) (w w' : World) : Prop where
 os : w'.os = w.os
 tape : w'.tape = w.tape
 output : w'.output = w.output
 size : w.heap.size ≤ w'.heap.size
 block : ∀ g, g < B → g ≠ R → g ≠ T → w'.heap[g]? = w.heap[g]?
theorem Two.of_but {R T B : Nat} {w w' : World} (h : But R B w w') : Two R T B w w' := ⟨h.os, h.tape, h.output, h.size, fun g h1 h2 _ => h.block g h1 h2⟩
theorem Two.trans {R T B : Nat} {w w' w'' : World} (h : Two R T B w w') (k : Two R T B w' w'') : Two R T B w w'' :=
 ⟨k.os.trans h.os, k.tape.trans h.tape, k.output.trans h.output, Nat.le_trans h.size k.size, fun g h1 h2 h3 => (k.block g h1 h2 h3).trans (h.block g h1 h2 h3)⟩
theorem Two.below {R T B C : Nat} {w w' : World} (h : Two R T B w w') (hR : C ≤ R) (hT : C ≤ T) (hB : C ≤ B) : Below C w w' := ⟨h.os, h.tape, h.output, h.size, fun g hg => h.block g (by omega) (by omega) (by omega)⟩
theorem mem_tw {P : UInt8 → Bool} {c : UInt8} : ∀ {l : List UInt8}, c ∈ l.takeWhile P → P c = true
 | [], h => by simp at h
 | x :: l, h => by
  rw [List.takeWhile_cons] at h
  split at h
  ·rename_i hx
   rcases List.mem_cons.1 h with rfl | h
   ·exact hx
   ·exact mem_tw h
  ·simp at h
attribute [local go_sem ↓] Go.wp_at_zero Go.wp_at_succ
theorem unq_le : ∀ (f : Nat) (rest acc : List UInt8) (k : Nat), (S.unq f rest acc k).2.1 ≤ k + rest.length ∧ ((S.unq f rest acc k).2.2 = 0 → k < (S.unq f rest acc k).2.1)
 | 0, _, _, _ => ⟨by simp [S.unq], by simp [S.unq]⟩
 | f + 1, [], _, _ => ⟨by simp [S.unq], by simp [S.unq]⟩
 | f + 1, c :: r, acc, k => by
  unfold S.unq
  dsimp only
  split
  ·exact ⟨by simp, by simp⟩
  split
  ·split
   ·exact ⟨by simp, by simp⟩
   ·exact ⟨by simp only [List.length_cons]; omega, fun _ => by simp⟩
  split
  ·split
   ·rename_i hz
    obtain ⟨n1, n2, _⟩ := S.escF_len _ hz
    have h := unq_le f (r.drop (S.escF r).2.1) (acc ++ [(S.escF r).1]) (k + 1 + (S.escF r).2.1)
    rw [List.length_drop] at h
    exact ⟨by have := h.1; simp only [List.length_cons]; omega, fun h0 => by have := h.2 h0; omega⟩
   ·exact ⟨by simp, fun h => by rename_i hz; exact absurd h hz⟩
  split
  ·have h := unq_le f r (acc ++ [c]) (k + 1)
   exact ⟨by have := h.1; simp only [List.length_cons]; omega, fun h0 => by have := h.2 h0; omega⟩
  ·exact ⟨by simp, by simp⟩
theorem unqF_le (l : List UInt8) : (S.unqF l).2.1 ≤ l.length ∧ ((S.unqF l).2.2 = 0 → 1 < (S.unqF l).2.1) := by
 cases l with
 | nil => exact ⟨by simp [S.unqF], by simp [S.unqF]⟩
 | cons c r =>
  unfold S.unqF
  dsimp only
  split
  ·have h := unq_le (r.length + 1) r [] 1
   exact ⟨by have := h.1; simp only [List.length_cons]; omega, h.2⟩
  ·exact ⟨by simp, by simp⟩
attribute [local go_sem ↓] Go.wp_at_zero Go.wp_at_succ
/-- `->` ahead? -/
def arrB (l : List UInt8) : Bool := l.take 2 == [45, 62]
theorem Two.drew {R T B : Nat} {w w' : World} (h : Two R T B w w') : Two R T B w w'.drew := h.trans (.of_but (.of_below (Below.refl _ _).drew))
attribute [local go_sem ↓] Go.wp_at_zero Go.wp_at_succ
/-- A name's kind. -/
def nameK (c : UInt8) (l : List UInt8) : Int := if larB c = true then 4 else if keyB l = true then 6 else 3
attribute [local go_sem ↓] Go.wp_at_zero Go.wp_at_succ
/-- How many bytes stand between here and the next token. -/
def gapL (l : List UInt8) : Nat := gapF l.length l
/-- How many bytes to the line's end. -/
def remN (s : ByteArray) (k : Nat) : Nat := ((s.data.toList.drop k).takeWhile (· ≠ 10)).length
theorem remN_le (s : ByteArray) (k : Nat) (h : k ≤ s.size) : k + remN s k ≤ s.size := by
 have h1 := (List.takeWhile_sublist (· ≠ (10 : UInt8)) (l := s.data.toList.drop k)).length_le
 rw [List.length_drop, size_list] at h1
 unfold remN; omega
theorem remN_pos (s : ByteArray) (k : Nat) (h : k < s.size) (h3 : s[k] = 35) : 0 < remN s k := by
 have h1 := get_list s k h
 unfold remN
 cases hd : s.data.toList.drop k with
 | nil => have := congrArg List.length hd; rw [List.length_drop, size_list] at this; simp at this; omega
 | cons c l =>
  have h2 : c = 35 := by
   have := List.getElem?_drop (xs := s.data.toList) (i := k) (j := 0)
   rw [hd, Nat.add_zero, h1, h3] at this
   simpa using this
  subst h2
  rw [List.takeWhile_cons, if_pos (by decide)]; simp
theorem drop_cons (s : ByteArray) (k : Nat) (h : k < s.size) : s.data.toList.drop k = s[k] :: s.data.toList.drop (k + 1) := by
 have hl : k < s.data.toList.length := by rw [size_list]; exact h
 rw [List.drop_eq_getElem_cons hl]
 congr 1
theorem u8_eq (c d : UInt8) (h : c = d) : ((c.toNat : Int) == (d.toNat : Int)) = true := by rw [h]; exact beq_self_eq_true _
theorem u8_ne (c d : UInt8) (h : c ≠ d) : ((c.toNat : Int) == (d.toNat : Int)) = false := beq_eq_false_iff_ne.2 fun e => h (UInt8.toNat_inj.1 (by omega))
attribute [local go_sem ↓] Go.wp_at_zero Go.wp_at_succ
def tkV (kd : Int) (tx : ByteArray) (nm : Int) (a : Nat) : Value := .agg #[.int .i64 kd, .string tx, .int .i64 nm, .int .i64 (a : Int)]
theorem tok_num (c : UInt8) (r : List UInt8) (h : digB c = true) : tokF (c :: r) = if 4611686018427387903 < valT ((c :: r).takeWhile digB) then ⟨0, [], 0, 0, 13⟩ else ⟨1, [], valT ((c :: r).takeWhile digB), ((c :: r).takeWhile digB).length, 0⟩ := by
 unfold tokF; dsimp only; rw [if_pos h]
theorem tok_text (r : List UInt8) : tokF (34 :: r) = ⟨2, (S.unqF (34 :: r)).1, 0, (S.unqF (34 :: r)).2.1, (S.unqF (34 :: r)).2.2⟩ := by
 unfold tokF; dsimp only; rw [if_neg (by decide), if_pos rfl]
theorem tok_name (c : UInt8) (r : List UInt8) (h1 : digB c = false) (h2 : c ≠ 34) (h : (smaB c || larB c) = true) : tokF (c :: r) = if 16 < ((c :: r).takeWhile innB).length then ⟨0, [], 0, 0, 12⟩
   else ⟨nameK c ((c :: r).takeWhile innB), (c :: r).takeWhile innB, 0, ((c :: r).takeWhile innB).length, 0⟩ := by
 show (if _ then _ else if _ then _ else if _ then _ else _) = _; rw [if_neg (by rw [h1]; decide), if_neg h2, if_pos h]; rfl
theorem tok_sign (c : UInt8) (r : List UInt8) (h1 : digB c = false) (h2 : c ≠ 34) (h3 : (smaB c || larB c) = false) (h : signL.contains c = true) : tokF (c :: r) = if arrB (c :: r) = true then ⟨5, [45, 62], 0, 2, 0⟩ else ⟨5, [c], 0, 1, 0⟩ := by
 show (if _ then _ else if _ then _ else if _ then _ else if _ then _ else if _ then _ else _) = _
 rw [if_neg (by rw [h1]; decide), if_neg h2, if_neg (by rw [h3]; decide), if_pos h]
 have e : (c = 45 ∧ r.head? = some 62) ↔ arrB (c :: r) = true := by
  unfold arrB
  cases r with
  | nil => simp
  | cons d r => simp
 by_cases ha : arrB (c :: r) = true
 ·rw [if_pos (e.2 ha), if_pos ha]
 ·rw [if_neg (fun h => ha (e.1 h)), if_neg ha]
theorem tok_odd (c : UInt8) (r : List UInt8) (h1 : digB c = false) (h2 : c ≠ 34) (h3 : (smaB c || larB c) = false) (h : signL.contains c = false) : tokF (c :: r) = ⟨0, [], 0, 0, 10⟩ := by
 show (if _ then _ else if _ then _ else if _ then _ else if _ then _ else if _ then _ else _) = _
 rw [if_neg (by rw [h1]; decide), if_neg h2, if_neg (by rw [h3]; decide), if_neg, if_neg (by rw [h]; decide)]
 rintro ⟨rfl, _⟩
 exact absurd h (by decide)
theorem ba_list (t : ByteArray) : t = ⟨t.data.toList.toArray⟩ := ba_ext rfl
theorem gap_le : ∀ (f : Nat) (l : List UInt8), gapF f l ≤ l.length
 | 0, _ => Nat.zero_le _
 | f + 1, [] => Nat.le_refl _
 | f + 1, c :: r => by
  unfold gapF
  dsimp only
  split
  ·have := gap_le f r; simp only [List.length_cons]; omega
  split
  ·have h1 := gap_le f ((c :: r).drop ((c :: r).takeWhile (· ≠ 10)).length)
   have h2 := (List.takeWhile_sublist (· ≠ (10 : UInt8)) (l := c :: r)).length_le
   rw [List.length_drop] at h1
   omega
  ·exact Nat.zero_le _
theorem Two.but {R T B b : Nat} {w w' : World} (h : Two R T B w w') (hT : b ≤ T) (hB : b ≤ B) : But R b w w' := ⟨h.os, h.tape, h.output, h.size, fun g h1 h2 => h.block g (by omega) h2 (by omega)⟩
theorem Two.whole {R T B : Nat} {w w' : World} (h : Two R T B w w') {g : Nat} {t : TypeId} {cs : Array Value} (hw : Whole w g t cs) (hg : g < B) (hn : g ≠ R) (hm : g ≠ T) : Whole w' g t cs := (h.block g hg hn hm).trans hw
/-- The tokens from place i on, behind acc: the tokens, the place, the error. -/
def toksA : Nat → List UInt8 → Nat → List Tok → List Tok × Nat × Int
 | 0, _, _, acc => (acc, 0, 0)
 | f + 1, l, i, acc =>
  if (tokF (l.drop (gapL l))).e ≠ 0 then ([], i + gapL l, (tokF (l.drop (gapL l))).e)
  else if (tokF (l.drop (gapL l))).kind = 0 then (acc ++ [⟨0, [], 0, i + gapL l⟩], 0, 0)
  else toksA f ((l.drop (gapL l)).drop (tokF (l.drop (gapL l))).n) (i + gapL l + (tokF (l.drop (gapL l))).n)
   (acc ++ [⟨(tokF (l.drop (gapL l))).kind, (tokF (l.drop (gapL l))).text, (tokF (l.drop (gapL l))).num, i + gapL l⟩])
def tokensF (l : List UInt8) : List Tok × Nat × Int := if 2000 < l.length then ([], 0, 12) else toksA (l.length + 1) l 0 []
theorem nameK_pos (c : UInt8) (l : List UInt8) : nameK c l = 4 ∨ nameK c l = 6 ∨ nameK c l = 3 := by
 unfold nameK; split
 ·exact .inl rfl
 ·split
  ·exact .inr (.inl rfl)
  ·exact .inr (.inr rfl)
theorem tw_le (P : UInt8 → Bool) (l : List UInt8) : (l.takeWhile P).length ≤ l.length := (List.takeWhile_sublist P).length_le
/-- What a token is: its kind, and how many bytes. -/
theorem tok_fit (l : List UInt8) : ((tokF l).e = 0 ∧ (tokF l).kind = 0 ↔ l = []) ∧ ((tokF l).e = 0 → (tokF l).kind ≠ 0 → 0 < (tokF l).n) ∧ ((tokF l).e = 0 → (tokF l).n ≤ l.length) := by
 cases l with
 | nil => exact ⟨⟨fun _ => rfl, fun _ => ⟨rfl, rfl⟩⟩, fun _ h => absurd rfl h, fun _ => Nat.le_refl _⟩
 | cons c r =>
  rcases h1 : digB c with _ | _
  ·by_cases h2 : c = 34
   ·subst h2
    rw [tok_text]
    have h := unqF_le (34 :: r)
    exact ⟨⟨fun h => absurd h.2 (show ¬ ((2 : Int) = 0) by decide), fun h => by cases h⟩, fun h0 _ => by have := h.2 h0; show 0 < (S.unqF (34 :: r)).2.1; omega, fun _ => h.1⟩
   ·rcases h3 : (smaB c || larB c) with _ | _
    ·rcases h4 : signL.contains c with _ | _
     ·rw [tok_odd c r h1 h2 h3 h4]
      exact ⟨⟨fun h => absurd h.1 (by decide), fun h => by cases h⟩, fun h => absurd h (by decide), fun h => absurd h (by decide)⟩
     ·rw [tok_sign c r h1 h2 h3 h4]
      split
      ·rename_i ha
       refine ⟨⟨fun h => absurd h.2 (by decide), fun h => by cases h⟩, fun _ _ => (by decide : (0 : Nat) < 2), fun _ => ?_⟩
       unfold arrB at ha
       have := congrArg List.length (beq_iff_eq.1 ha)
       rw [List.length_take] at this
       show 2 ≤ _
       simp only [List.length_cons, List.length_nil] at this ⊢; omega
      ·exact ⟨⟨fun h => absurd h.2 (show ¬ ((5 : Int) = 0) by decide), fun h => by cases h⟩, fun _ _ => (by decide : (0 : Nat) < 1), fun _ => by show 1 ≤ _; simp⟩
    ·rw [tok_name c r h1 h2 h3]
     have hp : 0 < ((c :: r).takeWhile innB).length := by rw [List.takeWhile_cons, if_pos (by unfold innB; rw [h3]; rfl)]; simp
     split
     ·exact ⟨⟨fun h => absurd h.1 (by decide), fun h => by cases h⟩, fun h => absurd h (by decide), fun h => absurd h (by decide)⟩
     ·exact ⟨⟨fun h => by have := nameK_pos c ((c :: r).takeWhile innB); have h' : nameK c ((c :: r).takeWhile innB) = 0 := h.2; omega, fun h => by cases h⟩, fun _ _ => hp, fun _ => tw_le _ _⟩
  ·rw [tok_num c r h1]
   have hp : 0 < ((c :: r).takeWhile digB).length := by rw [List.takeWhile_cons, if_pos h1]; simp
   split
   ·exact ⟨⟨fun h => absurd h.1 (by decide), fun h => by cases h⟩, fun h => absurd h (by decide), fun h => absurd h (by decide)⟩
   ·exact ⟨⟨fun h => absurd h.2 (show ¬ ((1 : Int) = 0) by decide), fun h => by cases h⟩, fun _ _ => hp, fun _ => tw_le _ _⟩
theorem gapL_le (l : List UInt8) : gapL l ≤ l.length := gap_le _ _
theorem toks_err (f : Nat) (l : List UInt8) (i : Nat) (acc : List Tok) (h : (tokF (l.drop (gapL l))).e ≠ 0) : toksA (f + 1) l i acc = ([], i + gapL l, (tokF (l.drop (gapL l))).e) := by
 show (if _ then _ else _) = _; rw [if_pos h]
theorem toks_end (f : Nat) (l : List UInt8) (i : Nat) (acc : List Tok) (h : (tokF (l.drop (gapL l))).e = 0) (h2 : (tokF (l.drop (gapL l))).kind = 0) : toksA (f + 1) l i acc = (acc ++ [⟨0, [], 0, i + gapL l⟩], 0, 0) := by
 show (if _ then _ else if _ then _ else _) = _; rw [if_neg (by rw [h]; decide), if_pos h2]
theorem toks_more (f : Nat) (l : List UInt8) (i : Nat) (acc : List Tok) (h : (tokF (l.drop (gapL l))).e = 0) (h2 : (tokF (l.drop (gapL l))).kind ≠ 0) : toksA (f + 1) l i acc =
  toksA f ((l.drop (gapL l)).drop (tokF (l.drop (gapL l))).n) (i + gapL l + (tokF (l.drop (gapL l))).n) (acc ++ [⟨(tokF (l.drop (gapL l))).kind, (tokF (l.drop (gapL l))).text, (tokF (l.drop (gapL l))).num, i + gapL l⟩]) := by
 show (if _ then _ else if _ then _ else _) = _; rw [if_neg (by rw [h]; decide), if_neg h2]
/-- A token's cells. -/
def tkC (t : Tok) : List Value := [.int .i64 t.kind, .string ⟨t.text.toArray⟩, .int .i64 t.num, .int .i64 (t.at_ : Int)]
def mkToks (ts : List Tok) : List Value := ts.flatMap tkC
theorem mkToks_snoc (ts : List Tok) (t : Tok) : mkToks (ts ++ [t]) = mkToks ts ++ tkC t := by
 unfold mkToks; rw [List.flatMap_append]; simp
theorem mkToks_get (ts : List Tok) (k : Nat) (t : Tok) (h : ts[k]? = some t) : (mkToks ts)[k * 4]? = some (.int .i64 t.kind) ∧ (mkToks ts)[k * 4 + 1]? = some (.string ⟨t.text.toArray⟩) ∧ (mkToks ts)[k * 4 + 2]? = some (.int .i64 t.num) ∧ (mkToks ts)[k * 4 + 3]? = some (.int .i64 (t.at_ : Int)) := by
 induction ts generalizing k with
 | nil => simp at h
 | cons u ts ih =>
  cases k with
  | zero =>
   simp only [List.getElem?_cons_zero, Option.some.injEq] at h
   subst h
   exact ⟨rfl, rfl, rfl, rfl⟩
  | succ k =>
   have := ih k (by simpa using h)
   have e : mkToks (u :: ts) = tkC u ++ mkToks ts := by unfold mkToks; rw [List.flatMap_cons]
   rw [e]
   have hl : (tkC u).length = 4 := rfl
   refine ⟨?_, ?_, ?_, ?_⟩
   all_goals rw [List.getElem?_append_right (by rw [hl]; omega), hl]
   ·rw [show (k + 1) * 4 - 4 = k * 4 by omega]; exact this.1
   ·rw [show (k + 1) * 4 + 1 - 4 = k * 4 + 1 by omega]; exact this.2.1
   ·rw [show (k + 1) * 4 + 2 - 4 = k * 4 + 2 by omega]; exact this.2.2.1
   ·rw [show (k + 1) * 4 + 3 - 4 = k * 4 + 3 by omega]; exact this.2.2.2
attribute [local go_sem ↓] Go.wp_at_zero Go.wp_at_succ
theorem ty_tok : ElemTy 56 67 4 40 := elemTy (i := none) (z := .agg #[.int .i64 0, .string ⟨#[]⟩, .int .i64 0, .int .i64 0]) Try.underlying56 (by kernel_rfl) rfl (by decide)
/-- Each quote has no more than 1000 bytes behind it. -/
def ShortQ (l : List UInt8) : Prop := ∀ j, (l.drop j).head? = some 34 → l.length - j ≤ 1000
/-- What a list of tokens is. -/
def ToksAt (w : World) (base : Nat) (v : Value) (ts : List Tok) : Prop := w.ownsRow base 67 4 v ts.length (mkToks ts)
/-- The tokens of a source from place i on. -/
inductive Toks : List UInt8 → Nat → List Tok → Prop
 | fin (l : List UInt8) (i : Nat) (h : l.drop (gapL l) = []) : Toks l i [⟨0, [], 0, i + gapL l⟩]
 | one (l : List UInt8) (i : Nat) (ts : List Tok) (kd : Int) (tx : List UInt8) (nm : Int) (n : Nat) (hr : tokF (l.drop (gapL l)) = ⟨kd, tx, nm, n, 0⟩) (hk : kd ≠ 0) (ht : Toks (l.drop (gapL l + n)) (i + gapL l + n) ts) :
   Toks l i (⟨kd, tx, nm, i + gapL l⟩ :: ts)
theorem tok_len {l : List UInt8} {kd : Int} {tx : List UInt8} {nm : Int} {n : Nat} (hr : tokF l = ⟨kd, tx, nm, n, 0⟩) (hk : kd ≠ 0) : 0 < n ∧ n ≤ l.length := by
 have h := tok_fit l
 rw [hr] at h
 exact ⟨h.2.1 rfl hk, h.2.2 rfl⟩
theorem toks_of {l : List UInt8} {i : Nat} {ts : List Tok} (h : Toks l i ts) : ∀ f acc, l.length < f → toksA f l i acc = (acc ++ ts, 0, 0) := by
 induction h with
 | fin l i h =>
  intro f acc hf
  obtain ⟨f, rfl⟩ : ∃ g, f = g + 1 := ⟨f - 1, by omega⟩
  exact toks_end f l i acc (by rw [h]; rfl) (by rw [h]; rfl)
 | one l i ts kd tx nm n hr hk ht ih =>
  intro f acc hf
  obtain ⟨f, rfl⟩ : ∃ g, f = g + 1 := ⟨f - 1, by omega⟩
  have hn := tok_len hr hk
  have hg := gapL_le l
  rw [List.length_drop] at hn
  rw [toks_more f l i acc (by rw [hr]) (by rw [hr]; exact hk), hr]
  dsimp only
  rw [List.drop_drop, ih f _ (by rw [List.length_drop]; omega), List.append_assoc, List.singleton_append]
theorem of_toks : ∀ (f : Nat) (l : List UInt8) (i : Nat) (acc ts : List Tok) (p : Nat), l.length < f → toksA f l i acc = (ts, p, 0) → ∃ us, Toks l i us ∧ ts = acc ++ us ∧ p = 0
 | 0, _, _, _, _, _, h, _ => by omega
 | f + 1, l, i, acc, ts, p, hf, h => by
  by_cases he : (tokF (l.drop (gapL l))).e = 0
  ·by_cases hk : (tokF (l.drop (gapL l))).kind = 0
   ·rw [toks_end f l i acc he hk] at h
    injection h with h1 h2
    injection h2 with h2 h3
    exact ⟨_, .fin l i ((tok_fit _).1.1 ⟨he, hk⟩), h1.symm, h2.symm⟩
   ·rw [toks_more f l i acc he hk] at h
    rcases hr : tokF (l.drop (gapL l)) with ⟨kd, tx, nm, n, e⟩
    rw [hr] at h he hk
    dsimp only at h he hk
    subst he
    have hn := tok_len hr hk
    have hg := gapL_le l
    rw [List.length_drop] at hn
    rw [List.drop_drop] at h
    obtain ⟨us, h1, h2, h3⟩ := of_toks f _ _ _ _ _ (by rw [List.length_drop]; omega) h
    exact ⟨_, .one l i us kd tx nm n hr hk h1, by rw [h2, List.append_assoc, List.singleton_append], h3⟩
  ·rw [toks_err f l i acc he] at h
   injection h with h1 h2
   injection h2 with h2 h3
   exact absurd h3 he
theorem tokensF_of {l : List UInt8} {ts : List Tok} (h : Toks l 0 ts) (hl : l.length ≤ 2000) : tokensF l = (ts, 0, 0) := by
 unfold tokensF
 rw [if_neg (by omega), toks_of h _ _ (Nat.lt_succ_self _)]; rfl
theorem of_tokensF {l : List UInt8} {ts : List Tok} {p : Nat} (h : tokensF l = (ts, p, 0)) : Toks l 0 ts := by
 unfold tokensF at h
 split at h
 ·injection h with h1 h2
  injection h2 with h2 h3
  cases h3
 ·obtain ⟨us, h1, h2, _⟩ := of_toks _ _ _ _ _ _ (Nat.lt_succ_self _) h
  rw [h2]; exact h1
/-- Refused: no tokens. -/
theorem toksA_bad : ∀ (f : Nat) (l : List UInt8) (i : Nat) (acc ts : List Tok) (p : Nat) (e : Int), toksA f l i acc = (ts, p, e) → e ≠ 0 → ts = []
 | 0, _, _, _, _, _, _, h, he => by
  unfold toksA at h
  injection h with h1 h2
  injection h2 with h2 h3
  exact absurd h3.symm he
 | f + 1, l, i, acc, ts, p, e, h, he => by
  by_cases h0 : (tokF (l.drop (gapL l))).e = 0
  ·by_cases hk : (tokF (l.drop (gapL l))).kind = 0
   ·rw [toks_end f l i acc h0 hk] at h
    injection h with h1 h2
    injection h2 with h2 h3
    exact absurd h3.symm he
   ·rw [toks_more f l i acc h0 hk] at h
    exact toksA_bad f _ _ _ _ _ _ h he
  ·rw [toks_err f l i acc h0] at h
   injection h with h1 h2
   exact h1.symm
theorem tokensF_bad {l : List UInt8} {ts : List Tok} {p : Nat} {e : Int} (h : tokensF l = (ts, p, e)) (he : e ≠ 0) : ts = [] := by
 unfold tokensF at h
 split at h
 ·injection h with h1 h2; exact h1.symm
 ·exact toksA_bad _ _ _ _ _ _ _ h he
theorem Toks.ne {l : List UInt8} {i : Nat} {ts : List Tok} (h : Toks l i ts) : ts ≠ [] := by cases h <;> simp
/-- No more tokens than bytes, and one. -/
theorem Toks.len {l : List UInt8} {i : Nat} {ts : List Tok} (h : Toks l i ts) : ts.length ≤ l.length + 1 := by
 induction h with
 | fin l i h => simp
 | one l i ts kd tx nm n hr hk ht ih =>
  have hn := tok_len hr hk
  rw [List.length_drop] at hn ih
  rw [List.length_cons]; omega
/-- Where tokens stand. -/
theorem Toks.places {l : List UInt8} {i : Nat} {ts : List Tok} (h : Toks l i ts) : ∀ k t, ts[k]? = some t → ((t.kind = 0) ↔ k + 1 = ts.length) ∧ (t.at_ = i + l.length ↔ k + 1 = ts.length) ∧ i ≤ t.at_ ∧ (∀ u, ts[k + 1]? = some u → t.at_ < u.at_) := by
 induction h with
 | fin l i h =>
  intro k t hk
  have hg := gapL_le l
  have h2 : gapL l = l.length := by
   have := congrArg List.length h
   rw [List.length_drop, List.length_nil] at this; omega
  cases k with
  | zero =>
   simp only [List.getElem?_cons_zero, Option.some.injEq] at hk
   subst hk
   exact ⟨by simp, by simp [h2], by simp, by simp⟩
  | succ k => simp at hk
 | one l i ts kd tx nm n hr hk ht ih =>
  intro k t hkt
  have hn := tok_len hr hk
  have hg := gapL_le l
  have hne := ht.ne
  rw [List.length_drop] at hn
  have hlen : 0 < ts.length := List.length_pos_iff.2 hne
  have hll : i + gapL l + n + (l.drop (gapL l + n)).length = i + l.length := by rw [List.length_drop]; omega
  rw [hll] at ih
  cases k with
  | zero =>
   simp only [List.getElem?_cons_zero, Option.some.injEq] at hkt
   subst hkt
   dsimp only
   refine ⟨⟨fun h => absurd h hk, fun h => by simp only [List.length_cons] at h; omega⟩, ⟨fun h => by omega, fun h => by simp only [List.length_cons] at h; omega⟩, by omega, fun u hu => ?_⟩
   simp only [List.getElem?_cons_succ] at hu
   have := (ih 0 u hu).2.2.1
   omega
  | succ k =>
   simp only [List.getElem?_cons_succ] at hkt
   obtain ⟨a, b, c, d⟩ := ih k t hkt
   refine ⟨by rw [a]; simp, by rw [b]; simp, by omega, fun u hu => d u (by simpa using hu)⟩
theorem gap_fuel : ∀ (n : Nat) (l : List UInt8), l.length ≤ n → ∀ f g, l.length ≤ f → l.length ≤ g → gapF f l = gapF g l
 | 0, l, h, f, g, hf, hg => by
  have : l = [] := List.eq_nil_of_length_eq_zero (by omega)
  subst this
  cases f <;> cases g <;> rfl
 | n + 1, l, h, f, g, hf, hg => by
  cases l with
  | nil => cases f <;> cases g <;> rfl
  | cons c r =>
   simp only [List.length_cons] at h hf hg
   obtain ⟨f, rfl⟩ : ∃ k, f = k + 1 := ⟨f - 1, by omega⟩
   obtain ⟨g, rfl⟩ : ∃ k, g = k + 1 := ⟨g - 1, by omega⟩
   unfold gapF
   dsimp only
   split
   ·rw [gap_fuel n r (by omega) f g (by omega) (by omega)]
   ·split
    ·rename_i h35
     have hp : 0 < ((c :: r).takeWhile (· ≠ 10)).length := by
      rw [List.takeWhile_cons, if_pos (by rw [h35]; decide)]; simp
     have hl : ((c :: r).drop ((c :: r).takeWhile (· ≠ 10)).length).length ≤ r.length := by rw [List.length_drop, List.length_cons]; omega
     rw [gap_fuel n _ (by omega) f g (by omega) (by omega)]
    ·rfl
theorem gapL_blank (c : UInt8) (r : List UInt8) (h : c = 32 ∨ c = 9 ∨ c = 10) : gapL (c :: r) = 1 + gapL r := by
 unfold gapL
 show (if c = 32 ∨ c = 9 ∨ c = 10 then 1 + gapF r.length r else _) = 1 + gapF r.length r
 rw [if_pos h]
theorem gapL_rem (c : UInt8) (r : List UInt8) (h : c = 35) : gapL (c :: r) = ((c :: r).takeWhile (· ≠ 10)).length + gapL ((c :: r).drop ((c :: r).takeWhile (· ≠ 10)).length) := by
 have hp : 0 < ((c :: r).takeWhile (· ≠ 10)).length := by
  rw [List.takeWhile_cons, if_pos (by rw [h]; decide)]; simp
 have hl : ((c :: r).drop ((c :: r).takeWhile (· ≠ 10)).length).length ≤ r.length := by rw [List.length_drop, List.length_cons]; omega
 have e : gapL (c :: r) = ((c :: r).takeWhile (· ≠ 10)).length + gapF r.length ((c :: r).drop ((c :: r).takeWhile (· ≠ 10)).length) := by
  unfold gapL
  show (if c = 32 ∨ c = 9 ∨ c = 10 then _ else if c = 35 then _ else _) = _
  rw [if_neg (by rw [h]; decide), if_pos h]
 rw [e]
 unfold gapL
 rw [gap_fuel _ _ (Nat.le_refl _) r.length _ hl (Nat.le_refl _)]
theorem gapL_other (c : UInt8) (r : List UInt8) (h : ¬ (c = 32 ∨ c = 9 ∨ c = 10)) (h2 : c ≠ 35) : gapL (c :: r) = 0 := by
 unfold gapL
 show (if c = 32 ∨ c = 9 ∨ c = 10 then _ else if c = 35 then _ else _) = _
 rw [if_neg h, if_neg h2]
theorem toks_fuel : ∀ (n : Nat) (l : List UInt8), l.length ≤ n → ∀ f g, l.length < f → l.length < g → ∀ i acc, toksA f l i acc = toksA g l i acc
 | n, l, h, f, g, hf, hg, i, acc => by
  obtain ⟨f, rfl⟩ : ∃ k, f = k + 1 := ⟨f - 1, by omega⟩
  obtain ⟨g, rfl⟩ : ∃ k, g = k + 1 := ⟨g - 1, by omega⟩
  by_cases he : (tokF (l.drop (gapL l))).e = 0
  ·by_cases hk : (tokF (l.drop (gapL l))).kind = 0
   ·rw [toks_end f l i acc he hk, toks_end g l i acc he hk]
   ·rw [toks_more f l i acc he hk, toks_more g l i acc he hk]
    have hfit := tok_fit (l.drop (gapL l))
    have h1 := hfit.2.1 he hk
    have h2 := hfit.2.2 he
    rw [List.length_drop] at h2
    have hgl := gapL_le l
    rcases n with _ | n
    ·omega
    ·exact toks_fuel n _ (by rw [List.length_drop, List.length_drop]; omega) f g (by rw [List.length_drop, List.length_drop]; omega) (by rw [List.length_drop, List.length_drop]; omega) _ _
  ·rw [toks_err f l i acc he, toks_err g l i acc he]
/-- The tokens from here on, behind acc. -/
def runT (l : List UInt8) (i : Nat) (acc : List Tok) : List Tok × Nat × Int := toksA (l.length + 1) l i acc
theorem runT_gap (l : List UInt8) (i k : Nat) (acc : List Tok) (h : gapL l = k + gapL (l.drop k)) : runT l i acc = runT (l.drop k) (i + k) acc := by
 unfold runT
 have hd : (l.drop k).drop (gapL (l.drop k)) = l.drop (gapL l) := by rw [List.drop_drop, h]
 have hi : i + k + gapL (l.drop k) = i + gapL l := by rw [h]; omega
 have hgl := gapL_le l
 have hgk := gapL_le (l.drop k)
 rw [List.length_drop] at hgk
 have e1 := toks_err (l.drop k).length (l.drop k) (i + k) acc
 have e2 := toks_end (l.drop k).length (l.drop k) (i + k) acc
 have e3 := toks_more (l.drop k).length (l.drop k) (i + k) acc
 rw [hd, hi] at e1 e2 e3
 by_cases he : (tokF (l.drop (gapL l))).e = 0
 ·by_cases hk : (tokF (l.drop (gapL l))).kind = 0
  ·rw [toks_end _ l i acc he hk, e2 he hk]
  ·rw [toks_more _ l i acc he hk, e3 he hk]
   have hfit := tok_fit (l.drop (gapL l))
   have h1 := hfit.2.1 he hk
   have h2 := hfit.2.2 he
   rw [List.length_drop] at h2
   exact toks_fuel _ _ (Nat.le_refl _) _ _ (by rw [List.length_drop, List.length_drop]; omega) (by rw [List.length_drop, List.length_drop, List.length_drop]; omega) _ _
 ·rw [toks_err _ l i acc he, e1 he]
theorem runT_end (i : Nat) (acc : List Tok) : runT [] i acc = (acc ++ [⟨0, [], 0, i⟩], 0, 0) := by
 unfold runT
 rw [toks_end _ [] i acc rfl rfl]; rfl
theorem runT_err (l : List UInt8) (i : Nat) (acc : List Tok) (hg : gapL l = 0) (h : (tokF l).e ≠ 0) : runT l i acc = ([], i, (tokF l).e) := by
 unfold runT
 have := toks_err l.length l i acc
 rw [hg, List.drop_zero] at this
 exact this h
theorem runT_more (l : List UInt8) (i : Nat) (acc : List Tok) (hg : gapL l = 0) (h : (tokF l).e = 0) (hk : (tokF l).kind ≠ 0) : runT l i acc = runT (l.drop (tokF l).n) (i + (tokF l).n) (acc ++ [⟨(tokF l).kind, (tokF l).text, (tokF l).num, i⟩]) := by
 unfold runT
 have h3 := toks_more l.length l i acc
 have h1 := (tok_fit l).2.1 h hk
 have h2 := (tok_fit l).2.2 h
 rw [hg, List.drop_zero] at h3
 rw [h3 h hk]
 exact toks_fuel _ _ (Nat.le_refl _) _ _ (by rw [List.length_drop]; omega) (by omega) _ _
attribute [local go_sem ↓] Go.wp_at_zero Go.wp_at_succ
def sgnS : ByteArray := ⟨#[61, 60, 43, 45, 42, 47, 37, 94, 59, 124, 40, 41, 44, 95]⟩
theorem rsign_any (c : UInt8) (w : World) : Calls Try.prog 66 #[.int .u8 (c.toNat : Int)] w fun e w' => e = .returned (.bool (signL.contains c)) ∧ w = w' := by
 obtain ⟨r, hr⟩ : ∃ r, signL.contains c = r := ⟨_, rfl⟩
 rw [hr]
 have HRR := Lib.hid hr
 clear hr
 go_enter Try.func66, Try.ntmps66
 go_wp2_with fail
 go_loopg [4] 14 (fun gk ks wr => ∃ k : Nat, ks = .int .i64 (k : Int) ∧ k + gk = 14 ∧ (∀ j, j < k → signL[j]? ≠ some c) ∧ w = wr)
 case atStart => exact ⟨0, rfl, rfl, fun j h => by omega, rfl⟩
 case round =>
  obtain ⟨k, rfl, hkg, hp, rfl⟩ := hrel
  have HP := Lib.hid hp
  clear hp
  by_cases hlt : k < 14
  ·have d1 : decide ((k : Int) < 14) = true := decide_eq_true (by omega)
   have i1 : (0 : Int) ≤ (k : Int) := by omega
   have i2 : (k : Int) < 14 := by omega
   have hks : k < sgnS.size := hlt
   have HQ : Hid (signL[k]? = some sgnS[k]) := get_list sgnS k hks
   by_cases hq : sgnS[k] = c
   ·have e1 := u8_eq sgnS[k] c hq
    have hc : r = true := by
     rw [hq] at HQ
     rw [← HRR.out]
     exact List.contains_iff_mem.2 (List.mem_of_getElem? HQ.out)
    subst hc
    clear HRR HQ hq HP
    unfold sgnS at e1
    go_wp2_with fail
    go_ret
    exact ⟨rfl, rfl⟩
   ·have e1 := u8_ne sgnS[k] c hq
    have HP2 : Hid (∀ j, j < k + 1 → signL[j]? ≠ some c) := fun j h hj => by
     rcases Nat.lt_or_ge j k with h1 | h1
     ·exact HP.out j h1 hj
     ·obtain rfl : j = k := by omega
      rw [HQ.out] at hj
      exact hq (Option.some.inj hj)
    clear HP HQ hq
    unfold sgnS at e1
    go_wp2_with fail
    go_roundg (gk - 1)
    case measure => omega
    case rel => exact ⟨k + 1, rfl, by omega, HP2.out, rfl⟩
  ·have d1 : decide ((k : Int) < 14) = false := decide_eq_false (by omega)
   have hc : r = false := by
    rw [← HRR.out, Bool.eq_false_iff]
    intro h
    obtain ⟨j, hj, hh⟩ := List.getElem_of_mem (List.contains_iff_mem.1 h)
    exact HP.out j (by have : j < 14 := hj; omega) (by rw [List.getElem?_eq_getElem hj, hh])
   subst hc
   clear HRR HP
   go_wp2_with fail
   go_ret
   exact ⟨rfl, rfl⟩
attribute [local go_sem ↓] Go.wp_at_zero Go.wp_at_succ
def keyV : List Value := keyL.map fun l => .string ⟨l.toArray⟩
theorem keyV_get (k : Nat) (l : List UInt8) (h : keyL[k]? = some l) : keyV.toArray[k]? = some (.string ⟨l.toArray⟩) := by
 unfold keyV; simp [h]
theorem rkey_any (s : ByteArray) (w : World) : Calls Try.prog 65 #[.string s] w fun e w' => e = .returned (.bool (keyB s.data.toList)) ∧ Below w.heap.size w w' := by
 obtain ⟨r, hr⟩ : ∃ r, keyB s.data.toList = r := ⟨_, rfl⟩
 rw [hr]
 have HRR := Lib.hid hr
 clear hr
 go_enter Try.func65, Try.ntmps65
 go_wp2_with fail
 have HK : Hid (Whole (w.alloc (.cells keyV.toArray 9)) w.heap.size 9 keyV.toArray) := Whole.made _ _ _
 have HB : Hid (Below w.heap.size w (w.alloc (.cells keyV.toArray 9))) := (Below.refl _ _).alloc (Nat.le_refl _) _
 go_loopg [4] 23 (fun gk ks wr => ∃ k : Nat, ks = .int .i64 (k : Int) ∧ k + gk = 23 ∧ (∀ j, j < k → keyL[j]? ≠ some s.data.toList) ∧ Whole wr w.heap.size 9 keyV.toArray ∧ Below w.heap.size w wr)
 case atStart => exact ⟨0, rfl, rfl, fun j h => by omega, HK.out, HB.out⟩
 case round =>
  obtain ⟨k, rfl, hkg, hp, hk, hb⟩ := hrel
  have HP := Lib.hid hp
  have HK1 := Lib.hid hk
  have HB1 := Lib.hid hb
  clear hp hk hb HK HB
  by_cases hlt : k < 23
  ·have d1 : decide ((k : Int) < 23) = true := decide_eq_true (by omega)
   have i1 : (0 : Int) ≤ (k : Int) := by omega
   have i2 : (k : Int) < 23 := by omega
   have i2n : k < 23 := hlt
   obtain ⟨x, hx⟩ : ∃ x, keyL[k]? = some x := ⟨_, List.getElem?_eq_getElem (by exact hlt)⟩
   have HX := Lib.hid hx
   have c0 : wr.cell? ⟨w.heap.size, k, none⟩ = some (.string ⟨x.toArray⟩) := (HK1.out.cell k).trans (keyV_get k x hx)
   clear hx
   by_cases hq : x = s.data.toList
   ·have hc : r = true := by
     rw [← HRR.out]
     unfold keyB
     rw [hq] at HX
     exact List.contains_iff_mem.2 (List.mem_of_getElem? HX.out)
    subst hc
    have e1 : (x == s.toList) = true := by rw [ByteArray.toList_eq]; exact beq_iff_eq.2 hq
    clear HRR HX hq HP
    go_wp2_with fail
    go_ret
    exact ⟨rfl, HB1.out⟩
   ·have e1 : (x == s.toList) = false := by rw [ByteArray.toList_eq]; exact beq_eq_false_iff_ne.2 hq
    have HP2 : Hid (∀ j, j < k + 1 → keyL[j]? ≠ some s.data.toList) := fun j h hj => by
     rcases Nat.lt_or_ge j k with h1 | h1
     ·exact HP.out j h1 hj
     ·obtain rfl : j = k := by omega
      rw [HX.out] at hj
      exact hq (Option.some.inj hj)
    clear HP HX hq
    go_wp2_with fail
    go_roundg (gk - 1)
    case measure => omega
    case rel => exact ⟨k + 1, rfl, by omega, HP2.out, HK1.out, HB1.out⟩
  ·have d1 : decide ((k : Int) < 23) = false := decide_eq_false (by omega)
   have hc : r = false := by
    rw [← HRR.out, Bool.eq_false_iff]
    intro h
    unfold keyB at h
    obtain ⟨j, hj, hh⟩ := List.getElem_of_mem (List.contains_iff_mem.1 h)
    exact HP.out j (by have : j < 23 := hj; omega) (by rw [List.getElem?_eq_getElem hj, hh])
   subst hc
   clear HRR HP
   go_wp2_with fail
   go_ret
   exact ⟨rfl, HB1.out⟩
attribute [local go_sem ↓] Go.wp_at_zero Go.wp_at_succ
/-- What the document's token is told to be. -/
def RTok (r : TokR) (w : World) (e : Ending) (w' : World) : Prop :=
 ∃ kd nm n : Int, ∃ tx : ByteArray, e = .returned (.tuple #[tkV kd tx nm 0, .int .i64 n, .int .i64 r.e]) ∧ Below w.heap.size w w' ∧
  (r.e = 0 → kd = r.kind ∧ tx = ⟨r.text.toArray⟩ ∧ nm = r.num ∧ n = (r.n : Int))
theorem valT_snoc (l : List UInt8) (c : UInt8) : valT (l ++ [c]) = 10 * valT l + (c.toNat - 48) := by simp [valT]
theorem valT_le : ∀ (l m : List UInt8), valT l ≤ valT (l ++ m)
 | l, [] => by rw [List.append_nil]; exact Nat.le_refl _
 | l, c :: m => by
  have h := valT_le (l ++ [c]) m
  rw [List.append_assoc, List.singleton_append] at h
  have h2 := valT_snoc l c
  omega
theorem valT_take (s : ByteArray) (k : Nat) (h : k < s.size) : valT (s.data.toList.take (k + 1)) = 10 * valT (s.data.toList.take k) + (s[k].toNat - 48) := by
 rw [List.take_add_one, get_list s k h]
 exact valT_snoc _ _
theorem valT_more (l : List UInt8) {a b : Nat} (h : a ≤ b) : valT (l.take a) ≤ valT (l.take b) := by
 have e : l.take a ++ (l.take b).drop a = l.take b := by
  have := List.take_append_drop a (l.take b)
  rwa [List.take_take, Nat.min_eq_left h] at this
 rw [← e]; exact valT_le _ _
theorem take_run (P : UInt8 → Bool) (s : ByteArray) : s.data.toList.takeWhile P = s.data.toList.take (runN P s 0) := by
 have h := List.prefix_iff_eq_take.1 (List.takeWhile_prefix (l := s.data.toList) P)
 rw [h]; unfold runN; simp
theorem dig_lo {c : UInt8} (h : digB c = true) : 48 ≤ (c.toNat : Int) := by simp [digB] at h; omega
theorem dig_hi {c : UInt8} (h : digB c = true) : (c.toNat : Int) ≤ 57 := by simp [digB] at h; omega
set_option maxRecDepth 100000 in
set_option maxHeartbeats 4000000 in
theorem rtoken_num (w : World) (s : ByteArray) (c : UInt8) (hs : s.size ≤ 10000) (h0 : 0 < s.size) (hc : s[0] = c) (hd : digB c = true) : Calls Try.prog 49 #[.string s] w (RTok (tokF s.data.toList) w) := by
 have he : tokF s.data.toList = if 4611686018427387903 < valT (s.data.toList.take (runN digB s 0)) then ⟨0, [], 0, 0, 13⟩ else ⟨1, [], valT (s.data.toList.take (runN digB s 0)), runN digB s 0, 0⟩ := by
  have h1 := drop_cons s 0 h0
  rw [List.drop_zero] at h1
  rw [← take_run]
  unfold runN
  rw [List.drop_zero, h1, hc]; exact tok_num c _ hd
 obtain ⟨r, hr⟩ : ∃ r, tokF s.data.toList = r := ⟨_, rfl⟩
 rw [hr] at he ⊢
 clear hr
 have hdg : ∀ j, j < runN digB s 0 → ∀ h : j < s.size, digB s[j] = true := fun j hj h => by
  have h1 := get_list s j h
  have h2 : (s.data.toList.takeWhile digB)[j]? = some s[j] := by rw [take_run, List.getElem?_take, if_pos hj, h1]
  exact mem_tw (List.mem_of_getElem? h2)
 have hrl := runN_le digB s 0 (Nat.zero_le _)
 subst hc
 have CD : Hid (∀ (c : UInt8) (wx : World), Calls Try.prog 61 #[.int .u8 (c.toNat : Int)] wx fun e w' => e = .returned (.bool (digB c)) ∧ wx = w') := rdigit_any
 obtain ⟨N, hN⟩ : ∃ N, runN digB s 0 = N := ⟨_, rfl⟩
 rw [hN] at hdg hrl he
 have HN := Lib.hid hN
 have HRR := Lib.hid he
 have HD := Lib.hid hdg
 clear hN he hdg
 have i0 : (0 : Int) < (s.size : Int) := by omega
 have CT : Hid (∀ wx, Calls Try.prog 61 #[.int .u8 (s[0].toNat : Int)] wx fun e w' => e = .returned (.bool true) ∧ wx = w') := fun wx => (rdigit_any _ wx).mono fun e w' ⟨h1, h2⟩ => ⟨by rw [h1, hd], h2⟩
 have HI := Lib.hid hd
 clear hd
 have HZ : Hid (Whole (w.alloc (.cells #[.int .i64 0, .string ⟨#[]⟩, .int .i64 0, .int .i64 0] 67)) w.heap.size 67 #[.int .i64 0, .string ⟨#[]⟩, .int .i64 0, .int .i64 0]) := Whole.made _ _ _
 have HB : Hid (Below w.heap.size w (w.alloc (.cells #[.int .i64 0, .string ⟨#[]⟩, .int .i64 0, .int .i64 0] 67))) := (Below.refl _ _).alloc (Nat.le_refl _) _
 go_enter Try.func49, Try.ntmps49
 go_wp2_with (go_at_call 61; refine (CT.out _).mono ?_; rintro e w1 ⟨rfl, rfl⟩)
 generalize w.alloc (.cells #[.int .i64 0, .string ⟨#[]⟩, .int .i64 0, .int .i64 0] 67) = w2 at *
 go_loopg [6] (s.size - 1) (fun gk ks wr => ∃ k : Nat, ks = .int .i64 (k : Int) ∧ 1 ≤ k ∧ k + gk = s.size ∧ (∀ j, 0 ≤ j → j < k → ∀ h : j < s.size, digB s[j] = true) ∧ w2 = wr)
 case atStart => exact ⟨1, rfl, Nat.le_refl _, by omega, fun j _ h1 h => by obtain rfl : j = 0 := by omega
                                                                            exact HI.out, rfl⟩
 case round =>
  obtain ⟨k, rfl, hk1, hkg, hp, hw⟩ := hrel
  subst hw
  have HP := Lib.hid hp
  clear hp
  by_cases hlt : k < s.size
  ·have d1 : decide ((k : Int) < (s.size : Int)) = true := decide_eq_true (by omega)
   have d1n : decide (k < s.size) = true := decide_eq_true hlt
   have i1 : (0 : Int) ≤ (k : Int) := by omega
   have i2 : (k : Int) < (s.size : Int) := by omega
   rcases hpk : digB s[k] with _ | _
   ·have HE : Hid (k = 0 + runN digB s 0) := run_len (Nat.zero_le _) (by omega) HP.out (fun h => hpk)
    have CK : Hid (∀ wx : World, Calls Try.prog 61 #[.int .u8 (s[k].toNat : Int)] wx fun e w' => e = .returned (.bool false) ∧ wx = w') := fun wx => (rdigit_any _ wx).mono fun e w' ⟨h1, h2⟩ => ⟨by rw [h1, hpk], h2⟩
    have hkN : k = N := by have := HE.out; have := HN.out; omega
    clear hpk HP HE HN
    subst hkN
    clear CT HI CD
    go_wp2_with (go_at_call 61; refine (CK.out _).mono ?_; rintro e w1 ⟨rfl, rfl⟩)
    clear CK
    go_loopg [7, 8] k (fun gk vs ks wr => ∃ i V : Nat, vs = .int .i64 (V : Int) ∧ ks = .int .i64 (i : Int) ∧ i + gk = k ∧ V = valT (s.data.toList.take i) ∧ V ≤ 4611686018427387903 ∧ w2 = wr)
    case atStart => exact ⟨0, 0, rfl, rfl, by omega, rfl, by omega, rfl⟩
    case round =>
     obtain ⟨i, V, rfl, rfl, hik, hV, hVM, hw⟩ := hrel
     subst hw
     by_cases hlt2 : i < k
     ·have e1 : decide ((i : Int) < (k : Int)) = true := decide_eq_true (by omega)
      have e1n : decide (i < k) = true := decide_eq_true hlt2
      have j1 : (0 : Int) ≤ (i : Int) := by omega
      have j2 : (i : Int) < (s.size : Int) := by omega
      have hdi := HD.out i hlt2 (by omega)
      have hc1 := dig_lo hdi
      have hc2 := dig_hi hdi
      have hst := valT_take s i (by omega)
      have hmo := valT_more s.data.toList (show i + 1 ≤ k from hlt2)
      rw [← hV] at hst
      have hq : (4611686018427387903 - ((s[i].toNat : Int) - 48)).tdiv 10 = (4611686018427387903 - ((s[i].toNat : Int) - 48)) / 10 := Int.tdiv_eq_ediv_of_nonneg (by omega)
      clear hdi hV
      by_cases hbig : 4611686018427387903 < 10 * V + (s[i].toNat - 48)
      ·have ht : decide ((4611686018427387903 - ((s[i].toNat : Int) - 48)) / 10 < (V : Int)) = true := decide_eq_true (by omega)
       have ht2 : decide ((4611686018427387903 - ((s[i].toNat : Int) - 48)).tdiv 10 < (V : Int)) = true := by rw [hq]; exact ht
       have hr := HRR.out
       rw [if_pos (by omega)] at hr
       subst hr
       clear hst hmo hbig HRR hq
       have z0 : w2.cell? ⟨w.heap.size, 0, none⟩ = some (.int .i64 0) := HZ.out.cell 0
       have z1 : w2.cell? ⟨w.heap.size, 1, none⟩ = some (.string ⟨#[]⟩) := HZ.out.cell 1
       have z2 : w2.cell? ⟨w.heap.size, 2, none⟩ = some (.int .i64 0) := HZ.out.cell 2
       have z3 : w2.cell? ⟨w.heap.size, 3, none⟩ = some (.int .i64 0) := HZ.out.cell 3
       have y0 := HZ.out.free 0
       have y1 := HZ.out.free 1
       have y2 := HZ.out.free 2
       have y3 := HZ.out.free 3
       go_wp2_with fail
       have HZF : Hid (Whole ((((w2.setCell ⟨w.heap.size, 0, none⟩ (.int .i64 0)).setCell ⟨w.heap.size, 1, none⟩ (.string ⟨#[]⟩)).setCell ⟨w.heap.size, 2, none⟩ (.int .i64 0)).setCell ⟨w.heap.size, 3, none⟩ (.int .i64 0)) w.heap.size 67 #[.int .i64 0, .string ⟨#[]⟩, .int .i64 0, .int .i64 0]) := (((Whole.put (w := w2) HZ.out 0 (.int .i64 0)).put 1 (.string ⟨#[]⟩)).put 2 (.int .i64 0)).put 3 (.int .i64 0)
       have HBF : Hid (Below w.heap.size w ((((w2.setCell ⟨w.heap.size, 0, none⟩ (.int .i64 0)).setCell ⟨w.heap.size, 1, none⟩ (.string ⟨#[]⟩)).setCell ⟨w.heap.size, 2, none⟩ (.int .i64 0)).setCell ⟨w.heap.size, 3, none⟩ (.int .i64 0))) := (((HB.out.setCell (p := ⟨w.heap.size, 0, none⟩) (Nat.le_refl _) (.int .i64 0)).setCell (p := ⟨w.heap.size, 1, none⟩) (Nat.le_refl _) (.string ⟨#[]⟩)).setCell (p := ⟨w.heap.size, 2, none⟩) (Nat.le_refl _) (.int .i64 0)).setCell (p := ⟨w.heap.size, 3, none⟩) (Nat.le_refl _) (.int .i64 0)
       generalize ((((w2.setCell ⟨w.heap.size, 0, none⟩ (.int .i64 0)).setCell ⟨w.heap.size, 1, none⟩ (.string ⟨#[]⟩)).setCell ⟨w.heap.size, 2, none⟩ (.int .i64 0)).setCell ⟨w.heap.size, 3, none⟩ (.int .i64 0)) = wf at *
       have g0 := HZF.out.cell 0
       have g1 := HZF.out.cell 1
       have g2 := HZF.out.cell 2
       have g3 := HZF.out.cell 3
       simp only [List.getElem?_toArray, List.getElem?_cons_zero, List.getElem?_cons_succ] at g0 g1 g2 g3
       exact bodyPost_ret (v := .tuple #[tkV 0 ⟨#[]⟩ 0 0, .int .i64 0, .int .i64 13]) (by simp [results, Try.results49, go_sem, tkV, g0, g1, g2, g3]) rfl ⟨0, 0, 0, ⟨#[]⟩, rfl, HBF.out, fun h => absurd h (by decide)⟩
      ·have ht : decide ((4611686018427387903 - ((s[i].toNat : Int) - 48)) / 10 < (V : Int)) = false := decide_eq_false (by omega)
       have ht2 : decide ((4611686018427387903 - ((s[i].toNat : Int) - 48)).tdiv 10 < (V : Int)) = false := by rw [hq]; exact ht
       have HST := Lib.hid hst
       have hle : 10 * (V : Int) + ((s[i].toNat : Int) - 48) ≤ 4611686018427387903 := by omega
       clear hst hmo hq
       go_wp2_with fail
       go_roundg (gk - 1)
       case measure => omega
       case rel => exact ⟨i + 1, 10 * V + (s[i].toNat - 48), by go_num, rfl, by omega, HST.out.symm, by omega, rfl⟩
     ·have e1 : decide ((i : Int) < (k : Int)) = false := decide_eq_false (by omega)
      have e1n : decide (i < k) = false := decide_eq_false hlt2
      obtain rfl : i = k := by omega
      have hr := HRR.out
      rw [← hV, if_neg (by omega)] at hr
      subst hr
      clear HRR hV
      have z0 : w2.cell? ⟨w.heap.size, 0, none⟩ = some (.int .i64 0) := HZ.out.cell 0
      have z1 : w2.cell? ⟨w.heap.size, 1, none⟩ = some (.string ⟨#[]⟩) := HZ.out.cell 1
      have z2 : w2.cell? ⟨w.heap.size, 2, none⟩ = some (.int .i64 0) := HZ.out.cell 2
      have z3 : w2.cell? ⟨w.heap.size, 3, none⟩ = some (.int .i64 0) := HZ.out.cell 3
      have y0 := HZ.out.free 0
      have y1 := HZ.out.free 1
      have y2 := HZ.out.free 2
      have y3 := HZ.out.free 3
      go_wp2_with fail
      have HZF : Hid (Whole ((((w2.setCell ⟨w.heap.size, 0, none⟩ (.int .i64 1)).setCell ⟨w.heap.size, 1, none⟩ (.string ⟨#[]⟩)).setCell ⟨w.heap.size, 2, none⟩ (.int .i64 (V : Int))).setCell ⟨w.heap.size, 3, none⟩ (.int .i64 0)) w.heap.size 67 #[.int .i64 1, .string ⟨#[]⟩, .int .i64 (V : Int), .int .i64 0]) := (((Whole.put (w := w2) HZ.out 0 (.int .i64 1)).put 1 (.string ⟨#[]⟩)).put 2 (.int .i64 (V : Int))).put 3 (.int .i64 0)
      have HBF : Hid (Below w.heap.size w ((((w2.setCell ⟨w.heap.size, 0, none⟩ (.int .i64 1)).setCell ⟨w.heap.size, 1, none⟩ (.string ⟨#[]⟩)).setCell ⟨w.heap.size, 2, none⟩ (.int .i64 (V : Int))).setCell ⟨w.heap.size, 3, none⟩ (.int .i64 0))) := (((HB.out.setCell (p := ⟨w.heap.size, 0, none⟩) (Nat.le_refl _) (.int .i64 1)).setCell (p := ⟨w.heap.size, 1, none⟩) (Nat.le_refl _) (.string ⟨#[]⟩)).setCell (p := ⟨w.heap.size, 2, none⟩) (Nat.le_refl _) (.int .i64 (V : Int))).setCell (p := ⟨w.heap.size, 3, none⟩) (Nat.le_refl _) (.int .i64 0)
      generalize ((((w2.setCell ⟨w.heap.size, 0, none⟩ (.int .i64 1)).setCell ⟨w.heap.size, 1, none⟩ (.string ⟨#[]⟩)).setCell ⟨w.heap.size, 2, none⟩ (.int .i64 (V : Int))).setCell ⟨w.heap.size, 3, none⟩ (.int .i64 0)) = wf at *
      have g0 := HZF.out.cell 0
      have g1 := HZF.out.cell 1
      have g2 := HZF.out.cell 2
      have g3 := HZF.out.cell 3
      simp only [List.getElem?_toArray, List.getElem?_cons_zero, List.getElem?_cons_succ] at g0 g1 g2 g3
      exact bodyPost_ret (v := .tuple #[tkV 1 ⟨#[]⟩ (V : Int) 0, .int .i64 (i : Int), .int .i64 0]) (by simp [results, Try.results49, go_sem, tkV, g0, g1, g2, g3]) rfl ⟨1, (V : Int), (i : Int), ⟨#[]⟩, rfl, HBF.out, fun _ => ⟨rfl, rfl, rfl, rfl⟩⟩
   ·have CK : Hid (∀ wx : World, Calls Try.prog 61 #[.int .u8 (s[k].toNat : Int)] wx fun e w' => e = .returned (.bool true) ∧ wx = w') := fun wx => (rdigit_any _ wx).mono fun e w' ⟨h1, h2⟩ => ⟨by rw [h1, hpk], h2⟩
    have HP2 : Hid (∀ j, 0 ≤ j → j < k + 1 → ∀ h : j < s.size, digB s[j] = true) := fun j h1 h2 h => by
     rcases Nat.lt_or_ge j k with h3 | h3
     ·exact HP.out j h1 h3 h
     ·obtain rfl : j = k := by omega
      exact hpk
    clear hpk HP CT HI CD
    go_wp2_with (go_at_call 61; refine (CK.out _).mono ?_; rintro e w1 ⟨rfl, rfl⟩)
    go_roundg (gk - 1)
    case measure => omega
    case rel => exact ⟨k + 1, rfl, by omega, by omega, HP2.out, rfl⟩
  ·have d1 : decide ((k : Int) < (s.size : Int)) = false := decide_eq_false (by omega)
   have d1n : decide (k < s.size) = false := decide_eq_false hlt
   have HE : Hid (k = 0 + runN digB s 0) := run_len (Nat.zero_le _) (by omega) HP.out (fun h => absurd h hlt)
   have hkN : k = N := by have := HE.out; have := HN.out; omega
   clear HP HE HN
   subst hkN
   clear CT HI CD
   go_wp2_with fail
   go_loopg [7, 8] k (fun gk vs ks wr => ∃ i V : Nat, vs = .int .i64 (V : Int) ∧ ks = .int .i64 (i : Int) ∧ i + gk = k ∧ V = valT (s.data.toList.take i) ∧ V ≤ 4611686018427387903 ∧ w2 = wr)
   case atStart => exact ⟨0, 0, rfl, rfl, by omega, rfl, by omega, rfl⟩
   case round =>
    obtain ⟨i, V, rfl, rfl, hik, hV, hVM, hw⟩ := hrel
    subst hw
    by_cases hlt2 : i < k
    ·have e1 : decide ((i : Int) < (k : Int)) = true := decide_eq_true (by omega)
     have e1n : decide (i < k) = true := decide_eq_true hlt2
     have j1 : (0 : Int) ≤ (i : Int) := by omega
     have j2 : (i : Int) < (s.size : Int) := by omega
     have hdi := HD.out i hlt2 (by omega)
     have hc1 := dig_lo hdi
     have hc2 := dig_hi hdi
     have hst := valT_take s i (by omega)
     have hmo := valT_more s.data.toList (show i + 1 ≤ k from hlt2)
     rw [← hV] at hst
     have hq : (4611686018427387903 - ((s[i].toNat : Int) - 48)).tdiv 10 = (4611686018427387903 - ((s[i].toNat : Int) - 48)) / 10 := Int.tdiv_eq_ediv_of_nonneg (by omega)
     clear hdi hV
     by_cases hbig : 4611686018427387903 < 10 * V + (s[i].toNat - 48)
     ·have ht : decide ((4611686018427387903 - ((s[i].toNat : Int) - 48)) / 10 < (V : Int)) = true := decide_eq_true (by omega)
      have ht2 : decide ((4611686018427387903 - ((s[i].toNat : Int) - 48)).tdiv 10 < (V : Int)) = true := by rw [hq]; exact ht
      have hr := HRR.out
      rw [if_pos (by omega)] at hr
      subst hr
      clear hst hmo hbig HRR hq
      have z0 : w2.cell? ⟨w.heap.size, 0, none⟩ = some (.int .i64 0) := HZ.out.cell 0
      have z1 : w2.cell? ⟨w.heap.size, 1, none⟩ = some (.string ⟨#[]⟩) := HZ.out.cell 1
      have z2 : w2.cell? ⟨w.heap.size, 2, none⟩ = some (.int .i64 0) := HZ.out.cell 2
      have z3 : w2.cell? ⟨w.heap.size, 3, none⟩ = some (.int .i64 0) := HZ.out.cell 3
      have y0 := HZ.out.free 0
      have y1 := HZ.out.free 1
      have y2 := HZ.out.free 2
      have y3 := HZ.out.free 3
      go_wp2_with fail
      have HZF : Hid (Whole ((((w2.setCell ⟨w.heap.size, 0, none⟩ (.int .i64 0)).setCell ⟨w.heap.size, 1, none⟩ (.string ⟨#[]⟩)).setCell ⟨w.heap.size, 2, none⟩ (.int .i64 0)).setCell ⟨w.heap.size, 3, none⟩ (.int .i64 0)) w.heap.size 67 #[.int .i64 0, .string ⟨#[]⟩, .int .i64 0, .int .i64 0]) := (((Whole.put (w := w2) HZ.out 0 (.int .i64 0)).put 1 (.string ⟨#[]⟩)).put 2 (.int .i64 0)).put 3 (.int .i64 0)
      have HBF : Hid (Below w.heap.size w ((((w2.setCell ⟨w.heap.size, 0, none⟩ (.int .i64 0)).setCell ⟨w.heap.size, 1, none⟩ (.string ⟨#[]⟩)).setCell ⟨w.heap.size, 2, none⟩ (.int .i64 0)).setCell ⟨w.heap.size, 3, none⟩ (.int .i64 0))) := (((HB.out.setCell (p := ⟨w.heap.size, 0, none⟩) (Nat.le_refl _) (.int .i64 0)).setCell (p := ⟨w.heap.size, 1, none⟩) (Nat.le_refl _) (.string ⟨#[]⟩)).setCell (p := ⟨w.heap.size, 2, none⟩) (Nat.le_refl _) (.int .i64 0)).setCell (p := ⟨w.heap.size, 3, none⟩) (Nat.le_refl _) (.int .i64 0)
      generalize ((((w2.setCell ⟨w.heap.size, 0, none⟩ (.int .i64 0)).setCell ⟨w.heap.size, 1, none⟩ (.string ⟨#[]⟩)).setCell ⟨w.heap.size, 2, none⟩ (.int .i64 0)).setCell ⟨w.heap.size, 3, none⟩ (.int .i64 0)) = wf at *
      have g0 := HZF.out.cell 0
      have g1 := HZF.out.cell 1
      have g2 := HZF.out.cell 2
      have g3 := HZF.out.cell 3
      simp only [List.getElem?_toArray, List.getElem?_cons_zero, List.getElem?_cons_succ] at g0 g1 g2 g3
      exact bodyPost_ret (v := .tuple #[tkV 0 ⟨#[]⟩ 0 0, .int .i64 0, .int .i64 13]) (by simp [results, Try.results49, go_sem, tkV, g0, g1, g2, g3]) rfl ⟨0, 0, 0, ⟨#[]⟩, rfl, HBF.out, fun h => absurd h (by decide)⟩
     ·have ht : decide ((4611686018427387903 - ((s[i].toNat : Int) - 48)) / 10 < (V : Int)) = false := decide_eq_false (by omega)
      have ht2 : decide ((4611686018427387903 - ((s[i].toNat : Int) - 48)).tdiv 10 < (V : Int)) = false := by rw [hq]; exact ht
      have HST := Lib.hid hst
      have hle : 10 * (V : Int) + ((s[i].toNat : Int) - 48) ≤ 4611686018427387903 := by omega
      clear hst hmo hq
      go_wp2_with fail
      go_roundg (gk - 1)
      case measure => omega
      case rel => exact ⟨i + 1, 10 * V + (s[i].toNat - 48), by go_num, rfl, by omega, HST.out.symm, by omega, rfl⟩
    ·have e1 : decide ((i : Int) < (k : Int)) = false := decide_eq_false (by omega)
     have e1n : decide (i < k) = false := decide_eq_false hlt2
     obtain rfl : i = k := by omega
     have hr := HRR.out
     rw [← hV, if_neg (by omega)] at hr
     subst hr
     clear HRR hV
     have z0 : w2.cell? ⟨w.heap.size, 0, none⟩ = some (.int .i64 0) := HZ.out.cell 0
     have z1 : w2.cell? ⟨w.heap.size, 1, none⟩ = some (.string ⟨#[]⟩) := HZ.out.cell 1
     have z2 : w2.cell? ⟨w.heap.size, 2, none⟩ = some (.int .i64 0) := HZ.out.cell 2
     have z3 : w2.cell? ⟨w.heap.size, 3, none⟩ = some (.int .i64 0) := HZ.out.cell 3
     have y0 := HZ.out.free 0
     have y1 := HZ.out.free 1
     have y2 := HZ.out.free 2
     have y3 := HZ.out.free 3
     go_wp2_with fail
     have HZF : Hid (Whole ((((w2.setCell ⟨w.heap.size, 0, none⟩ (.int .i64 1)).setCell ⟨w.heap.size, 1, none⟩ (.string ⟨#[]⟩)).setCell ⟨w.heap.size, 2, none⟩ (.int .i64 (V : Int))).setCell ⟨w.heap.size, 3, none⟩ (.int .i64 0)) w.heap.size 67 #[.int .i64 1, .string ⟨#[]⟩, .int .i64 (V : Int), .int .i64 0]) := (((Whole.put (w := w2) HZ.out 0 (.int .i64 1)).put 1 (.string ⟨#[]⟩)).put 2 (.int .i64 (V : Int))).put 3 (.int .i64 0)
     have HBF : Hid (Below w.heap.size w ((((w2.setCell ⟨w.heap.size, 0, none⟩ (.int .i64 1)).setCell ⟨w.heap.size, 1, none⟩ (.string ⟨#[]⟩)).setCell ⟨w.heap.size, 2, none⟩ (.int .i64 (V : Int))).setCell ⟨w.heap.size, 3, none⟩ (.int .i64 0))) := (((HB.out.setCell (p := ⟨w.heap.size, 0, none⟩) (Nat.le_refl _) (.int .i64 1)).setCell (p := ⟨w.heap.size, 1, none⟩) (Nat.le_refl _) (.string ⟨#[]⟩)).setCell (p := ⟨w.heap.size, 2, none⟩) (Nat.le_refl _) (.int .i64 (V : Int))).setCell (p := ⟨w.heap.size, 3, none⟩) (Nat.le_refl _) (.int .i64 0)
     generalize ((((w2.setCell ⟨w.heap.size, 0, none⟩ (.int .i64 1)).setCell ⟨w.heap.size, 1, none⟩ (.string ⟨#[]⟩)).setCell ⟨w.heap.size, 2, none⟩ (.int .i64 (V : Int))).setCell ⟨w.heap.size, 3, none⟩ (.int .i64 0)) = wf at *
     have g0 := HZF.out.cell 0
     have g1 := HZF.out.cell 1
     have g2 := HZF.out.cell 2
     have g3 := HZF.out.cell 3
     simp only [List.getElem?_toArray, List.getElem?_cons_zero, List.getElem?_cons_succ] at g0 g1 g2 g3
     exact bodyPost_ret (v := .tuple #[tkV 1 ⟨#[]⟩ (V : Int) 0, .int .i64 (i : Int), .int .i64 0]) (by simp [results, Try.results49, go_sem, tkV, g0, g1, g2, g3]) rfl ⟨1, (V : Int), (i : Int), ⟨#[]⟩, rfl, HBF.out, fun _ => ⟨rfl, rfl, rfl, rfl⟩⟩
attribute [local go_sem ↓] Go.wp_at_zero Go.wp_at_succ
theorem list0 (s : ByteArray) (h : 0 < s.size) : s.data.toList = s[0] :: s.data.toList.drop 1 := by
 have := drop_cons s 0 h
 rwa [List.drop_zero] at this
theorem list1 (s : ByteArray) (h : 1 < s.size) : s.data.toList = s[0] :: s[1] :: s.data.toList.drop 2 := by
 rw [list0 s (by omega), drop_cons s 1 h]; rfl
theorem arr_yes (s : ByteArray) (h : 1 < s.size) (h0 : s[0] = 45) (h1 : s[1] = 62) : arrB s.data.toList = true := by
 rw [list1 s h, h0, h1]; rfl
theorem arr_no (s : ByteArray) (h : 0 < s.size) (hn : ∀ h1 : 1 < s.size, s[0] = 45 → s[1] ≠ 62) : arrB s.data.toList = false := by
 by_cases h1 : 1 < s.size
 ·rw [list1 s h1]
  unfold arrB
  refine beq_eq_false_iff_ne.2 fun e => ?_
  simp only [List.take_succ_cons, List.take_zero, List.cons.injEq] at e
  exact hn h1 e.1 e.2.1
 ·unfold arrB
  refine beq_eq_false_iff_ne.2 fun e => ?_
  have := congrArg List.length e
  rw [List.length_take, size_list] at this
  simp at this; omega
set_option maxRecDepth 100000 in
set_option maxHeartbeats 4000000 in
theorem rtoken_text (w : World) (s : ByteArray) (c : UInt8) (hs : s.size ≤ 10000) (h0 : 0 < s.size) (hc : s[0] = c) (h : c = 34) (hq : s.size ≤ 1000) : Calls Try.prog 49 #[.string s] w (RTok (tokF s.data.toList) w) := by
 have he : tokF s.data.toList = ⟨2, (S.unqF s.data.toList).1, 0, (S.unqF s.data.toList).2.1, (S.unqF s.data.toList).2.2⟩ := by
  have h1 := list0 s h0
  rw [hc, h] at h1
  rw [h1]; exact tok_text _
 obtain ⟨r, hr⟩ : ∃ r, tokF s.data.toList = r := ⟨_, rfl⟩
 rw [hr] at he ⊢
 clear hr
 have HRR := Lib.hid he
 clear he
 subst hc
 have i0 : (0 : Int) < (s.size : Int) := by omega
 have CD : Hid (∀ wx : World, Calls Try.prog 61 #[.int .u8 (s[0].toNat : Int)] wx fun e w' => e = .returned (.bool (digB s[0])) ∧ wx = w') := fun wx => rdigit_any _ wx
 have CM : Hid (∀ wx : World, Calls Try.prog 63 #[.int .u8 (s[0].toNat : Int)] wx fun e w' => e = .returned (.bool (smaB s[0])) ∧ wx = w') := fun wx => rsmall_any _ wx
 have CG : Hid (∀ wx : World, Calls Try.prog 64 #[.int .u8 (s[0].toNat : Int)] wx fun e w' => e = .returned (.bool (larB s[0])) ∧ wx = w') := fun wx => rlarge_any _ wx
 have CI : Hid (∀ wx : World, Calls Try.prog 66 #[.int .u8 (s[0].toNat : Int)] wx fun e w' => e = .returned (.bool (signL.contains s[0])) ∧ wx = w') := fun wx => rsign_any _ wx
 have hd : digB s[0] = false := by rw [h]; rfl
 rw [hd] at CD
 have q34 : ((s[0].toNat : Int) == 34) = true := u8_eq s[0] 34 h
 have CU : Hid (∀ wx : World, Calls Try.prog 62 #[.string s] wx fun e w' => e = .returned (.tuple #[.string ⟨(S.unqF s.data.toList).1.toArray⟩, .int .i64 ((S.unqF s.data.toList).2.1 : Int), .int .i64 (S.unqF s.data.toList).2.2]) ∧ Below wx.heap.size wx w') := fun wx => S.runquote_any s wx hq
 clear hd h hq
 generalize S.unqF s.data.toList = u at *
 obtain ⟨ut, un, ue⟩ := u
 dsimp only at CU HRR
 have HZ : Hid (Whole (w.alloc (.cells #[.int .i64 0, .string ⟨#[]⟩, .int .i64 0, .int .i64 0] 67)) w.heap.size 67 #[.int .i64 0, .string ⟨#[]⟩, .int .i64 0, .int .i64 0]) := Whole.made _ _ _
 have HB : Hid (Below w.heap.size w (w.alloc (.cells #[.int .i64 0, .string ⟨#[]⟩, .int .i64 0, .int .i64 0] 67))) := (Below.refl _ _).alloc (Nat.le_refl _) _
 go_enter Try.func49, Try.ntmps49
 go_upto_region 17 with (first
  | (go_at_call 61; refine (CD.out _).mono ?_; rintro e w1 ⟨rfl, rfl⟩)
  | (go_at_call 63; refine (CM.out _).mono ?_; rintro e w1 ⟨rfl, rfl⟩)
  | (go_at_call 64; refine (CG.out _).mono ?_; rintro e w1 ⟨rfl, rfl⟩)
  | (go_at_call 66; refine (CI.out _).mono ?_; rintro e w1 ⟨rfl, rfl⟩)
  | (go_at_call 62; refine (CU.out _).mono ?_; rintro e w2 ⟨rfl, hb⟩; have HB2 := Lib.hid hb; clear hb))
 have HZ2 := Lib.hid (HZ.out.below HB2.out HZ.out.lt)
 have HBB := Lib.hid (HB.out.trans (HB2.out.mono (by simp)))
 clear HZ HB HB2 CU
 have HZ := HZ2
 have HB := HBB
 clear HZ2 HBB
 have hr := HRR.out
 subst hr
 clear HRR
 have z0 : w2.cell? ⟨w.heap.size, 0, none⟩ = some (.int .i64 0) := HZ.out.cell 0
 have z1 : w2.cell? ⟨w.heap.size, 1, none⟩ = some (.string ⟨#[]⟩) := HZ.out.cell 1
 have z2 : w2.cell? ⟨w.heap.size, 2, none⟩ = some (.int .i64 0) := HZ.out.cell 2
 have z3 : w2.cell? ⟨w.heap.size, 3, none⟩ = some (.int .i64 0) := HZ.out.cell 3
 have y0 := HZ.out.free 0
 have y1 := HZ.out.free 1
 have y2 := HZ.out.free 2
 have y3 := HZ.out.free 3
 go_wp2_with fail
 have HZF : Hid (Whole ((((w2.setCell ⟨w.heap.size, 0, none⟩ (.int .i64 2)).setCell ⟨w.heap.size, 1, none⟩ (.string ⟨ut.toArray⟩)).setCell ⟨w.heap.size, 2, none⟩ (.int .i64 0)).setCell ⟨w.heap.size, 3, none⟩ (.int .i64 0)) w.heap.size 67 #[.int .i64 2, .string ⟨ut.toArray⟩, .int .i64 0, .int .i64 0]) := (((Whole.put (w := w2) HZ.out 0 (.int .i64 2)).put 1 (.string ⟨ut.toArray⟩)).put 2 (.int .i64 0)).put 3 (.int .i64 0)
 have HBF : Hid (Below w.heap.size w ((((w2.setCell ⟨w.heap.size, 0, none⟩ (.int .i64 2)).setCell ⟨w.heap.size, 1, none⟩ (.string ⟨ut.toArray⟩)).setCell ⟨w.heap.size, 2, none⟩ (.int .i64 0)).setCell ⟨w.heap.size, 3, none⟩ (.int .i64 0))) := (((HB.out.setCell (p := ⟨w.heap.size, 0, none⟩) (Nat.le_refl _) (.int .i64 2)).setCell (p := ⟨w.heap.size, 1, none⟩) (Nat.le_refl _) (.string ⟨ut.toArray⟩)).setCell (p := ⟨w.heap.size, 2, none⟩) (Nat.le_refl _) (.int .i64 0)).setCell (p := ⟨w.heap.size, 3, none⟩) (Nat.le_refl _) (.int .i64 0)
 generalize ((((w2.setCell ⟨w.heap.size, 0, none⟩ (.int .i64 2)).setCell ⟨w.heap.size, 1, none⟩ (.string ⟨ut.toArray⟩)).setCell ⟨w.heap.size, 2, none⟩ (.int .i64 0)).setCell ⟨w.heap.size, 3, none⟩ (.int .i64 0)) = wf at *
 have g0 := HZF.out.cell 0
 have g1 := HZF.out.cell 1
 have g2 := HZF.out.cell 2
 have g3 := HZF.out.cell 3
 simp only [List.getElem?_toArray, List.getElem?_cons_zero, List.getElem?_cons_succ] at g0 g1 g2 g3
 exact bodyPost_ret (v := .tuple #[tkV 2 ⟨ut.toArray⟩ 0 0, .int .i64 (un : Int), .int .i64 ue]) (by simp [results, Try.results49, go_sem, tkV, g0, g1, g2, g3]) rfl ⟨2, 0, (un : Int), ⟨ut.toArray⟩, rfl, HBF.out, fun _ => ⟨rfl, rfl, rfl, rfl⟩⟩
set_option maxRecDepth 100000 in
set_option maxHeartbeats 4000000 in
theorem rtoken_odd (w : World) (s : ByteArray) (c : UInt8) (hs : s.size ≤ 10000) (h0 : 0 < s.size) (hc : s[0] = c) (h1 : digB c = false) (h2 : c ≠ 34) (h3 : (smaB c || larB c) = false) (h : signL.contains c = false) : Calls Try.prog 49 #[.string s] w (RTok (tokF s.data.toList) w) := by
 have he : tokF s.data.toList = ⟨0, [], 0, 0, 10⟩ := by
  rw [list0 s h0, hc]; exact tok_odd c _ h1 h2 h3 h
 obtain ⟨r, hr⟩ : ∃ r, tokF s.data.toList = r := ⟨_, rfl⟩
 rw [hr] at he ⊢
 clear hr
 have HRR := Lib.hid he
 clear he
 subst hc
 have i0 : (0 : Int) < (s.size : Int) := by omega
 have CD : Hid (∀ wx : World, Calls Try.prog 61 #[.int .u8 (s[0].toNat : Int)] wx fun e w' => e = .returned (.bool (digB s[0])) ∧ wx = w') := fun wx => rdigit_any _ wx
 have CM : Hid (∀ wx : World, Calls Try.prog 63 #[.int .u8 (s[0].toNat : Int)] wx fun e w' => e = .returned (.bool (smaB s[0])) ∧ wx = w') := fun wx => rsmall_any _ wx
 have CG : Hid (∀ wx : World, Calls Try.prog 64 #[.int .u8 (s[0].toNat : Int)] wx fun e w' => e = .returned (.bool (larB s[0])) ∧ wx = w') := fun wx => rlarge_any _ wx
 have CI : Hid (∀ wx : World, Calls Try.prog 66 #[.int .u8 (s[0].toNat : Int)] wx fun e w' => e = .returned (.bool (signL.contains s[0])) ∧ wx = w') := fun wx => rsign_any _ wx
 rw [Bool.or_eq_false_iff] at h3
 rw [h1] at CD
 rw [h3.1] at CM
 rw [h3.2] at CG
 rw [h] at CI
 have q34 : ((s[0].toNat : Int) == 34) = false := u8_ne s[0] 34 h2
 have q45 : ((s[0].toNat : Int) == 45) = false := u8_ne s[0] 45 (fun e => by rw [e] at h; exact absurd h (by decide))
 clear h1 h2 h3 h
 have HZ : Hid (Whole (w.alloc (.cells #[.int .i64 0, .string ⟨#[]⟩, .int .i64 0, .int .i64 0] 67)) w.heap.size 67 #[.int .i64 0, .string ⟨#[]⟩, .int .i64 0, .int .i64 0]) := Whole.made _ _ _
 have HB : Hid (Below w.heap.size w (w.alloc (.cells #[.int .i64 0, .string ⟨#[]⟩, .int .i64 0, .int .i64 0] 67))) := (Below.refl _ _).alloc (Nat.le_refl _) _
 go_enter Try.func49, Try.ntmps49
 go_upto_region 33 with (first
  | (go_at_call 61; refine (CD.out _).mono ?_; rintro e w1 ⟨rfl, rfl⟩)
  | (go_at_call 63; refine (CM.out _).mono ?_; rintro e w1 ⟨rfl, rfl⟩)
  | (go_at_call 64; refine (CG.out _).mono ?_; rintro e w1 ⟨rfl, rfl⟩)
  | (go_at_call 66; refine (CI.out _).mono ?_; rintro e w1 ⟨rfl, rfl⟩))
 have hr := HRR.out
 subst hr
 clear HRR
 generalize w.alloc (.cells #[.int .i64 0, .string ⟨#[]⟩, .int .i64 0, .int .i64 0] 67) = w2 at *
 have z0 : w2.cell? ⟨w.heap.size, 0, none⟩ = some (.int .i64 0) := HZ.out.cell 0
 have z1 : w2.cell? ⟨w.heap.size, 1, none⟩ = some (.string ⟨#[]⟩) := HZ.out.cell 1
 have z2 : w2.cell? ⟨w.heap.size, 2, none⟩ = some (.int .i64 0) := HZ.out.cell 2
 have z3 : w2.cell? ⟨w.heap.size, 3, none⟩ = some (.int .i64 0) := HZ.out.cell 3
 have y0 := HZ.out.free 0
 have y1 := HZ.out.free 1
 have y2 := HZ.out.free 2
 have y3 := HZ.out.free 3
 go_wp2_with fail
 have HZF : Hid (Whole ((((w2.setCell ⟨w.heap.size, 0, none⟩ (.int .i64 0)).setCell ⟨w.heap.size, 1, none⟩ (.string ⟨#[]⟩)).setCell ⟨w.heap.size, 2, none⟩ (.int .i64 0)).setCell ⟨w.heap.size, 3, none⟩ (.int .i64 0)) w.heap.size 67 #[.int .i64 0, .string ⟨#[]⟩, .int .i64 0, .int .i64 0]) := (((Whole.put (w := w2) HZ.out 0 (.int .i64 0)).put 1 (.string ⟨#[]⟩)).put 2 (.int .i64 0)).put 3 (.int .i64 0)
 have HBF : Hid (Below w.heap.size w ((((w2.setCell ⟨w.heap.size, 0, none⟩ (.int .i64 0)).setCell ⟨w.heap.size, 1, none⟩ (.string ⟨#[]⟩)).setCell ⟨w.heap.size, 2, none⟩ (.int .i64 0)).setCell ⟨w.heap.size, 3, none⟩ (.int .i64 0))) := (((HB.out.setCell (p := ⟨w.heap.size, 0, none⟩) (Nat.le_refl _) (.int .i64 0)).setCell (p := ⟨w.heap.size, 1, none⟩) (Nat.le_refl _) (.string ⟨#[]⟩)).setCell (p := ⟨w.heap.size, 2, none⟩) (Nat.le_refl _) (.int .i64 0)).setCell (p := ⟨w.heap.size, 3, none⟩) (Nat.le_refl _) (.int .i64 0)
 generalize ((((w2.setCell ⟨w.heap.size, 0, none⟩ (.int .i64 0)).setCell ⟨w.heap.size, 1, none⟩ (.string ⟨#[]⟩)).setCell ⟨w.heap.size, 2, none⟩ (.int .i64 0)).setCell ⟨w.heap.size, 3, none⟩ (.int .i64 0)) = wf at *
 have g0 := HZF.out.cell 0
 have g1 := HZF.out.cell 1
 have g2 := HZF.out.cell 2
 have g3 := HZF.out.cell 3
 simp only [List.getElem?_toArray, List.getElem?_cons_zero, List.getElem?_cons_succ] at g0 g1 g2 g3
 exact bodyPost_ret (v := .tuple #[tkV 0 ⟨#[]⟩ 0 0, .int .i64 0, .int .i64 10]) (by simp [results, Try.results49, go_sem, tkV, g0, g1, g2, g3]) rfl ⟨0, 0, 0, ⟨#[]⟩, rfl, HBF.out, fun h => absurd h (by decide)⟩
set_option maxRecDepth 100000 in
set_option maxHeartbeats 4000000 in
theorem rtoken_arrow (w : World) (s : ByteArray) (c : UInt8) (hs : s.size ≤ 10000) (h0 : 0 < s.size) (hc : s[0] = c) (h1 : 1 < s.size) (h2 : c = 45) (h3 : s[1] = 62) : Calls Try.prog 49 #[.string s] w (RTok (tokF s.data.toList) w) := by
 have he : tokF s.data.toList = ⟨5, [45, 62], 0, 2, 0⟩ := by
  have ha := arr_yes s h1 (hc.trans h2) h3
  have hl := list0 s h0
  rw [hc, h2] at hl
  rw [hl] at ha ⊢
  rw [tok_sign 45 _ rfl (by decide) rfl (by decide), if_pos ha]
 obtain ⟨r, hr⟩ : ∃ r, tokF s.data.toList = r := ⟨_, rfl⟩
 rw [hr] at he ⊢
 clear hr
 have HRR := Lib.hid he
 clear he
 subst hc
 have i0 : (0 : Int) < (s.size : Int) := by omega
 have CD : Hid (∀ wx : World, Calls Try.prog 61 #[.int .u8 (s[0].toNat : Int)] wx fun e w' => e = .returned (.bool (digB s[0])) ∧ wx = w') := fun wx => rdigit_any _ wx
 have CM : Hid (∀ wx : World, Calls Try.prog 63 #[.int .u8 (s[0].toNat : Int)] wx fun e w' => e = .returned (.bool (smaB s[0])) ∧ wx = w') := fun wx => rsmall_any _ wx
 have CG : Hid (∀ wx : World, Calls Try.prog 64 #[.int .u8 (s[0].toNat : Int)] wx fun e w' => e = .returned (.bool (larB s[0])) ∧ wx = w') := fun wx => rlarge_any _ wx
 have CI : Hid (∀ wx : World, Calls Try.prog 66 #[.int .u8 (s[0].toNat : Int)] wx fun e w' => e = .returned (.bool (signL.contains s[0])) ∧ wx = w') := fun wx => rsign_any _ wx
 have hd : digB s[0] = false := by rw [h2]; rfl
 have hm : smaB s[0] = false := by rw [h2]; rfl
 have hg : larB s[0] = false := by rw [h2]; rfl
 rw [hd] at CD
 rw [hm] at CM
 rw [hg] at CG
 have q34 : ((s[0].toNat : Int) == 34) = false := u8_ne s[0] 34 (by rw [h2]; decide)
 have q45 : ((s[0].toNat : Int) == 45) = true := u8_eq s[0] 45 h2
 have q62 : ((s[1].toNat : Int) == 62) = true := u8_eq s[1] 62 h3
 have j1 : (1 : Int) < (s.size : Int) := by omega
 have j1d : decide ((1 : Int) < (s.size : Int)) = true := decide_eq_true j1
 have j1e : decide (1 < s.size) = true := decide_eq_true h1
 clear hd hm hg h2 h3
 have HZ : Hid (Whole (w.alloc (.cells #[.int .i64 0, .string ⟨#[]⟩, .int .i64 0, .int .i64 0] 67)) w.heap.size 67 #[.int .i64 0, .string ⟨#[]⟩, .int .i64 0, .int .i64 0]) := Whole.made _ _ _
 have HB : Hid (Below w.heap.size w (w.alloc (.cells #[.int .i64 0, .string ⟨#[]⟩, .int .i64 0, .int .i64 0] 67))) := (Below.refl _ _).alloc (Nat.le_refl _) _
 go_enter Try.func49, Try.ntmps49
 go_upto_region 30 with (first
  | (go_at_call 61; refine (CD.out _).mono ?_; rintro e w1 ⟨rfl, rfl⟩)
  | (go_at_call 63; refine (CM.out _).mono ?_; rintro e w1 ⟨rfl, rfl⟩)
  | (go_at_call 64; refine (CG.out _).mono ?_; rintro e w1 ⟨rfl, rfl⟩)
  | (go_at_call 66; refine (CI.out _).mono ?_; rintro e w1 ⟨rfl, rfl⟩))
 have hr := HRR.out
 subst hr
 clear HRR
 generalize w.alloc (.cells #[.int .i64 0, .string ⟨#[]⟩, .int .i64 0, .int .i64 0] 67) = w2 at *
 have z0 : w2.cell? ⟨w.heap.size, 0, none⟩ = some (.int .i64 0) := HZ.out.cell 0
 have z1 : w2.cell? ⟨w.heap.size, 1, none⟩ = some (.string ⟨#[]⟩) := HZ.out.cell 1
 have z2 : w2.cell? ⟨w.heap.size, 2, none⟩ = some (.int .i64 0) := HZ.out.cell 2
 have z3 : w2.cell? ⟨w.heap.size, 3, none⟩ = some (.int .i64 0) := HZ.out.cell 3
 have y0 := HZ.out.free 0
 have y1 := HZ.out.free 1
 have y2 := HZ.out.free 2
 have y3 := HZ.out.free 3
 go_wp2_with fail
 have HZF : Hid (Whole ((((w2.setCell ⟨w.heap.size, 0, none⟩ (.int .i64 5)).setCell ⟨w.heap.size, 1, none⟩ (.string ⟨#[45, 62]⟩)).setCell ⟨w.heap.size, 2, none⟩ (.int .i64 0)).setCell ⟨w.heap.size, 3, none⟩ (.int .i64 0)) w.heap.size 67 #[.int .i64 5, .string ⟨#[45, 62]⟩, .int .i64 0, .int .i64 0]) := (((Whole.put (w := w2) HZ.out 0 (.int .i64 5)).put 1 (.string ⟨#[45, 62]⟩)).put 2 (.int .i64 0)).put 3 (.int .i64 0)
 have HBF : Hid (Below w.heap.size w ((((w2.setCell ⟨w.heap.size, 0, none⟩ (.int .i64 5)).setCell ⟨w.heap.size, 1, none⟩ (.string ⟨#[45, 62]⟩)).setCell ⟨w.heap.size, 2, none⟩ (.int .i64 0)).setCell ⟨w.heap.size, 3, none⟩ (.int .i64 0))) := (((HB.out.setCell (p := ⟨w.heap.size, 0, none⟩) (Nat.le_refl _) (.int .i64 5)).setCell (p := ⟨w.heap.size, 1, none⟩) (Nat.le_refl _) (.string ⟨#[45, 62]⟩)).setCell (p := ⟨w.heap.size, 2, none⟩) (Nat.le_refl _) (.int .i64 0)).setCell (p := ⟨w.heap.size, 3, none⟩) (Nat.le_refl _) (.int .i64 0)
 generalize ((((w2.setCell ⟨w.heap.size, 0, none⟩ (.int .i64 5)).setCell ⟨w.heap.size, 1, none⟩ (.string ⟨#[45, 62]⟩)).setCell ⟨w.heap.size, 2, none⟩ (.int .i64 0)).setCell ⟨w.heap.size, 3, none⟩ (.int .i64 0)) = wf at *
 have g0 := HZF.out.cell 0
 have g1 := HZF.out.cell 1
 have g2 := HZF.out.cell 2
 have g3 := HZF.out.cell 3
 simp only [List.getElem?_toArray, List.getElem?_cons_zero, List.getElem?_cons_succ] at g0 g1 g2 g3
 exact bodyPost_ret (v := .tuple #[tkV 5 ⟨#[45, 62]⟩ 0 0, .int .i64 2, .int .i64 0]) (by simp [results, Try.results49, go_sem, tkV, g0, g1, g2, g3]) rfl ⟨5, 0, 2, ⟨#[45, 62]⟩, rfl, HBF.out, fun _ => ⟨rfl, rfl, rfl, rfl⟩⟩
set_option maxRecDepth 100000 in
set_option maxHeartbeats 4000000 in
theorem rtoken_sign (w : World) (s : ByteArray) (c : UInt8) (hs : s.size ≤ 10000) (h0 : 0 < s.size) (hc : s[0] = c) (h1 : digB c = false) (h2 : c ≠ 34) (h3 : (smaB c || larB c) = false) (h : signL.contains c = true) (ha : ∀ h1 : 1 < s.size, c = 45 → s[1] ≠ 62) : Calls Try.prog 49 #[.string s] w (RTok (tokF s.data.toList) w) := by
 have he : tokF s.data.toList = ⟨5, [c], 0, 1, 0⟩ := by
  have hb := arr_no s h0 (by rw [hc]; exact ha)
  have hl := list0 s h0
  rw [hc] at hl
  rw [hl] at hb ⊢
  rw [tok_sign c _ h1 h2 h3 h, if_neg (by rw [hb]; decide)]
 obtain ⟨r, hr⟩ : ∃ r, tokF s.data.toList = r := ⟨_, rfl⟩
 rw [hr] at he ⊢
 clear hr
 have HRR := Lib.hid he
 clear he
 subst hc
 have i0 : (0 : Int) < (s.size : Int) := by omega
 have CD : Hid (∀ wx : World, Calls Try.prog 61 #[.int .u8 (s[0].toNat : Int)] wx fun e w' => e = .returned (.bool (digB s[0])) ∧ wx = w') := fun wx => rdigit_any _ wx
 have CM : Hid (∀ wx : World, Calls Try.prog 63 #[.int .u8 (s[0].toNat : Int)] wx fun e w' => e = .returned (.bool (smaB s[0])) ∧ wx = w') := fun wx => rsmall_any _ wx
 have CG : Hid (∀ wx : World, Calls Try.prog 64 #[.int .u8 (s[0].toNat : Int)] wx fun e w' => e = .returned (.bool (larB s[0])) ∧ wx = w') := fun wx => rlarge_any _ wx
 have CI : Hid (∀ wx : World, Calls Try.prog 66 #[.int .u8 (s[0].toNat : Int)] wx fun e w' => e = .returned (.bool (signL.contains s[0])) ∧ wx = w') := fun wx => rsign_any _ wx
 rw [Bool.or_eq_false_iff] at h3
 rw [h1] at CD
 rw [h3.1] at CM
 rw [h3.2] at CG
 rw [h] at CI
 have q34 : ((s[0].toNat : Int) == 34) = false := u8_ne s[0] 34 h2
 have i1 : (1 : Int) ≤ (s.size : Int) := by omega
 have HX : Hid (s.extract 0 1 = ⟨[s[0]].toArray⟩) := by
  refine ba_ext ?_
  rw [ByteArray.data_extract, Array.toList_extract, list0 s h0]; rfl
 clear h1 h2 h3 h
 have HZ : Hid (Whole (w.alloc (.cells #[.int .i64 0, .string ⟨#[]⟩, .int .i64 0, .int .i64 0] 67)) w.heap.size 67 #[.int .i64 0, .string ⟨#[]⟩, .int .i64 0, .int .i64 0]) := Whole.made _ _ _
 have HB : Hid (Below w.heap.size w (w.alloc (.cells #[.int .i64 0, .string ⟨#[]⟩, .int .i64 0, .int .i64 0] 67))) := (Below.refl _ _).alloc (Nat.le_refl _) _
 by_cases h45 : s[0] = 45
 ·have q45 : ((s[0].toNat : Int) == 45) = true := u8_eq s[0] 45 h45
  by_cases h1 : 1 < s.size
  ·have q62 : ((s[1].toNat : Int) == 62) = false := u8_ne s[1] 62 (ha h1 h45)
   have j1 : (1 : Int) < (s.size : Int) := by omega
   have j1d : decide ((1 : Int) < (s.size : Int)) = true := decide_eq_true j1
   have j1e : decide (1 < s.size) = true := decide_eq_true h1
   clear h45 ha
   go_enter Try.func49, Try.ntmps49
   go_upto_region 32 with (first
    | (go_at_call 61; refine (CD.out _).mono ?_; rintro e w1 ⟨rfl, rfl⟩)
    | (go_at_call 63; refine (CM.out _).mono ?_; rintro e w1 ⟨rfl, rfl⟩)
    | (go_at_call 64; refine (CG.out _).mono ?_; rintro e w1 ⟨rfl, rfl⟩)
    | (go_at_call 66; refine (CI.out _).mono ?_; rintro e w1 ⟨rfl, rfl⟩))
   have hr := HRR.out
   subst hr
   clear HRR
   generalize w.alloc (.cells #[.int .i64 0, .string ⟨#[]⟩, .int .i64 0, .int .i64 0] 67) = w2 at *
   have z0 : w2.cell? ⟨w.heap.size, 0, none⟩ = some (.int .i64 0) := HZ.out.cell 0
   have z1 : w2.cell? ⟨w.heap.size, 1, none⟩ = some (.string ⟨#[]⟩) := HZ.out.cell 1
   have z2 : w2.cell? ⟨w.heap.size, 2, none⟩ = some (.int .i64 0) := HZ.out.cell 2
   have z3 : w2.cell? ⟨w.heap.size, 3, none⟩ = some (.int .i64 0) := HZ.out.cell 3
   have y0 := HZ.out.free 0
   have y1 := HZ.out.free 1
   have y2 := HZ.out.free 2
   have y3 := HZ.out.free 3
   go_wp2_with fail
   have HZF : Hid (Whole ((((w2.setCell ⟨w.heap.size, 0, none⟩ (.int .i64 5)).setCell ⟨w.heap.size, 1, none⟩ (.string (s.extract 0 1))).setCell ⟨w.heap.size, 2, none⟩ (.int .i64 0)).setCell ⟨w.heap.size, 3, none⟩ (.int .i64 0)) w.heap.size 67 #[.int .i64 5, .string (s.extract 0 1), .int .i64 0, .int .i64 0]) := (((Whole.put (w := w2) HZ.out 0 (.int .i64 5)).put 1 (.string (s.extract 0 1))).put 2 (.int .i64 0)).put 3 (.int .i64 0)
   have HBF : Hid (Below w.heap.size w ((((w2.setCell ⟨w.heap.size, 0, none⟩ (.int .i64 5)).setCell ⟨w.heap.size, 1, none⟩ (.string (s.extract 0 1))).setCell ⟨w.heap.size, 2, none⟩ (.int .i64 0)).setCell ⟨w.heap.size, 3, none⟩ (.int .i64 0))) := (((HB.out.setCell (p := ⟨w.heap.size, 0, none⟩) (Nat.le_refl _) (.int .i64 5)).setCell (p := ⟨w.heap.size, 1, none⟩) (Nat.le_refl _) (.string (s.extract 0 1))).setCell (p := ⟨w.heap.size, 2, none⟩) (Nat.le_refl _) (.int .i64 0)).setCell (p := ⟨w.heap.size, 3, none⟩) (Nat.le_refl _) (.int .i64 0)
   generalize ((((w2.setCell ⟨w.heap.size, 0, none⟩ (.int .i64 5)).setCell ⟨w.heap.size, 1, none⟩ (.string (s.extract 0 1))).setCell ⟨w.heap.size, 2, none⟩ (.int .i64 0)).setCell ⟨w.heap.size, 3, none⟩ (.int .i64 0)) = wf at *
   have g0 := HZF.out.cell 0
   have g1 := HZF.out.cell 1
   have g2 := HZF.out.cell 2
   have g3 := HZF.out.cell 3
   simp only [List.getElem?_toArray, List.getElem?_cons_zero, List.getElem?_cons_succ] at g0 g1 g2 g3
   exact bodyPost_ret (v := .tuple #[tkV 5 (s.extract 0 1) 0 0, .int .i64 1, .int .i64 0]) (by simp [results, Try.results49, go_sem, tkV, g0, g1, g2, g3]) rfl ⟨5, 0, 1, (s.extract 0 1), rfl, HBF.out, fun _ => ⟨rfl, HX.out, rfl, rfl⟩⟩
  ·have j1d : decide ((1 : Int) < (s.size : Int)) = false := decide_eq_false (by omega)
   have j1e : decide (1 < s.size) = false := decide_eq_false h1
   clear h45 ha
   go_enter Try.func49, Try.ntmps49
   go_upto_region 32 with (first
    | (go_at_call 61; refine (CD.out _).mono ?_; rintro e w1 ⟨rfl, rfl⟩)
    | (go_at_call 63; refine (CM.out _).mono ?_; rintro e w1 ⟨rfl, rfl⟩)
    | (go_at_call 64; refine (CG.out _).mono ?_; rintro e w1 ⟨rfl, rfl⟩)
    | (go_at_call 66; refine (CI.out _).mono ?_; rintro e w1 ⟨rfl, rfl⟩))
   have hr := HRR.out
   subst hr
   clear HRR
   generalize w.alloc (.cells #[.int .i64 0, .string ⟨#[]⟩, .int .i64 0, .int .i64 0] 67) = w2 at *
   have z0 : w2.cell? ⟨w.heap.size, 0, none⟩ = some (.int .i64 0) := HZ.out.cell 0
   have z1 : w2.cell? ⟨w.heap.size, 1, none⟩ = some (.string ⟨#[]⟩) := HZ.out.cell 1
   have z2 : w2.cell? ⟨w.heap.size, 2, none⟩ = some (.int .i64 0) := HZ.out.cell 2
   have z3 : w2.cell? ⟨w.heap.size, 3, none⟩ = some (.int .i64 0) := HZ.out.cell 3
   have y0 := HZ.out.free 0
   have y1 := HZ.out.free 1
   have y2 := HZ.out.free 2
   have y3 := HZ.out.free 3
   go_wp2_with fail
   have HZF : Hid (Whole ((((w2.setCell ⟨w.heap.size, 0, none⟩ (.int .i64 5)).setCell ⟨w.heap.size, 1, none⟩ (.string (s.extract 0 1))).setCell ⟨w.heap.size, 2, none⟩ (.int .i64 0)).setCell ⟨w.heap.size, 3, none⟩ (.int .i64 0)) w.heap.size 67 #[.int .i64 5, .string (s.extract 0 1), .int .i64 0, .int .i64 0]) := (((Whole.put (w := w2) HZ.out 0 (.int .i64 5)).put 1 (.string (s.extract 0 1))).put 2 (.int .i64 0)).put 3 (.int .i64 0)
   have HBF : Hid (Below w.heap.size w ((((w2.setCell ⟨w.heap.size, 0, none⟩ (.int .i64 5)).setCell ⟨w.heap.size, 1, none⟩ (.string (s.extract 0 1))).setCell ⟨w.heap.size, 2, none⟩ (.int .i64 0)).setCell ⟨w.heap.size, 3, none⟩ (.int .i64 0))) := (((HB.out.setCell (p := ⟨w.heap.size, 0, none⟩) (Nat.le_refl _) (.int .i64 5)).setCell (p := ⟨w.heap.size, 1, none⟩) (Nat.le_refl _) (.string (s.extract 0 1))).setCell (p := ⟨w.heap.size, 2, none⟩) (Nat.le_refl _) (.int .i64 0)).setCell (p := ⟨w.heap.size, 3, none⟩) (Nat.le_refl _) (.int .i64 0)
   generalize ((((w2.setCell ⟨w.heap.size, 0, none⟩ (.int .i64 5)).setCell ⟨w.heap.size, 1, none⟩ (.string (s.extract 0 1))).setCell ⟨w.heap.size, 2, none⟩ (.int .i64 0)).setCell ⟨w.heap.size, 3, none⟩ (.int .i64 0)) = wf at *
   have g0 := HZF.out.cell 0
   have g1 := HZF.out.cell 1
   have g2 := HZF.out.cell 2
   have g3 := HZF.out.cell 3
   simp only [List.getElem?_toArray, List.getElem?_cons_zero, List.getElem?_cons_succ] at g0 g1 g2 g3
   exact bodyPost_ret (v := .tuple #[tkV 5 (s.extract 0 1) 0 0, .int .i64 1, .int .i64 0]) (by simp [results, Try.results49, go_sem, tkV, g0, g1, g2, g3]) rfl ⟨5, 0, 1, (s.extract 0 1), rfl, HBF.out, fun _ => ⟨rfl, HX.out, rfl, rfl⟩⟩
 ·have q45 : ((s[0].toNat : Int) == 45) = false := u8_ne s[0] 45 h45
  clear h45 ha
  go_enter Try.func49, Try.ntmps49
  go_upto_region 32 with (first
   | (go_at_call 61; refine (CD.out _).mono ?_; rintro e w1 ⟨rfl, rfl⟩)
   | (go_at_call 63; refine (CM.out _).mono ?_; rintro e w1 ⟨rfl, rfl⟩)
   | (go_at_call 64; refine (CG.out _).mono ?_; rintro e w1 ⟨rfl, rfl⟩)
   | (go_at_call 66; refine (CI.out _).mono ?_; rintro e w1 ⟨rfl, rfl⟩))
  have hr := HRR.out
  subst hr
  clear HRR
  generalize w.alloc (.cells #[.int .i64 0, .string ⟨#[]⟩, .int .i64 0, .int .i64 0] 67) = w2 at *
  have z0 : w2.cell? ⟨w.heap.size, 0, none⟩ = some (.int .i64 0) := HZ.out.cell 0
  have z1 : w2.cell? ⟨w.heap.size, 1, none⟩ = some (.string ⟨#[]⟩) := HZ.out.cell 1
  have z2 : w2.cell? ⟨w.heap.size, 2, none⟩ = some (.int .i64 0) := HZ.out.cell 2
  have z3 : w2.cell? ⟨w.heap.size, 3, none⟩ = some (.int .i64 0) := HZ.out.cell 3
  have y0 := HZ.out.free 0
  have y1 := HZ.out.free 1
  have y2 := HZ.out.free 2
  have y3 := HZ.out.free 3
  go_wp2_with fail
  have HZF : Hid (Whole ((((w2.setCell ⟨w.heap.size, 0, none⟩ (.int .i64 5)).setCell ⟨w.heap.size, 1, none⟩ (.string (s.extract 0 1))).setCell ⟨w.heap.size, 2, none⟩ (.int .i64 0)).setCell ⟨w.heap.size, 3, none⟩ (.int .i64 0)) w.heap.size 67 #[.int .i64 5, .string (s.extract 0 1), .int .i64 0, .int .i64 0]) := (((Whole.put (w := w2) HZ.out 0 (.int .i64 5)).put 1 (.string (s.extract 0 1))).put 2 (.int .i64 0)).put 3 (.int .i64 0)
  have HBF : Hid (Below w.heap.size w ((((w2.setCell ⟨w.heap.size, 0, none⟩ (.int .i64 5)).setCell ⟨w.heap.size, 1, none⟩ (.string (s.extract 0 1))).setCell ⟨w.heap.size, 2, none⟩ (.int .i64 0)).setCell ⟨w.heap.size, 3, none⟩ (.int .i64 0))) := (((HB.out.setCell (p := ⟨w.heap.size, 0, none⟩) (Nat.le_refl _) (.int .i64 5)).setCell (p := ⟨w.heap.size, 1, none⟩) (Nat.le_refl _) (.string (s.extract 0 1))).setCell (p := ⟨w.heap.size, 2, none⟩) (Nat.le_refl _) (.int .i64 0)).setCell (p := ⟨w.heap.size, 3, none⟩) (Nat.le_refl _) (.int .i64 0)
  generalize ((((w2.setCell ⟨w.heap.size, 0, none⟩ (.int .i64 5)).setCell ⟨w.heap.size, 1, none⟩ (.string (s.extract 0 1))).setCell ⟨w.heap.size, 2, none⟩ (.int .i64 0)).setCell ⟨w.heap.size, 3, none⟩ (.int .i64 0)) = wf at *
  have g0 := HZF.out.cell 0
  have g1 := HZF.out.cell 1
  have g2 := HZF.out.cell 2
  have g3 := HZF.out.cell 3
  simp only [List.getElem?_toArray, List.getElem?_cons_zero, List.getElem?_cons_succ] at g0 g1 g2 g3
  exact bodyPost_ret (v := .tuple #[tkV 5 (s.extract 0 1) 0 0, .int .i64 1, .int .i64 0]) (by simp [results, Try.results49, go_sem, tkV, g0, g1, g2, g3]) rfl ⟨5, 0, 1, (s.extract 0 1), rfl, HBF.out, fun _ => ⟨rfl, HX.out, rfl, rfl⟩⟩
attribute [local go_sem ↓] Go.wp_at_zero Go.wp_at_succ
theorem ext_take (s : ByteArray) (k : Nat) : s.extract 0 k = ⟨(s.data.toList.take k).toArray⟩ := by
 refine ba_ext ?_
 rw [ByteArray.data_extract, Array.toList_extract]; simp [List.extract]
set_option maxRecDepth 100000 in
set_option maxHeartbeats 40000000 in
theorem rtoken_name (w : World) (s : ByteArray) (c : UInt8) (hs : s.size ≤ 10000) (h0 : 0 < s.size) (hc : s[0] = c) (h1 : digB c = false) (h2 : c ≠ 34) (hl : (smaB c || larB c) = true) : Calls Try.prog 49 #[.string s] w (RTok (tokF s.data.toList) w) := by
 have he : tokF s.data.toList = if 16 < runN innB s 0 then ⟨0, [], 0, 0, 12⟩ else ⟨nameK c (s.data.toList.take (runN innB s 0)), s.data.toList.take (runN innB s 0), 0, runN innB s 0, 0⟩ := by
  have h3 := list0 s h0
  rw [← take_run]
  unfold runN
  rw [List.drop_zero, h3, hc]; exact tok_name c _ h1 h2 hl
 obtain ⟨r, hr⟩ : ∃ r, tokF s.data.toList = r := ⟨_, rfl⟩
 rw [hr] at he ⊢
 clear hr
 have hin : innB s[0] = true := by rw [hc]; unfold innB; rw [hl]; rfl
 have hrl := runN_le innB s 0 (Nat.zero_le _)
 obtain ⟨N, hN⟩ : ∃ N, runN innB s 0 = N := ⟨_, rfl⟩
 rw [hN] at hrl he
 have HN := Lib.hid hN
 have HRR := Lib.hid he
 have HI := Lib.hid hin
 clear hN he hin
 subst hc
 have i0 : (0 : Int) < (s.size : Int) := by omega
 have q34 : ((s[0].toNat : Int) == 34) = false := u8_ne s[0] 34 h2
 have CD : Hid (∀ wx : World, Calls Try.prog 61 #[.int .u8 (s[0].toNat : Int)] wx fun e w' => e = .returned (.bool false) ∧ wx = w') := fun wx => (rdigit_any _ wx).mono fun e w' ⟨a, b⟩ => ⟨by rw [a, h1], b⟩
 have CM : Hid (∀ wx : World, Calls Try.prog 63 #[.int .u8 (s[0].toNat : Int)] wx fun e w' => e = .returned (.bool (smaB s[0])) ∧ wx = w') := fun wx => rsmall_any _ wx
 have CG : Hid (∀ wx : World, Calls Try.prog 64 #[.int .u8 (s[0].toNat : Int)] wx fun e w' => e = .returned (.bool (larB s[0])) ∧ wx = w') := fun wx => rlarge_any _ wx
 have HZ : Hid (Whole (w.alloc (.cells #[.int .i64 0, .string ⟨#[]⟩, .int .i64 0, .int .i64 0] 67)) w.heap.size 67 #[.int .i64 0, .string ⟨#[]⟩, .int .i64 0, .int .i64 0]) := Whole.made _ _ _
 have HB : Hid (Below w.heap.size w (w.alloc (.cells #[.int .i64 0, .string ⟨#[]⟩, .int .i64 0, .int .i64 0] 67))) := (Below.refl _ _).alloc (Nat.le_refl _) _
 have HLT : Hid (smaB s[0] = true ∨ smaB s[0] = false ∧ larB s[0] = true) := by
  show _ ∨ _
  rcases hq : smaB s[0] with _ | _
  ·rw [hq, Bool.false_or] at hl; exact .inr ⟨rfl, hl⟩
  ·exact .inl rfl
 clear h1 h2 hl
 generalize hb1 : smaB s[0] = b1 at *
 generalize hb2 : larB s[0] = b2 at *
 have HB2 := Lib.hid hb2
 clear hb1 hb2
 go_enter Try.func49, Try.ntmps49
 go_upto_region 18 with (first
  | (go_at_call 61; refine (CD.out _).mono ?_; rintro e w1 ⟨rfl, rfl⟩)
  | (go_at_call 63; refine (CM.out _).mono ?_; rintro e w1 ⟨rfl, rfl⟩)
  | (go_at_call 64; refine (CG.out _).mono ?_; rintro e w1 ⟨rfl, rfl⟩))
 generalize w.alloc (.cells #[.int .i64 0, .string ⟨#[]⟩, .int .i64 0, .int .i64 0] 67) = w2 at *
 go_cut [70] (fun x wx => x = .bool true ∧ w2 = wx)
 case first =>
  rcases HLT.out with rfl | ⟨rfl, rfl⟩
  all_goals
   go_wp2_with (first
     | (go_at_call 61; refine (CD.out _).mono ?_; rintro e w1 ⟨rfl, rfl⟩)
     | (go_at_call 63; refine (CM.out _).mono ?_; rintro e w1 ⟨rfl, rfl⟩)
     | (go_at_call 64; refine (CG.out _).mono ?_; rintro e w1 ⟨rfl, rfl⟩))
   go_meet
   exact ⟨rfl, rfl⟩
 case rest =>
  obtain ⟨rfl, rfl⟩ := hcut
  clear HLT
  go_wp2_with fail
  go_loopg [6] (s.size - 1) (fun gk ks wr => ∃ k : Nat, ks = .int .i64 (k : Int) ∧ 1 ≤ k ∧ k + gk = s.size ∧ (∀ j, 0 ≤ j → j < k → ∀ h : j < s.size, innB s[j] = true) ∧ w2 = wr)
  case atStart => exact ⟨1, rfl, Nat.le_refl _, by omega, fun j _ h1 h => by obtain rfl : j = 0 := by omega
                                                                             exact HI.out, rfl⟩
  case round =>
   obtain ⟨k, rfl, hk1, hkg, hp, hw⟩ := hrel
   subst hw
   have HP := Lib.hid hp
   clear hp
   obtain ⟨b, hb⟩ : ∃ b : Bool, b = if h : k < s.size then innB s[k] else false := ⟨_, rfl⟩
   have HBV := Lib.hid hb
   clear hb
   go_upto_region 19 with (fail)
   go_cut [98] (fun x wx => x = .bool b ∧ w2 = wx)
   case first =>
    by_cases hlt : k < s.size
    ·have d1 : decide ((k : Int) < (s.size : Int)) = true := decide_eq_true (by omega)
     have d1n : decide (k < s.size) = true := decide_eq_true hlt
     have i1 : (0 : Int) ≤ (k : Int) := by omega
     have i2 : (k : Int) < (s.size : Int) := by omega
     have KM : Hid (∀ wx : World, Calls Try.prog 63 #[.int .u8 (s[k].toNat : Int)] wx fun e w' => e = .returned (.bool (smaB s[k])) ∧ wx = w') := fun wx => rsmall_any _ wx
     have KG : Hid (∀ wx : World, Calls Try.prog 64 #[.int .u8 (s[k].toNat : Int)] wx fun e w' => e = .returned (.bool (larB s[k])) ∧ wx = w') := fun wx => rlarge_any _ wx
     have KD : Hid (∀ wx : World, Calls Try.prog 61 #[.int .u8 (s[k].toNat : Int)] wx fun e w' => e = .returned (.bool (digB s[k])) ∧ wx = w') := fun wx => rdigit_any _ wx
     have hq95 : ((s[k].toNat : Int) == 95) = (s[k] == 95) := by
      by_cases h : s[k] = 95
      ·exact (show ((s[k].toNat : Int) == 95) = true from u8_eq s[k] 95 h).trans (beq_iff_eq.2 h).symm
      ·exact (show ((s[k].toNat : Int) == 95) = false from u8_ne s[k] 95 h).trans (beq_eq_false_iff_ne.2 h).symm
     have hb : b = (smaB s[k] || larB s[k] || digB s[k] || s[k] == 95) := by rw [HBV.out, dif_pos hlt]; rfl
     clear HBV HP
     generalize smaB s[k] = x1 at *
     generalize larB s[k] = x2 at *
     generalize digB s[k] = x3 at *
     generalize (s[k] == 95) = x4 at *
     subst hb
     rcases x1 with _ | _
     ·rcases x2 with _ | _
      ·rcases x3 with _ | _
       ·rcases x4 with _ | _
        ·go_wp2_with (first
           | (go_at_call 63; refine (KM.out _).mono ?_; rintro e w1 ⟨rfl, rfl⟩)
           | (go_at_call 64; refine (KG.out _).mono ?_; rintro e w1 ⟨rfl, rfl⟩)
           | (go_at_call 61; refine (KD.out _).mono ?_; rintro e w1 ⟨rfl, rfl⟩))
         go_meet
         exact ⟨rfl, rfl⟩
        ·go_wp2_with (first
           | (go_at_call 63; refine (KM.out _).mono ?_; rintro e w1 ⟨rfl, rfl⟩)
           | (go_at_call 64; refine (KG.out _).mono ?_; rintro e w1 ⟨rfl, rfl⟩)
           | (go_at_call 61; refine (KD.out _).mono ?_; rintro e w1 ⟨rfl, rfl⟩))
         go_meet
         exact ⟨rfl, rfl⟩
       ·go_wp2_with (first
          | (go_at_call 63; refine (KM.out _).mono ?_; rintro e w1 ⟨rfl, rfl⟩)
          | (go_at_call 64; refine (KG.out _).mono ?_; rintro e w1 ⟨rfl, rfl⟩)
          | (go_at_call 61; refine (KD.out _).mono ?_; rintro e w1 ⟨rfl, rfl⟩))
        go_meet
        exact ⟨rfl, rfl⟩
      ·go_wp2_with (first
         | (go_at_call 63; refine (KM.out _).mono ?_; rintro e w1 ⟨rfl, rfl⟩)
         | (go_at_call 64; refine (KG.out _).mono ?_; rintro e w1 ⟨rfl, rfl⟩)
         | (go_at_call 61; refine (KD.out _).mono ?_; rintro e w1 ⟨rfl, rfl⟩))
       go_meet
       exact ⟨rfl, rfl⟩
     ·go_wp2_with (first
        | (go_at_call 63; refine (KM.out _).mono ?_; rintro e w1 ⟨rfl, rfl⟩)
        | (go_at_call 64; refine (KG.out _).mono ?_; rintro e w1 ⟨rfl, rfl⟩)
        | (go_at_call 61; refine (KD.out _).mono ?_; rintro e w1 ⟨rfl, rfl⟩))
      go_meet
      exact ⟨rfl, rfl⟩
    ·have d1 : decide ((k : Int) < (s.size : Int)) = false := decide_eq_false (by omega)
     have d1n : decide (k < s.size) = false := decide_eq_false hlt
     have hb : b = false := by rw [HBV.out, dif_neg hlt]
     subst hb
     clear HBV HP
     go_wp2_with fail
     go_meet
     exact ⟨rfl, rfl⟩
   case rest =>
    obtain ⟨rfl, rfl⟩ := hcut
    rcases b with _ | _
    ·have HE : Hid (k = 0 + runN innB s 0) := run_len (Nat.zero_le _) (by omega) HP.out (fun h => by have := HBV.out; rw [dif_pos h] at this; exact this.symm)
     clear HBV
     have hkN : k = N := by have := HE.out; have := HN.out; omega
     clear HP HE HN HI
     subst hkN
     by_cases hbig : 16 < k
     ·have e1 : decide ((16 : Int) < (k : Int)) = true := decide_eq_true (by omega)
      have e1n : decide (16 < k) = true := decide_eq_true hbig
      have hr := HRR.out
      rw [if_pos hbig] at hr
      subst hr
      clear HRR hbig CG CM CD
      have z0 : w2.cell? ⟨w.heap.size, 0, none⟩ = some (.int .i64 0) := HZ.out.cell 0
      have z1 : w2.cell? ⟨w.heap.size, 1, none⟩ = some (.string ⟨#[]⟩) := HZ.out.cell 1
      have z2 : w2.cell? ⟨w.heap.size, 2, none⟩ = some (.int .i64 0) := HZ.out.cell 2
      have z3 : w2.cell? ⟨w.heap.size, 3, none⟩ = some (.int .i64 0) := HZ.out.cell 3
      have y0 := HZ.out.free 0
      have y1 := HZ.out.free 1
      have y2 := HZ.out.free 2
      have y3 := HZ.out.free 3
      go_wp2_with (fail)
      have HZF : Hid (Whole ((((w2.setCell ⟨w.heap.size, 0, none⟩ (.int .i64 0)).setCell ⟨w.heap.size, 1, none⟩ (.string ⟨#[]⟩)).setCell ⟨w.heap.size, 2, none⟩ (.int .i64 0)).setCell ⟨w.heap.size, 3, none⟩ (.int .i64 0)) w.heap.size 67 #[.int .i64 0, .string ⟨#[]⟩, .int .i64 0, .int .i64 0]) := (((Whole.put (w := w2) HZ.out 0 (.int .i64 0)).put 1 (.string ⟨#[]⟩)).put 2 (.int .i64 0)).put 3 (.int .i64 0)
      have HBF : Hid (Below w.heap.size w ((((w2.setCell ⟨w.heap.size, 0, none⟩ (.int .i64 0)).setCell ⟨w.heap.size, 1, none⟩ (.string ⟨#[]⟩)).setCell ⟨w.heap.size, 2, none⟩ (.int .i64 0)).setCell ⟨w.heap.size, 3, none⟩ (.int .i64 0))) := (((HB.out.setCell (p := ⟨w.heap.size, 0, none⟩) (Nat.le_refl _) (.int .i64 0)).setCell (p := ⟨w.heap.size, 1, none⟩) (Nat.le_refl _) (.string ⟨#[]⟩)).setCell (p := ⟨w.heap.size, 2, none⟩) (Nat.le_refl _) (.int .i64 0)).setCell (p := ⟨w.heap.size, 3, none⟩) (Nat.le_refl _) (.int .i64 0)
      generalize ((((w2.setCell ⟨w.heap.size, 0, none⟩ (.int .i64 0)).setCell ⟨w.heap.size, 1, none⟩ (.string ⟨#[]⟩)).setCell ⟨w.heap.size, 2, none⟩ (.int .i64 0)).setCell ⟨w.heap.size, 3, none⟩ (.int .i64 0)) = wf at *
      have g0 := HZF.out.cell 0
      have g1 := HZF.out.cell 1
      have g2 := HZF.out.cell 2
      have g3 := HZF.out.cell 3
      simp only [List.getElem?_toArray, List.getElem?_cons_zero, List.getElem?_cons_succ] at g0 g1 g2 g3
      exact bodyPost_ret (v := .tuple #[tkV 0 ⟨#[]⟩ 0 0, .int .i64 0, .int .i64 12]) (by simp [results, Try.results49, go_sem, tkV, g0, g1, g2, g3]) rfl ⟨0, 0, 0, ⟨#[]⟩, rfl, HBF.out, fun h => absurd h (by decide)⟩
     ·have e1 : decide ((16 : Int) < (k : Int)) = false := decide_eq_false (by omega)
      have e1n : decide (16 < k) = false := decide_eq_false hbig
      have hr := HRR.out
      rw [if_neg hbig] at hr
      have j1 : (0 : Int) ≤ (k : Int) := by omega
      have j2 : (k : Int) ≤ (s.size : Int) := by omega
      clear HRR hbig CM CD
      obtain ⟨X, hX⟩ : ∃ X, s.extract 0 k = X := ⟨_, rfl⟩
      have HX : Hid (X = ⟨(s.data.toList.take k).toArray⟩) := by rw [← hX]; exact ext_take s k
      rcases b2 with _ | _
      ·have CK := Lib.hid (fun wx => rkey_any X wx)
       have hkx : X.data.toList = s.data.toList.take k := by rw [HX.out]
       rw [← hkx] at hr
       unfold nameK at hr
       rw [HB2.out, if_neg (by decide)] at hr
       rcases hkey : keyB X.data.toList with _ | _
       ·rw [hkey, if_neg (by decide)] at hr
        rw [hkey] at CK
        have HX2 : Hid (X = ⟨X.data.toList.toArray⟩) := ba_list X
        subst hr
        clear hkey hkx HX HB2
        have HX := HX2
        clear HX2
        go_upto_region 24 with (fail)
        have HT3 : Hid (Whole (w2.alloc (Obj.cells #[.int .i64 3, .string X, .int .i64 0, .int .i64 0] 67)) w2.heap.size 67 #[.int .i64 3, .string X, .int .i64 0, .int .i64 0]) := Whole.made _ _ _
        have HZ3 := Lib.hid (HZ.out.alloc (Obj.cells #[.int .i64 3, .string X, .int .i64 0, .int .i64 0] 67))
        have HB3 := Lib.hid (HB.out.alloc (Nat.le_of_lt HZ.out.lt) (Obj.cells #[.int .i64 3, .string X, .int .i64 0, .int .i64 0] 67))
        have HNE : Hid (w.heap.size < w2.heap.size) := HZ.out.lt
        clear HZ HB
        generalize w2.alloc (Obj.cells #[.int .i64 3, .string X, .int .i64 0, .int .i64 0] 67) = w3 at *
        generalize w2.heap.size = T at *
        go_upto_region 28 with (first
          | (go_at_call 64; refine (CG.out _).mono ?_; rintro e w1 ⟨rfl, rfl⟩)
          | (go_at_call 65; refine (CK.out _).mono ?_; rintro e w4 ⟨rfl, h4⟩; have H4 := Lib.hid h4; clear h4))
        have HT := Lib.hid (HT3.out.below H4.out HT3.out.lt)
        have HZ := Lib.hid (HZ3.out.below H4.out HZ3.out.lt)
        have HB := Lib.hid (HB3.out.trans (H4.out.mono HB3.out.size))
        clear HT3 HZ3 HB3 H4 CK CG
        generalize w4 = w5 at *
        have t0 : w5.cell? ⟨T, 0, none⟩ = some (.int .i64 3) := HT.out.cell 0
        have t1 : w5.cell? ⟨T, 1, none⟩ = some (.string X) := HT.out.cell 1
        have t2 : w5.cell? ⟨T, 2, none⟩ = some (.int .i64 0) := HT.out.cell 2
        have t3 : w5.cell? ⟨T, 3, none⟩ = some (.int .i64 0) := HT.out.cell 3
        have z0 : w5.cell? ⟨w.heap.size, 0, none⟩ = some (.int .i64 0) := HZ.out.cell 0
        have z1 : w5.cell? ⟨w.heap.size, 1, none⟩ = some (.string ⟨#[]⟩) := HZ.out.cell 1
        have z2 : w5.cell? ⟨w.heap.size, 2, none⟩ = some (.int .i64 0) := HZ.out.cell 2
        have z3 : w5.cell? ⟨w.heap.size, 3, none⟩ = some (.int .i64 0) := HZ.out.cell 3
        have y0 := HZ.out.free 0
        have y1 := HZ.out.free 1
        have y2 := HZ.out.free 2
        have y3 := HZ.out.free 3
        go_wp2_with fail
        have HZF : Hid (Whole ((((w5.setCell ⟨w.heap.size, 0, none⟩ (.int .i64 3)).setCell ⟨w.heap.size, 1, none⟩ (.string X)).setCell ⟨w.heap.size, 2, none⟩ (.int .i64 0)).setCell ⟨w.heap.size, 3, none⟩ (.int .i64 0)) w.heap.size 67 #[.int .i64 3, .string X, .int .i64 0, .int .i64 0]) := (((Whole.put (w := w5) HZ.out 0 (.int .i64 3)).put 1 (.string X)).put 2 (.int .i64 0)).put 3 (.int .i64 0)
        have HBF : Hid (Below w.heap.size w ((((w5.setCell ⟨w.heap.size, 0, none⟩ (.int .i64 3)).setCell ⟨w.heap.size, 1, none⟩ (.string X)).setCell ⟨w.heap.size, 2, none⟩ (.int .i64 0)).setCell ⟨w.heap.size, 3, none⟩ (.int .i64 0))) := (((HB.out.setCell (p := ⟨w.heap.size, 0, none⟩) (Nat.le_refl _) (.int .i64 3)).setCell (p := ⟨w.heap.size, 1, none⟩) (Nat.le_refl _) (.string X)).setCell (p := ⟨w.heap.size, 2, none⟩) (Nat.le_refl _) (.int .i64 0)).setCell (p := ⟨w.heap.size, 3, none⟩) (Nat.le_refl _) (.int .i64 0)
        generalize ((((w5.setCell ⟨w.heap.size, 0, none⟩ (.int .i64 3)).setCell ⟨w.heap.size, 1, none⟩ (.string X)).setCell ⟨w.heap.size, 2, none⟩ (.int .i64 0)).setCell ⟨w.heap.size, 3, none⟩ (.int .i64 0)) = wf at *
        have g0 := HZF.out.cell 0
        have g1 := HZF.out.cell 1
        have g2 := HZF.out.cell 2
        have g3 := HZF.out.cell 3
        simp only [List.getElem?_toArray, List.getElem?_cons_zero, List.getElem?_cons_succ] at g0 g1 g2 g3
        exact bodyPost_ret (v := .tuple #[tkV 3 X 0 0, .int .i64 (k : Int), .int .i64 0]) (by simp [results, Try.results49, go_sem, tkV, g0, g1, g2, g3]) rfl ⟨3, 0, (k : Int), X, rfl, HBF.out, fun _ => ⟨rfl, ba_list X, rfl, rfl⟩⟩
       ·rw [hkey, if_pos rfl] at hr
        rw [hkey] at CK
        have HX2 : Hid (X = ⟨X.data.toList.toArray⟩) := ba_list X
        subst hr
        clear hkey hkx HX HB2
        have HX := HX2
        clear HX2
        go_upto_region 24 with (fail)
        have HT3 : Hid (Whole (w2.alloc (Obj.cells #[.int .i64 3, .string X, .int .i64 0, .int .i64 0] 67)) w2.heap.size 67 #[.int .i64 3, .string X, .int .i64 0, .int .i64 0]) := Whole.made _ _ _
        have HZ3 := Lib.hid (HZ.out.alloc (Obj.cells #[.int .i64 3, .string X, .int .i64 0, .int .i64 0] 67))
        have HB3 := Lib.hid (HB.out.alloc (Nat.le_of_lt HZ.out.lt) (Obj.cells #[.int .i64 3, .string X, .int .i64 0, .int .i64 0] 67))
        have HNE : Hid (w.heap.size < w2.heap.size) := HZ.out.lt
        clear HZ HB
        generalize w2.alloc (Obj.cells #[.int .i64 3, .string X, .int .i64 0, .int .i64 0] 67) = w3 at *
        generalize w2.heap.size = T at *
        go_upto_region 27 with (first
          | (go_at_call 64; refine (CG.out _).mono ?_; rintro e w1 ⟨rfl, rfl⟩)
          | (go_at_call 65; refine (CK.out _).mono ?_; rintro e w4 ⟨rfl, h4⟩; have H4 := Lib.hid h4; clear h4))
        have HT := Lib.hid (HT3.out.below H4.out HT3.out.lt)
        have HZ := Lib.hid (HZ3.out.below H4.out HZ3.out.lt)
        have HB := Lib.hid (HB3.out.trans (H4.out.mono HB3.out.size))
        clear HT3 HZ3 HB3 H4 CK CG
        have t0 : w4.cell? ⟨T, 0, none⟩ = some (.int .i64 3) := HT.out.cell 0
        have f0 := HT.out.free 0
        go_upto_region 28 with (fail)
        clear t0 f0
        have HT4 := Lib.hid (HT.out.put 0 (.int .i64 6))
        have HZ4 := Lib.hid (HZ.out.far (p := ⟨T, 0, none⟩) (Nat.ne_of_lt HNE.out) (.int .i64 6))
        have HB4 := Lib.hid (HB.out.setCell (p := ⟨T, 0, none⟩) (Nat.le_of_lt HNE.out) (.int .i64 6))
        clear HT HZ HB
        have HT := HT4
        have HZ := HZ4
        have HB := HB4
        clear HT4 HZ4 HB4
        generalize w4.setCell ⟨T, 0, none⟩ (.int .i64 6) = w5 at *
        have t0 : w5.cell? ⟨T, 0, none⟩ = some (.int .i64 6) := HT.out.cell 0
        have t1 : w5.cell? ⟨T, 1, none⟩ = some (.string X) := HT.out.cell 1
        have t2 : w5.cell? ⟨T, 2, none⟩ = some (.int .i64 0) := HT.out.cell 2
        have t3 : w5.cell? ⟨T, 3, none⟩ = some (.int .i64 0) := HT.out.cell 3
        have z0 : w5.cell? ⟨w.heap.size, 0, none⟩ = some (.int .i64 0) := HZ.out.cell 0
        have z1 : w5.cell? ⟨w.heap.size, 1, none⟩ = some (.string ⟨#[]⟩) := HZ.out.cell 1
        have z2 : w5.cell? ⟨w.heap.size, 2, none⟩ = some (.int .i64 0) := HZ.out.cell 2
        have z3 : w5.cell? ⟨w.heap.size, 3, none⟩ = some (.int .i64 0) := HZ.out.cell 3
        have y0 := HZ.out.free 0
        have y1 := HZ.out.free 1
        have y2 := HZ.out.free 2
        have y3 := HZ.out.free 3
        go_wp2_with fail
        have HZF : Hid (Whole ((((w5.setCell ⟨w.heap.size, 0, none⟩ (.int .i64 6)).setCell ⟨w.heap.size, 1, none⟩ (.string X)).setCell ⟨w.heap.size, 2, none⟩ (.int .i64 0)).setCell ⟨w.heap.size, 3, none⟩ (.int .i64 0)) w.heap.size 67 #[.int .i64 6, .string X, .int .i64 0, .int .i64 0]) := (((Whole.put (w := w5) HZ.out 0 (.int .i64 6)).put 1 (.string X)).put 2 (.int .i64 0)).put 3 (.int .i64 0)
        have HBF : Hid (Below w.heap.size w ((((w5.setCell ⟨w.heap.size, 0, none⟩ (.int .i64 6)).setCell ⟨w.heap.size, 1, none⟩ (.string X)).setCell ⟨w.heap.size, 2, none⟩ (.int .i64 0)).setCell ⟨w.heap.size, 3, none⟩ (.int .i64 0))) := (((HB.out.setCell (p := ⟨w.heap.size, 0, none⟩) (Nat.le_refl _) (.int .i64 6)).setCell (p := ⟨w.heap.size, 1, none⟩) (Nat.le_refl _) (.string X)).setCell (p := ⟨w.heap.size, 2, none⟩) (Nat.le_refl _) (.int .i64 0)).setCell (p := ⟨w.heap.size, 3, none⟩) (Nat.le_refl _) (.int .i64 0)
        generalize ((((w5.setCell ⟨w.heap.size, 0, none⟩ (.int .i64 6)).setCell ⟨w.heap.size, 1, none⟩ (.string X)).setCell ⟨w.heap.size, 2, none⟩ (.int .i64 0)).setCell ⟨w.heap.size, 3, none⟩ (.int .i64 0)) = wf at *
        have g0 := HZF.out.cell 0
        have g1 := HZF.out.cell 1
        have g2 := HZF.out.cell 2
        have g3 := HZF.out.cell 3
        simp only [List.getElem?_toArray, List.getElem?_cons_zero, List.getElem?_cons_succ] at g0 g1 g2 g3
        exact bodyPost_ret (v := .tuple #[tkV 6 X 0 0, .int .i64 (k : Int), .int .i64 0]) (by simp [results, Try.results49, go_sem, tkV, g0, g1, g2, g3]) rfl ⟨6, 0, (k : Int), X, rfl, HBF.out, fun _ => ⟨rfl, ba_list X, rfl, rfl⟩⟩
      ·have hkx : X.data.toList = s.data.toList.take k := by rw [HX.out]
       rw [← hkx] at hr
       unfold nameK at hr
       rw [HB2.out, if_pos rfl] at hr
       have HX2 : Hid (X = ⟨X.data.toList.toArray⟩) := ba_list X
       subst hr
       clear hkx HX HB2
       have HX := HX2
       clear HX2
       go_upto_region 24 with (fail)
       have HT3 : Hid (Whole (w2.alloc (Obj.cells #[.int .i64 3, .string X, .int .i64 0, .int .i64 0] 67)) w2.heap.size 67 #[.int .i64 3, .string X, .int .i64 0, .int .i64 0]) := Whole.made _ _ _
       have HZ3 := Lib.hid (HZ.out.alloc (Obj.cells #[.int .i64 3, .string X, .int .i64 0, .int .i64 0] 67))
       have HB3 := Lib.hid (HB.out.alloc (Nat.le_of_lt HZ.out.lt) (Obj.cells #[.int .i64 3, .string X, .int .i64 0, .int .i64 0] 67))
       have HNE : Hid (w.heap.size < w2.heap.size) := HZ.out.lt
       clear HZ HB
       generalize w2.alloc (Obj.cells #[.int .i64 3, .string X, .int .i64 0, .int .i64 0] 67) = w3 at *
       generalize w2.heap.size = T at *
       have t0 : w3.cell? ⟨T, 0, none⟩ = some (.int .i64 3) := HT3.out.cell 0
       have f0 := HT3.out.free 0
       go_upto_region 28 with (go_at_call 64; refine (CG.out _).mono ?_; rintro e w1 ⟨rfl, rfl⟩)
       clear t0 f0 CG
       have HT := Lib.hid (HT3.out.put 0 (.int .i64 4))
       have HZ := Lib.hid (HZ3.out.far (p := ⟨T, 0, none⟩) (Nat.ne_of_lt HNE.out) (.int .i64 4))
       have HB := Lib.hid (HB3.out.setCell (p := ⟨T, 0, none⟩) (Nat.le_of_lt HNE.out) (.int .i64 4))
       clear HT3 HZ3 HB3
       generalize w3.setCell ⟨T, 0, none⟩ (.int .i64 4) = w5 at *
       have t0 : w5.cell? ⟨T, 0, none⟩ = some (.int .i64 4) := HT.out.cell 0
       have t1 : w5.cell? ⟨T, 1, none⟩ = some (.string X) := HT.out.cell 1
       have t2 : w5.cell? ⟨T, 2, none⟩ = some (.int .i64 0) := HT.out.cell 2
       have t3 : w5.cell? ⟨T, 3, none⟩ = some (.int .i64 0) := HT.out.cell 3
       have z0 : w5.cell? ⟨w.heap.size, 0, none⟩ = some (.int .i64 0) := HZ.out.cell 0
       have z1 : w5.cell? ⟨w.heap.size, 1, none⟩ = some (.string ⟨#[]⟩) := HZ.out.cell 1
       have z2 : w5.cell? ⟨w.heap.size, 2, none⟩ = some (.int .i64 0) := HZ.out.cell 2
       have z3 : w5.cell? ⟨w.heap.size, 3, none⟩ = some (.int .i64 0) := HZ.out.cell 3
       have y0 := HZ.out.free 0
       have y1 := HZ.out.free 1
       have y2 := HZ.out.free 2
       have y3 := HZ.out.free 3
       go_wp2_with fail
       have HZF : Hid (Whole ((((w5.setCell ⟨w.heap.size, 0, none⟩ (.int .i64 4)).setCell ⟨w.heap.size, 1, none⟩ (.string X)).setCell ⟨w.heap.size, 2, none⟩ (.int .i64 0)).setCell ⟨w.heap.size, 3, none⟩ (.int .i64 0)) w.heap.size 67 #[.int .i64 4, .string X, .int .i64 0, .int .i64 0]) := (((Whole.put (w := w5) HZ.out 0 (.int .i64 4)).put 1 (.string X)).put 2 (.int .i64 0)).put 3 (.int .i64 0)
       have HBF : Hid (Below w.heap.size w ((((w5.setCell ⟨w.heap.size, 0, none⟩ (.int .i64 4)).setCell ⟨w.heap.size, 1, none⟩ (.string X)).setCell ⟨w.heap.size, 2, none⟩ (.int .i64 0)).setCell ⟨w.heap.size, 3, none⟩ (.int .i64 0))) := (((HB.out.setCell (p := ⟨w.heap.size, 0, none⟩) (Nat.le_refl _) (.int .i64 4)).setCell (p := ⟨w.heap.size, 1, none⟩) (Nat.le_refl _) (.string X)).setCell (p := ⟨w.heap.size, 2, none⟩) (Nat.le_refl _) (.int .i64 0)).setCell (p := ⟨w.heap.size, 3, none⟩) (Nat.le_refl _) (.int .i64 0)
       generalize ((((w5.setCell ⟨w.heap.size, 0, none⟩ (.int .i64 4)).setCell ⟨w.heap.size, 1, none⟩ (.string X)).setCell ⟨w.heap.size, 2, none⟩ (.int .i64 0)).setCell ⟨w.heap.size, 3, none⟩ (.int .i64 0)) = wf at *
       have g0 := HZF.out.cell 0
       have g1 := HZF.out.cell 1
       have g2 := HZF.out.cell 2
       have g3 := HZF.out.cell 3
       simp only [List.getElem?_toArray, List.getElem?_cons_zero, List.getElem?_cons_succ] at g0 g1 g2 g3
       exact bodyPost_ret (v := .tuple #[tkV 4 X 0 0, .int .i64 (k : Int), .int .i64 0]) (by simp [results, Try.results49, go_sem, tkV, g0, g1, g2, g3]) rfl ⟨4, 0, (k : Int), X, rfl, HBF.out, fun _ => ⟨rfl, ba_list X, rfl, rfl⟩⟩
    ·have hlt : k < s.size := by
      rcases Nat.lt_or_ge k s.size with h | h
      ·exact h
      ·have := HBV.out; rw [dif_neg (by omega)] at this; cases this
     have HP2 : Hid (∀ j, 0 ≤ j → j < k + 1 → ∀ h : j < s.size, innB s[j] = true) := fun j h1 h2 h => by
      rcases Nat.lt_or_ge j k with h3 | h3
      ·exact HP.out j h1 h3 h
      ·obtain rfl : j = k := by omega
       have := HBV.out; rw [dif_pos h] at this; exact this.symm
     clear HP HBV HI CM CG CD
     go_wp2_with fail
     go_roundg (gk - 1)
     case measure => omega
     case rel => exact ⟨k + 1, rfl, by omega, by omega, HP2.out, rfl⟩
attribute [local go_sem ↓] Go.wp_at_zero Go.wp_at_succ
theorem rtoken_any (w : World) (s : ByteArray) (hs : s.size ≤ 10000) (h0 : 0 < s.size) (hq : s[0] = 34 → s.size ≤ 1000) : Calls Try.prog 49 #[.string s] w (RTok (tokF s.data.toList) w) := by
 rcases h1 : digB s[0] with _ | _
 ·by_cases h2 : s[0] = 34
  ·exact rtoken_text w s s[0] hs h0 rfl h2 (hq h2)
  ·rcases h3 : (smaB s[0] || larB s[0]) with _ | _
   ·rcases h4 : signL.contains s[0] with _ | _
    ·exact rtoken_odd w s s[0] hs h0 rfl h1 h2 h3 h4
    ·by_cases h5 : ∃ h1 : 1 < s.size, s[0] = 45 ∧ s[1] = 62
     ·obtain ⟨h5, h6, h7⟩ := h5
      exact rtoken_arrow w s s[0] hs h0 rfl h5 h6 h7
     ·exact rtoken_sign w s s[0] hs h0 rfl h1 h2 h3 h4 (fun a b c => h5 ⟨a, b, c⟩)
   ·exact rtoken_name w s s[0] hs h0 rfl h1 h2 h3
 ·exact rtoken_num w s s[0] hs h0 rfl h1
theorem rest_list (s : ByteArray) (i : Nat) : (s.extract i s.size).data.toList = s.data.toList.drop i := by
 rw [ByteArray.data_extract, Array.toList_extract]
 simp [List.extract]
 exact List.take_of_length_le (by rw [List.length_drop, size_list]; exact Nat.le_refl _)
set_option maxRecDepth 100000 in
set_option maxHeartbeats 8000000 in
theorem rtokens_any (w : World) (s : ByteArray) (hs : s.size ≤ 10000) (hq : ShortQ s.data.toList) :
  Calls Try.prog 33 #[.string s] w fun e w' => ∃ v, e = .returned (.tuple #[v, .int .i64 ((tokensF s.data.toList).2.1 : Int), .int .i64 (tokensF s.data.toList).2.2]) ∧ ToksAt w' w.heap.size v (tokensF s.data.toList).1 ∧ Below w.heap.size w w' := by
 have HQ := Lib.hid hq
 clear hq
 by_cases hbig : 2000 < s.size
 ·have hf : tokensF s.data.toList = ([], 0, 12) := if_pos (by rw [size_list]; exact hbig)
  rw [hf]
  have d1 : decide ((2000 : Int) < (s.size : Int)) = true := decide_eq_true (by omega)
  go_enter Try.func33, Try.ntmps33
  go_wp2_with fail
  go_ret3
  exact ⟨_, rfl, ⟨rfl, .inl ⟨rfl, rfl⟩⟩, Below.refl _ _⟩
 ·have d1 : decide ((2000 : Int) < (s.size : Int)) = false := decide_eq_false (by omega)
  have hf : tokensF s.data.toList = runT s.data.toList 0 [] := by
   show (if _ then _ else _) = _
   rw [if_neg (by rw [size_list]; exact hbig)]; rfl
  rw [hf]
  clear hf
  generalize hF : runT s.data.toList 0 [] = F at *
  have HF := Lib.hid hF
  clear hF
  obtain ⟨ts, p, er⟩ := F
  dsimp only
  go_enter Try.func33, Try.ntmps33
  go_wp2_with fail
  go_loopg [5, 6] (s.size + 1) (fun gk out is wr => ∃ (i : Nat) (acc : List Tok), is = .int .i64 (i : Int) ∧ i ≤ s.size ∧ s.size + 1 ≤ gk + i ∧ runT (s.data.toList.drop i) i acc = (ts, p, er) ∧ acc.length ≤ i ∧
   wr.ownsRow w.heap.size 67 4 out acc.length (mkToks acc) ∧ Below w.heap.size w wr)
  case atStart => exact ⟨0, [], rfl, Nat.zero_le _, Nat.le_refl _, HF.out, Nat.le_refl _, ⟨rfl, .inl ⟨rfl, rfl⟩⟩, Below.refl _ _⟩
  case round =>
   obtain ⟨i, acc, rfl, hi, hgk, htk, hai, ho, hbw⟩ := hrel
   obtain ⟨f, rfl⟩ : ∃ f, gk = f + 1 := ⟨gk - 1, by omega⟩
   have HT := Lib.hid htk
   have HO := Lib.hid ho
   have HB := Lib.hid hbw
   clear htk ho hbw HF
   by_cases hlt : i < s.size
   ·have d2 : decide ((i : Int) < (s.size : Int)) = true := decide_eq_true (by omega)
    have d2n : decide (i < s.size) = true := decide_eq_true hlt
    have i1 : (0 : Int) ≤ (i : Int) := by omega
    have i2 : (i : Int) < (s.size : Int) := by omega
    have hdc := drop_cons s i hlt
    by_cases hbl : s[i] = 32 ∨ s[i] = 9 ∨ s[i] = 10
    ·have HN : Hid (runT (s.data.toList.drop (i + 1)) (i + 1) acc = (ts, p, er)) := by
      show _ = _
      rw [← HT.out]
      have := runT_gap (s.data.toList.drop i) i 1 acc (by rw [List.drop_drop, hdc, gapL_blank _ _ hbl])
      rw [List.drop_drop] at this
      exact this.symm
     clear hdc HT
     rcases hbl with hb | hb | hb
     ·have q1 : ((s[i].toNat : Int) == 32) = true := u8_eq s[i] 32 hb
      clear hb
      go_wp2_with fail
      go_roundg f
      case measure => exact Nat.lt_succ_self _
      case rel => exact ⟨i + 1, acc, rfl, by omega, by omega, HN.out, by omega, HO.out, HB.out⟩
     ·have q1 : ((s[i].toNat : Int) == 32) = false := u8_ne s[i] 32 (by rw [hb]; decide)
      have q2 : ((s[i].toNat : Int) == 9) = true := u8_eq s[i] 9 hb
      clear hb
      go_wp2_with fail
      go_roundg f
      case measure => exact Nat.lt_succ_self _
      case rel => exact ⟨i + 1, acc, rfl, by omega, by omega, HN.out, by omega, HO.out, HB.out⟩
     ·have q1 : ((s[i].toNat : Int) == 32) = false := u8_ne s[i] 32 (by rw [hb]; decide)
      have q2 : ((s[i].toNat : Int) == 9) = false := u8_ne s[i] 9 (by rw [hb]; decide)
      have q3 : ((s[i].toNat : Int) == 10) = true := u8_eq s[i] 10 hb
      clear hb
      go_wp2_with fail
      go_roundg f
      case measure => exact Nat.lt_succ_self _
      case rel => exact ⟨i + 1, acc, rfl, by omega, by omega, HN.out, by omega, HO.out, HB.out⟩
    ·have q1 : ((s[i].toNat : Int) == 32) = false := u8_ne s[i] 32 (fun h => hbl (.inl h))
     have q2 : ((s[i].toNat : Int) == 9) = false := u8_ne s[i] 9 (fun h => hbl (.inr (.inl h)))
     have q3 : ((s[i].toNat : Int) == 10) = false := u8_ne s[i] 10 (fun h => hbl (.inr (.inr h)))
     by_cases h35 : s[i] = 35
     ·have q4 : ((s[i].toNat : Int) == 35) = true := u8_eq s[i] 35 h35
      have hrp := remN_pos s i hlt h35
      have hrl := remN_le s i hi
      have HN : Hid (runT (s.data.toList.drop (i + remN s i)) (i + remN s i) acc = (ts, p, er)) := by
       show _ = _
       rw [← HT.out]
       have := runT_gap (s.data.toList.drop i) i (remN s i) acc (by
        have h := gapL_rem s[i] (s.data.toList.drop (i + 1)) h35
        rw [← hdc] at h
        exact h)
       rw [List.drop_drop] at this
       exact this.symm
      obtain ⟨R, hR⟩ : ∃ R, remN s i = R := ⟨_, rfl⟩
      rw [hR] at HN hrp hrl
      have HR := Lib.hid hR
      have HNB := Lib.hid hbl
      clear hdc HT hbl h35 hR
      go_wp2_with fail
      go_loopg [6] (s.size + 1 - i) (fun hk ks wx => ∃ k : Nat, ks = .int .i64 (k : Int) ∧ i ≤ k ∧ k ≤ s.size ∧ hk + k = s.size + 1 ∧ (∀ j, i ≤ j → j < k → ∀ h : j < s.size, s[j] ≠ 10) ∧ wr = wx)
      case atStart => exact ⟨i, rfl, Nat.le_refl _, by omega, by omega, fun j h1 h2 => by omega, rfl⟩
      case round =>
       obtain ⟨k, rfl, hk1, hk2, hk3, hp, hw⟩ := hrel
       subst hw
       have HP := Lib.hid hp
       clear hp
       by_cases hlt2 : k < s.size
       ·have d3 : decide ((k : Int) < (s.size : Int)) = true := decide_eq_true (by omega)
        have d3n : decide (k < s.size) = true := decide_eq_true hlt2
        have j1 : (0 : Int) ≤ (k : Int) := by omega
        have j2 : (k : Int) < (s.size : Int) := by omega
        by_cases h10 : s[k] = 10
        ·have q5 : ((s[k].toNat : Int) != 10) = false := by rw [bne_eq_false_iff_eq]; exact beq_iff_eq.1 (u8_eq s[k] 10 h10)
         have hkR : k = i + R := by
          have := run_len (P := fun c => decide (c ≠ 10)) hk1 (by omega) (fun j h1 h2 h => decide_eq_true (HP.out j h1 h2 h)) (fun h => decide_eq_false (fun hn => hn h10))
          rw [← HR.out]; exact this
         clear h10 HP HR
         subst hkR
         go_wp2_with fail
         go_roundg f
         case measure => exact Nat.lt_succ_self _
         case rel => exact ⟨i + R, acc, rfl, by omega, by omega, HN.out, by omega, HO.out, HB.out⟩
        ·have q5 : ((s[k].toNat : Int) != 10) = true := by rw [bne_iff_ne]; exact beq_eq_false_iff_ne.1 (u8_ne s[k] 10 h10)
         have HP2 : Hid (∀ j, i ≤ j → j < k + 1 → ∀ h : j < s.size, s[j] ≠ 10) := fun j h1 h2 h => by
          rcases Nat.lt_or_ge j k with h3 | h3
          ·exact HP.out j h1 h3 h
          ·obtain rfl : j = k := by omega
           exact h10
         clear h10 HP HR HN
         go_wp2_with fail
         go_roundg (gk - 1)
         case measure => omega
         case rel => exact ⟨k + 1, rfl, by omega, by omega, by omega, HP2.out, rfl⟩
       ·have d3 : decide ((k : Int) < (s.size : Int)) = false := decide_eq_false (by omega)
        have d3n : decide (k < s.size) = false := decide_eq_false hlt2
        have hkR : k = i + R := by
         have := run_len (P := fun c => decide (c ≠ 10)) hk1 (by omega) (fun j h1 h2 h => decide_eq_true (HP.out j h1 h2 h)) (fun h => absurd h hlt2)
         rw [← HR.out]; exact this
        clear HP HR
        subst hkR
        go_wp2_with fail
        go_roundg f
        case measure => exact Nat.lt_succ_self _
        case rel => exact ⟨i + R, acc, rfl, by omega, by omega, HN.out, by omega, HO.out, HB.out⟩
     ·have q4 : ((s[i].toNat : Int) == 35) = false := u8_ne s[i] 35 h35
      have hg : gapL (s.data.toList.drop i) = 0 := by rw [hdc]; exact gapL_other _ _ hbl h35
      have hrs := rest_list s i
      have hsz : (s.extract i s.size).size = s.size - i := by rw [← size_list, hrs, List.length_drop, size_list]
      have hx0 : ∀ h : 0 < (s.extract i s.size).size, (s.extract i s.size)[0] = s[i] := fun h => by
       have h2 := get_list (s.extract i s.size) 0 h
       rw [hrs, hdc] at h2
       exact (Option.some.inj h2).symm
      have CT : Hid (∀ wx : World, Calls Try.prog 49 #[.string (s.extract i s.size)] wx (RTok (tokF (s.data.toList.drop i)) wx)) := fun wx => by
       have := rtoken_any wx (s.extract i s.size) (by omega) (by omega) (fun h => by
        have h2 := HQ.out i (by rw [hdc]; exact congrArg some ((hx0 (by omega)).symm.trans h))
        rw [size_list] at h2; omega)
       rw [hrs] at this
       exact this
      have hfit := tok_fit (s.data.toList.drop i)
      have he := runT_err (s.data.toList.drop i) i acc hg
      have hmo := runT_more (s.data.toList.drop i) i acc hg
      have hne : s.data.toList.drop i ≠ [] := by rw [hdc]; simp
      rw [List.drop_drop] at hmo
      rw [HT.out] at he hmo
      rw [List.length_drop, size_list] at hfit
      clear hg hrs hsz hx0 hdc HT hbl h35
      unfold RTok at CT
      generalize tokF (s.data.toList.drop i) = r at *
      by_cases h0 : r.e = 0
      ·obtain ⟨rk, rt, rn, rl, re⟩ := r
       dsimp only at h0 he hmo hfit CT
       subst h0
       have hk : rk ≠ 0 := fun h => hne (hfit.1.1 ⟨rfl, h⟩)
       have HE := Lib.hid (hmo rfl hk)
       have HF2 := Lib.hid (hfit.2.1 rfl hk)
       have HF3 := Lib.hid (hfit.2.2 rfl)
       clear he hmo hfit hk hne
       go_upto_region 13 with (go_at_call 49; refine (CT.out _).mono ?_; rintro e w1 ⟨kd, nm, n, tx, rfl, h2, h3⟩; obtain ⟨h3a, h3b, h3c, h3d⟩ := h3 rfl; subst h3a h3b h3c h3d; have H2 := Lib.hid h2; clear h2 h3 CT; unfold tkV)
       have HO1 := Lib.hid (own_below HO.out H2.out (Nat.le_refl _))
       have HB1 : Hid (Below w.heap.size w w1) := HB.out.trans (H2.out.mono HB.out.size)
       have HT2 : Hid (Whole (w1.alloc (Obj.cells #[.int .i64 kd, .string ⟨rt.toArray⟩, .int .i64 nm, .int .i64 0] 67)) w1.heap.size 67 #[.int .i64 kd, .string ⟨rt.toArray⟩, .int .i64 nm, .int .i64 0]) := Whole.made _ _ _
       have HO2 := Lib.hid (own_more_alloc HO1.out (Obj.cells #[.int .i64 kd, .string ⟨rt.toArray⟩, .int .i64 nm, .int .i64 0] 67))
       have HB2 := Lib.hid (HB1.out.alloc HB1.out.size (Obj.cells #[.int .i64 kd, .string ⟨rt.toArray⟩, .int .i64 nm, .int .i64 0] 67))
       have HTU : Hid (u5.ownBlock ≠ some w1.heap.size) := fun hh => by have := (HO1.out.lt _ hh).2; omega
       have HBT : Hid (w.heap.size ≤ w1.heap.size) := HB1.out.size
       clear HO HB HO1 HB1 H2
       generalize w1.alloc (Obj.cells #[.int .i64 kd, .string ⟨rt.toArray⟩, .int .i64 nm, .int .i64 0] 67) = w2 at *
       generalize w1.heap.size = T at *
       go_upto_region 15 with (fail)
       have f3 := HT2.out.free 3
       have t3 : w2.cell? ⟨T, 3, none⟩ = some (.int .i64 0) := HT2.out.cell 3
       go_upto_region 16 with (fail)
       clear f3 t3
       have HT3 : Hid (Whole (w2.setCell ⟨T, 3, none⟩ (.int .i64 (i : Int))) T 67 #[.int .i64 kd, .string ⟨rt.toArray⟩, .int .i64 nm, .int .i64 (i : Int)]) := HT2.out.put 3 (.int .i64 (i : Int))
       have HO3 := Lib.hid (own_setCell HO2.out (p := ⟨T, 3, none⟩) HTU.out (.int .i64 (i : Int)))
       have HB3 := Lib.hid (HB2.out.setCell (p := ⟨T, 3, none⟩) HBT.out (.int .i64 (i : Int)))
       clear HO2 HB2 HT2
       generalize w2.setCell ⟨T, 3, none⟩ (.int .i64 (i : Int)) = w3 at *
       have c0 := HT3.out.cell 0
       have c1 := HT3.out.cell 1
       have c2 := HT3.out.cell 2
       have c3 := HT3.out.cell 3
       simp only [List.getElem?_toArray, List.getElem?_cons_zero, List.getElem?_cons_succ] at c0 c1 c2 c3
       have HO4 := Lib.hid (own_more_alloc HO3.out (Obj.cells #[.int .i64 kd, .string ⟨rt.toArray⟩, .int .i64 nm, .int .i64 (i : Int)] 67))
       have HB4 := Lib.hid (HB3.out.alloc HB3.out.size (Obj.cells #[.int .i64 kd, .string ⟨rt.toArray⟩, .int .i64 nm, .int .i64 (i : Int)] 67))
       have hbase := HB4.out.size
       go_upto_region 17 with (at_builtin; refine list_app ty_tok (v := u5) rfl _ _ rfl rfl HO4.out w3.heap.size 1 [.int .i64 kd, .string ⟨rt.toArray⟩, .int .i64 nm, .int .i64 (i : Int)] rfl (Whole.made w3 67 _) rfl (by simp [Value.oneCell']) (by decide) (by omega) (by decide) hbase ?_; intro g' cap' w5 hap; have HAP := Lib.hid hap; clear hap)
       have HO5 := Lib.hid HAP.out.own
       have HB5 := Lib.hid (HAP.out.below HO4.out HB4.out (Nat.le_refl _) hbase)
       clear c0 c1 c2 c3 HO3 HO4 HB3 HB4 HT3 HAP hbase
       have hj1 := HF3.out
       go_wp2_with fail
       go_roundg f
       case measure => exact Nat.lt_succ_self _
       case rel =>
        refine ⟨i + rl, acc ++ [⟨kd, rt, nm, i⟩], rfl, by omega, by have := HF2.out; omega, HE.out.symm, by have := HF2.out; rw [List.length_append, List.length_singleton]; omega, ?_, HB5.out⟩
        rw [List.length_append, mkToks_snoc]
        exact HO5.out
      ·have HE := Lib.hid (he h0)
       have q1 : (r.e != 0) = true := bne_iff_ne.2 h0
       clear he hmo hfit h0 hne
       go_upto_region 13 with (go_at_call 49; refine (CT.out _).mono ?_; rintro e w1 ⟨kd, nm, n, tx, rfl, h2, h3⟩; have H2 := Lib.hid h2; clear h2 h3 CT; unfold tkV)
       have HB1 : Hid (Below w.heap.size w w1) := HB.out.trans (H2.out.mono HB.out.size)
       have HB2 := Lib.hid (HB1.out.alloc HB1.out.size (Obj.cells #[.int .i64 kd, .string tx, .int .i64 nm, .int .i64 0] 67))
       generalize w1.alloc (Obj.cells #[.int .i64 kd, .string tx, .int .i64 nm, .int .i64 0] 67) = w2 at *
       go_wp2_with fail
       go_ret3
       have he := HE.out
       injection he with e1 e2
       injection e2 with e2 e3
       subst e1 e2 e3
       exact ⟨_, rfl, ⟨rfl, .inl ⟨rfl, rfl⟩⟩, HB2.out⟩
   ·have d2 : decide ((i : Int) < (s.size : Int)) = false := decide_eq_false (by omega)
    have d2n : decide (i < s.size) = false := decide_eq_false hlt
    obtain rfl : i = s.size := by omega
    have HE : Hid ((acc ++ [⟨0, [], 0, s.size⟩], 0, 0) = (ts, p, er)) := by
     show _ = _
     rw [← HT.out, List.drop_eq_nil_of_le (by rw [size_list]; exact Nat.le_refl _), runT_end]
    clear HT
    have HO4 := Lib.hid (own_more_alloc HO.out (Obj.cells #[.int .i64 0, .string ⟨#[]⟩, .int .i64 0, .int .i64 (s.size : Int)] 67))
    have HB4 := Lib.hid (HB.out.alloc HB.out.size (Obj.cells #[.int .i64 0, .string ⟨#[]⟩, .int .i64 0, .int .i64 (s.size : Int)] 67))
    have hbase := HB4.out.size
    go_wp2_with (at_builtin; refine list_app ty_tok (v := u5) rfl _ _ rfl rfl HO4.out wr.heap.size 1 [.int .i64 0, .string ⟨#[]⟩, .int .i64 0, .int .i64 (s.size : Int)] rfl (Whole.made wr 67 _) rfl (by simp [Value.oneCell']) (by decide) (by omega) (by decide) hbase ?_; intro g' cap' w5 hap; have HAP := Lib.hid hap; clear hap)
    have HO5 := Lib.hid HAP.out.own
    have HB5 := Lib.hid (HAP.out.below HO4.out HB4.out (Nat.le_refl _) hbase)
    go_ret3
    have he := HE.out
    injection he with e1 e2
    injection e2 with e2 e3
    subst e1 e2 e3
    refine ⟨_, rfl, ?_, HB5.out⟩
    unfold ToksAt
    rw [List.length_append, mkToks_snoc]
    exact HO5.out
attribute [local go_sem ↓] Go.wp_at_zero Go.wp_at_succ
/-- The cells of a list of tokens. -/
def TokRow (w : World) (A : Option Addr) (ts : List Tok) : Prop := ts = [] ∨ ∃ g, A = some ⟨g, 0, none⟩ ∧ g < w.heap.size ∧
 ∀ k (h : k < ts.length), w.cell? ⟨g, k * 4, none⟩ = some (.int .i64 ts[k].kind) ∧ w.cell? ⟨g, k * 4 + 1, none⟩ = some (.string ⟨ts[k].text.toArray⟩) ∧ w.cell? ⟨g, k * 4 + 2, none⟩ = some (.int .i64 ts[k].num) ∧ w.cell? ⟨g, k * 4 + 3, none⟩ = some (.int .i64 (ts[k].at_ : Int))
theorem TokRow.below {w w' : World} {A : Option Addr} {ts : List Tok} (h : TokRow w A ts) (hb : Below w.heap.size w w') : TokRow w' A ts := by
 rcases h with h | ⟨g, h1, h2, h3⟩
 ·exact .inl h
 ·refine .inr ⟨g, h1, Nat.lt_of_lt_of_le h2 hb.size, fun k hk => ?_⟩
  obtain ⟨a, b, c, d⟩ := h3 k hk
  exact ⟨(hb.cell (p := ⟨g, _, none⟩) h2).trans a, (hb.cell (p := ⟨g, _, none⟩) h2).trans b, (hb.cell (p := ⟨g, _, none⟩) h2).trans c, (hb.cell (p := ⟨g, _, none⟩) h2).trans d⟩
theorem TokRow.at_ {w : World} {A : Option Addr} {ts : List Tok} (h : TokRow w A ts) {k : Nat} {t : Tok} (hk : ts[k]? = some t) : ∃ g, A = some ⟨g, 0, none⟩ ∧ w.cell? ⟨g, k * 4, none⟩ = some (.int .i64 t.kind) ∧ w.cell? ⟨g, k * 4 + 1, none⟩ = some (.string ⟨t.text.toArray⟩) ∧ w.cell? ⟨g, k * 4 + 2, none⟩ = some (.int .i64 t.num) ∧ w.cell? ⟨g, k * 4 + 3, none⟩ = some (.int .i64 (t.at_ : Int)) := by
 rcases h with h | ⟨g, h1, h2, h3⟩
 ·subst h; simp at hk
 ·obtain ⟨hl, rfl⟩ := List.getElem?_eq_some_iff.1 hk
  exact ⟨g, h1, h3 k hl⟩
theorem toks_row {w : World} {base : Nat} {v : Value} {ts : List Tok} (h : ToksAt w base v ts) : ∃ A c, v = .slice A ts.length c ∧ TokRow w A ts ∧ ts.length ≤ c ∧ c ≤ maxLen := by
 unfold ToksAt at h
 obtain ⟨A, c, e, h1, h2, h3⟩ := own_form h
 refine ⟨A, c, e, ?_, h3, h2⟩
 rcases ts with _ | ⟨t, ts⟩
 ·exact .inl rfl
 ·obtain ⟨g, c', e', hb, hl, _⟩ := own_cell h (k := 0) (by simp)
  rw [e] at e'
  simp only [Value.slice.injEq] at e'
  obtain ⟨rfl, _, rfl⟩ := e'
  refine .inr ⟨g, rfl, hl, fun k hk => ?_⟩
  have hg := mkToks_get (t :: ts) k _ (List.getElem?_eq_getElem hk)
  have hx : ∀ o, o < 4 → w.cell? ⟨g, k * 4 + o, none⟩ = (mkToks (t :: ts))[k * 4 + o]? := fun o ho => by
   obtain ⟨g', c', e', _, _, hcell, _⟩ := own_cell h (k := k * 4 + o) (by omega)
   rw [e] at e'
   simp only [Value.slice.injEq, Option.some.injEq, Addr.mk.injEq] at e'
   obtain ⟨⟨rfl, _⟩, _⟩ := e'
   exact hcell
  exact ⟨(hx 0 (by omega)).trans hg.1, (hx 1 (by omega)).trans hg.2.1, (hx 2 (by omega)).trans hg.2.2.1, (hx 3 (by omega)).trans hg.2.2.2⟩
theorem shortQ (l : List UInt8) (h : l.length ≤ 1000) : ShortQ l := fun j _ => by omega
attribute [local go_sem ↓] Go.wp_at_zero Go.wp_at_succ
theorem Toks.at_le {l : List UInt8} {i : Nat} {ts : List Tok} (h : Toks l i ts) : ∀ (k : Nat) (t : Tok), ts[k]? = some t → t.at_ ≤ i + l.length := by
 induction h with
 | fin l i h =>
  intro k t hk
  have hg := gapL_le l
  rcases k with _ | k
  ·simp only [List.getElem?_cons_zero, Option.some.injEq] at hk
   subst hk; dsimp only; omega
  ·simp at hk
 | one l i ts kd tx nm n hr hk ht ih =>
  intro k t hkt
  have hn := tok_len hr hk
  have hg := gapL_le l
  rw [List.length_drop] at hn
  rcases k with _ | k
  ·simp only [List.getElem?_cons_zero, Option.some.injEq] at hkt
   subst hkt; dsimp only; omega
  ·simp only [List.getElem?_cons_succ] at hkt
   have := ih k t hkt
   rw [List.length_drop] at this
   omega
end

theorem sZ : (∀ {α : Type} (l : List α) (i : Nat) (a : α), l.toArray.setIfInBounds i a = (l.set i a).toArray) ∧ (∀ {α : Type} (a b : α) (l : List α), (b :: l).set 0 a = a :: l) ∧ (∀ {α : Type} (a b : α) (l : List α) (n : Nat), (b :: l).set (n + 1) a = b :: l.set n a) ∧ (∀ {α : Type} (l : List α) (i : Nat) (h : i < l.toArray.size), l.toArray[i] = l[i]'(by simpa using h)) ∧ (∀ {α : Type} (a : α) (l : List α) (h : 0 < (a :: l).length), (a :: l)[0] = a) ∧ (∀ {α : Type} (a : α) (l : List α) (i : Nat) (h : i + 1 < (a :: l).length), (a :: l)[i + 1] = l[i]'(by simpa using h)) :=
 ⟨fun l i a => by simp, fun a b l => rfl, fun a b l n => rfl, fun l i h => by simp, fun a l h => rfl, fun a l i h => rfl⟩
section
variable {w : World} {G : Nat} {z0 z1 z2 z3 z4 z5 : Value}
theorem cells6 (h : Whole w G 25 #[z0, z1, z2, z3, z4, z5]) : w.cell? ⟨G, 0, none⟩ = some z0 ∧ w.cell? ⟨G, 1, none⟩ = some z1 ∧ w.cell? ⟨G, 2, none⟩ = some z2 ∧ w.cell? ⟨G, 3, none⟩ = some z3 ∧ w.cell? ⟨G, 4, none⟩ = some z4 ∧ w.cell? ⟨G, 5, none⟩ = some z5 := ⟨h.cell 0, h.cell 1, h.cell 2, h.cell 3, h.cell 4, h.cell 5⟩
theorem zeroC (h : Whole w G 25 #[.int .i64 0, .string ⟨#[]⟩, .int .i64 0, .int .i64 0, .slice none 0 0, .slice none 0 0]) : w.cell? ⟨G, 0, none⟩ = some (.int .i64 0) ∧ w.cell? ⟨G, 1, none⟩ = some (.string ⟨#[]⟩) ∧ w.cell? ⟨G, 2, none⟩ = some (.int .i64 0) ∧ w.cell? ⟨G, 3, none⟩ = some (.int .i64 0) ∧ w.cell? ⟨G, 4, none⟩ = some (.slice none 0 0) ∧ w.cell? ⟨G, 5, none⟩ = some (.slice none 0 0) := cells6 h
theorem freeC {t : TypeId} {cs : Array Value} (h : Whole w G t cs) : w.frozen? ⟨G, 0, none⟩ = false ∧ w.frozen? ⟨G, 1, none⟩ = false ∧ w.frozen? ⟨G, 2, none⟩ = false ∧ w.frozen? ⟨G, 3, none⟩ = false ∧ w.frozen? ⟨G, 4, none⟩ = false ∧ w.frozen? ⟨G, 5, none⟩ = false := ⟨h.free 0, h.free 1, h.free 2, h.free 3, h.free 4, h.free 5⟩
end
end Go.Proofs.Ytgjchgmlogbmmaa
