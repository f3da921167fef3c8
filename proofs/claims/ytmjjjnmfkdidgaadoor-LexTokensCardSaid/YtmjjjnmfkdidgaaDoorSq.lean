/- Turned from another seat: unquote_any runquote_any. -/
import Derived.WalkKit
import Derived.Deep.Draws
import Derived.Laws.Rows
import Derived.Laws.BitsAllLaws
import Derived.WalkSpells
import Derived.WalkLawsBesides
import Derived.Lib.Hide
import Derived.Deep.DeepMust
import Derived.Deep.QuietTactic
import Derived.BigQuiet
import Derived.StillTailTactics
import Derived.IntWalk
import Derived.Deep.RegionHeld3
import Derived.Deep.AppendLies
import Derived.Laws.BytesArg
import Derived.Maps.Own
import Derived.Maps.OwnOps
import Derived.Maps.OwnSet
import Derived.Deep.RegionWith
import Derived.OpenShut
import Derived.Test.YtmjjjnmfkdidgaaDoorProg
namespace Go.Proofs.YtmjjjnmfkdidgaaDoor.S
open Go.RowKit
open Go.RowKit Go.Maps
set_option linter.unusedVariables false

/-- Block g holds just these cells, none of them frozen. -/
def Whole (w : World) (g : Nat) (t : TypeId) (cs : Array Value) : Prop := w.heap[g]? = some (.cells cs t (0, 0))
theorem Whole.lt {w : World} {g : Nat} {t : TypeId} {cs : Array Value} (h : Whole w g t cs) : g < w.heap.size := by
  unfold Whole at h
  rcases Nat.lt_or_ge g w.heap.size with hl | hl
  · exact hl
  · rw [Array.getElem?_eq_none hl] at h; cases h
theorem Whole.cell {w : World} {g : Nat} {t : TypeId} {cs : Array Value} (h : Whole w g t cs) (i : Nat) : w.cell? ⟨g, i, none⟩ = cs[i]? :=
  cell_of_row w g i cs t (0, 0) h
theorem Whole.made (w : World) (t : TypeId) (cs : Array Value) : Whole (w.alloc (.cells cs t)) w.heap.size t cs := heap_alloc_new w _
theorem Whole.put {w : World} {g : Nat} {t : TypeId} {cs : Array Value} (h : Whole w g t cs) (i : Nat) (u : Value) : Whole (w.setCell ⟨g, i, none⟩ u) g t (cs.setIfInBounds i u) := by
  unfold Whole at h ⊢; simp [World.setCell, Array.getElem?_modify, h]
theorem Whole.alloc {w : World} {g : Nat} {t : TypeId} {cs : Array Value} (h : Whole w g t cs) (o : Obj) : Whole (w.alloc o) g t cs := (Below.heap_alloc w o g h.lt).trans h
theorem Whole.below {B : Nat} {w w' : World} {g : Nat} {t : TypeId} {cs : Array Value} (h : Whole w g t cs) (hb : Below B w w') (hg : g < B) : Whole w' g t cs := (hb.block g hg).trans h
theorem below_drewN {B : Nat} {a w : World} (h : Below B a w) (n : Nat) : Below B a (w.drewN n) := ⟨h.os, h.tape, h.output, h.size, h.block⟩
/-- A slice of integers reads as a list; it lies below block B. -/
def Ints (w : World) (B : Nat) (A : Option Addr) (n : Nat) (zs : List Int) : Prop :=
  zs.length = n ∧ (0 < n → ∃ b off, A = some ⟨b, off, none⟩ ∧ b < B ∧ ∀ j, j < n → w.cell? ⟨b, off + j, none⟩ = some (.int .i64 (zs.getD j 0)))
theorem Ints.below {w w' : World} {B : Nat} {A : Option Addr} {n : Nat} {zs : List Int} (h : Ints w B A n zs) (hb : Below B w w') : Ints w' B A n zs :=
  ⟨h.1, fun hn => by
    obtain ⟨b, off, e, hlt, hc⟩ := h.2 hn
    exact ⟨b, off, e, hlt, fun j hj => (hb.cell (p := ⟨b, off + j, none⟩) hlt).trans (hc j hj)⟩⟩
theorem data_get (d : ByteArray) (k : Nat) (h : k < d.size) : d.data.toList[k]? = some d[k] := by
  rw [Array.getElem?_toList, Array.getElem?_eq_getElem (by simpa using h)]; rfl
theorem size_data (d : ByteArray) : d.data.toList.length = d.size := by simp
theorem ret_b {a b : Bool} (h : a = b) : Ending.returned (.bool a) = .returned (.bool b) := by rw [h]
theorem ret_i {k : IntKind} {a b : Int} (h : a = b) : Ending.returned (.int k a) = .returned (.int k b) := by rw [h]
/-- Bytes that are written as themselves. -/
def plainB (c : UInt8) : Bool := decide (32 ≤ (c.toNat : Int)) && decide ((c.toNat : Int) ≤ 126) && ((c.toNat : Int) != 34) && ((c.toNat : Int) != 92)
set_option maxHeartbeats 400000 in
theorem plain_any (c : UInt8) (w : World) :
    Calls Tryd.prog 54 #[.int .u8 (c.toNat : Int)] w fun e w' => e = .returned (.bool (plainB c)) ∧ w = w' := by
  generalize hv : plainB c = v
  have HV := Lib.hid hv
  clear hv
  go_enter Tryd.func54, Tryd.ntmps54
  go_wp2
  all_goals go_ret
  all_goals exact ⟨ret_b (by rw [← HV.out]; first | (simp [plainB, *]; done) | (simp [plainB, *]; omega)), rfl⟩
def hexL : List UInt8 := [48, 49, 50, 51, 52, 53, 54, 55, 56, 57, 97, 98, 99, 100, 101, 102]
def u8v (c : UInt8) : Value := .int .u8 (c.toNat : Int)
set_option maxHeartbeats 400000 in
theorem sixteen_any (w : World) :
    Calls Tryd.prog 64 #[] w fun e w' => e = .returned (.agg #[.int .u8 48, .int .u8 49, .int .u8 50, .int .u8 51, .int .u8 52, .int .u8 53, .int .u8 54, .int .u8 55, .int .u8 56, .int .u8 57, .int .u8 97, .int .u8 98, .int .u8 99, .int .u8 100, .int .u8 101, .int .u8 102]) ∧ Below w.heap.size w w' := by
  go_enter Tryd.func64, Tryd.ntmps64
  go_wp2
  exact bodyPost_ret (v := .agg #[.int .u8 48, .int .u8 49, .int .u8 50, .int .u8 51, .int .u8 52, .int .u8 53, .int .u8 54, .int .u8 55, .int .u8 56, .int .u8 57, .int .u8 97, .int .u8 98, .int .u8 99, .int .u8 100, .int .u8 101, .int .u8 102]) (by simp [results, Tryd.results64, go_sem]) rfl ⟨rfl, (Below.refl _ _).alloc (Nat.le_refl _) _⟩
theorem Tryd.info5 : (Tryd.prog.info? 5).map (fun i => (i.zero, i.size, i.bytes)) = some (some (.int .u8 0), 1, 1) := by kernel_rfl
theorem app_u8 {ops : Array Oper} {rest : List Oper} {o : Oper} {a : Act} {Q : Exit → Act → World → Prop} {w0 wr : World} {base : Nat} {v : Value} {n m : Nat} {xs news : List Value} (hgd : o.guard = none) (s x : Operand)
    (ho : o.op = .call { callee := .builtin .append, args := #[s, x], argTypes := #[34, 34] }) (hs : a.eval s = v) (hown : wr.ownsRow base 5 1 v n xs) (hw : Below base w0 wr) (hb : base ≤ wr.heap.size)
    (hx : a.eval x = .slice (some ⟨wr.heap.size, 0, none⟩) m m) (hm : news.length = m) (h1 : ∀ u ∈ news, u.oneCell' = true) (hn : n + m ≤ 1000000000)
    (h : ∀ v' w', w'.ownsRow base 5 1 v' (n + m) (xs ++ news) → Below base w0 w' → base ≤ w'.heap.size → wpList Tryd.prog ops Q rest (a.put o.dst v') w') :
    wpList Tryd.prog ops Q (o :: rest) a (wr.alloc (.cells news.toArray 5)) := by
  obtain ⟨i0, hi, hz0, hz1, hz2⟩ := info_parts Tryd.info5
  refine wpList_append_own _ hgd s x 34 ho base 5 i0 (.int .u8 0) 1 1 Tryd.underlying34 hi hz0 hz1 hz2 rfl (by decide) v n xs hs (hown.alloc _) ⟨wr.heap.size, 0, none⟩ m m news hx (by omega) ?_ h1 ?_ ?_ ?_ ?_
  · intro j u hj
    have := (Whole.made wr 5 news.toArray).cell j
    have e : (⟨wr.heap.size, 0, none⟩ : Addr).add j = ⟨wr.heap.size, j, none⟩ := by unfold Addr.add; split <;> simp_all
    rw [e, this]; simpa using hj
  · unfold maxLen; omega
  · omega
  · simp; omega
  · intro v' w1 hown' hgrow _
    refine h v' w1 hown' ((hw.alloc hb _).grown hgrow (by simp; omega) (fun k hk => (hown.lt k hk).1)) ?_
    have := hgrow.size; simp at this; omega
def hexA : Array Value := #[.int .u8 48, .int .u8 49, .int .u8 50, .int .u8 51, .int .u8 52, .int .u8 53, .int .u8 54, .int .u8 55, .int .u8 56, .int .u8 57, .int .u8 97, .int .u8 98, .int .u8 99, .int .u8 100, .int .u8 101, .int .u8 102]
theorem hexA_get (i : Nat) (h : i < 16) : hexA[i]? = some (u8v (hexL.getD i 0)) := by
  rcases (by omega : i = 0 ∨ i = 1 ∨ i = 2 ∨ i = 3 ∨ i = 4 ∨ i = 5 ∨ i = 6 ∨ i = 7 ∨ i = 8 ∨ i = 9 ∨ i = 10 ∨ i = 11 ∨ i = 12 ∨ i = 13 ∨ i = 14 ∨ i = 15) with rfl | rfl | rfl | rfl | rfl | rfl | rfl | rfl | rfl | rfl | rfl | rfl | rfl | rfl | rfl | rfl <;> rfl
theorem conv_own {w : World} {base n : Nat} {v : Value} {xs : List Value} {l : List UInt8} (h : w.ownsRow base 5 1 v n xs) (hx : xs = l.map u8v) : (convert 34 9 v).run Tryd.prog w = .ok (.string ⟨l.toArray⟩) w := by
  subst hx
  have hl := h.1
  rw [List.length_map, Nat.mul_one] at hl
  rcases h.2 with ⟨rfl, rfl⟩ | ⟨g, cap, cur, rfl, hg, hh, hn, hc, hs, ht⟩
  · have : l = [] := List.eq_nil_of_length_eq_zero hl
    subst this
    exact run_convert_bytes_nil w 34 5 Tryd.underlying34 Tryd.underlying5 0 0 9 Tryd.underlying9
  · have hr := run_convert_bytes_arg w 34 5 Tryd.underlying34 Tryd.underlying5 g 0 n cap (l.map fun c => (c.toNat : Int)) (by simpa using hl) (fun i hi => by
      have h1 : w.cell? ⟨g, 0 + i, none⟩ = cur[i]? := by rw [Nat.zero_add]; exact cell_of_row w g i cur 5 (0, 0) hh
      rw [h1]
      have h2 : cur[i]? = (cur.toList.take (n * 1))[i]? := by rw [List.getElem?_take, if_pos (by omega), Array.getElem?_toList]
      rw [h2, ht, List.getElem?_map]
      simp [List.getD, List.getElem?_map, List.getElem?_eq_getElem (show i < l.length by omega), u8v]) 9 Tryd.underlying9
    rw [hr]
    congr 2
    unfold strOfNums
    congr 2
    rw [List.map_map]
    conv => rhs; rw [← List.map_id l]
    apply List.map_congr_left
    intro b _
    simp
theorem law5 : Keyed Tryd.prog 5 := int_keyed Tryd.underlying5
theorem zero5 (w : World) : (zeroValue 5).run Tryd.prog w = .ok (.int .u8 0) w := by kernel_rfl
/-- The map of signs, as data. -/
def signD : DataW Unit := (((DataW.map []).put (.int .u8 110) (.lit (.int .u8 10))).put (.int .u8 34) (.lit (.int .u8 34))).put (.int .u8 92) (.lit (.int .u8 92))
set_option maxHeartbeats 400000 in
theorem signs_own (w : World) :
    Calls Tryd.prog 63 #[] w fun e w' => e = .returned (.map (some w.heap.size)) ∧ w'.ownsMap Tryd.prog 5 (plainElem Tryd.prog 5) w.heap.size 3 signD ∧ Below w.heap.size w w' := by
  obtain ⟨w1, r1, h1, g1⟩ := (World.ownsMap_made w Tryd.prog 5 (plainElem (H := Unit) Tryd.prog 5)).update law5 Tryd.underlying75 (by unfold maxLen; omega) (key := .int .u8 110) (keyOf_int_mk Tryd.underlying5 (by decide)) (plainElem_int Tryd.underlying5 (a := 10) (by decide))
  obtain ⟨w2, r2, h2, g2⟩ := h1.update law5 Tryd.underlying75 (by unfold maxLen; omega) (key := .int .u8 34) (keyOf_int_mk Tryd.underlying5 (by decide)) (plainElem_int Tryd.underlying5 (a := 34) (by decide))
  obtain ⟨w3, r3, h3, g3⟩ := h2.update law5 Tryd.underlying75 (by unfold maxLen; omega) (key := .int .u8 92) (keyOf_int_mk Tryd.underlying5 (by decide)) (plainElem_int Tryd.underlying5 (a := 92) (by decide))
  have hmm := @run_makeMap Tryd.prog
  go_enter Tryd.func63, Tryd.ntmps63
  go_wp2
  go_ret
  have hb1 : Below w.heap.size w w1 := ((Below.refl _ _).alloc (Nat.le_refl _) _).grown g1 (by simp) (fun k hk => by cases hk; exact Nat.le_refl _)
  have hb2 := hb1.grown g2 hb1.size (fun k hk => by cases hk; exact Nat.le_refl _)
  have hb3 := hb2.grown g3 hb2.size (fun k hk => by cases hk; exact Nat.le_refl _)
  exact ⟨rfl, h3, hb3⟩
theorem signD_eq : signD = .map [(.int .u8 34, .lit (.int .u8 34)), (.int .u8 92, .lit (.int .u8 92)), (.int .u8 110, .lit (.int .u8 10))] := by kernel_rfl
theorem sign_look {w : World} {b n : Nat} (h : w.ownsMap Tryd.prog 5 (plainElem Tryd.prog 5) b n signD) (k : Int) (hk : (Lit.int .u8 k).wf = true) (x : Int) (t : Bool)
    (ha : signD.atKey (.int .u8 k) (.lit (.int .u8 0)) = .lit (.int .u8 x)) (hh : Maps.has signD (.int .u8 k) = t) :
    (Instr.lookup 75 (.map (some b)) (.int .u8 k) true).run Tryd.prog w = .ok (.tuple #[.int .u8 x, .bool t]) w := by
  obtain ⟨v, ps, hrun, hv⟩ := h.look_ok law5 Tryd.underlying75 (zero5 w) (plainElem_int Tryd.underlying5 (a := 0) (by decide)) (key := .int .u8 k) (keyOf_int_mk Tryd.underlying5 hk)
  obtain ⟨c, rfl, hc, _⟩ := plainElem_int_inv Tryd.underlying5 hv
  rw [ha] at hc
  simp at hc
  rw [hrun, hh, ← hc.1]
theorem sign_n : signD.atKey (.int .u8 110) (.lit (.int .u8 0)) = .lit (.int .u8 10) ∧ Maps.has signD (.int .u8 110) = true := ⟨by kernel_rfl, by kernel_rfl⟩
theorem sign_q : signD.atKey (.int .u8 34) (.lit (.int .u8 0)) = .lit (.int .u8 34) ∧ Maps.has signD (.int .u8 34) = true := ⟨by kernel_rfl, by kernel_rfl⟩
theorem sign_b : signD.atKey (.int .u8 92) (.lit (.int .u8 0)) = .lit (.int .u8 92) ∧ Maps.has signD (.int .u8 92) = true := ⟨by kernel_rfl, by kernel_rfl⟩
theorem sign_no (k : Int) (h1 : k ≠ 34) (h2 : k ≠ 92) (h3 : k ≠ 110) : signD.atKey (.int .u8 k) (.lit (.int .u8 0)) = .lit (.int .u8 0) ∧ Maps.has signD (.int .u8 k) = false := by
  rw [signD_eq]
  constructor
  · simp [DataW.atKey, Lit.sameKey, Ne.symm h1, Ne.symm h2, Ne.symm h3]
  · simp [Maps.has, Lit.sameKey, Ne.symm h1, Ne.symm h2, Ne.symm h3]
def hexV (c : UInt8) : Option Nat := if 48 ≤ c.toNat ∧ c.toNat ≤ 57 then some (c.toNat - 48) else if 97 ≤ c.toNat ∧ c.toNat ≤ 102 then some (c.toNat - 87) else none
def idxH (c : UInt8) : Int := match hexV c with | some p => (p : Int) | none => -1
/-- What stands behind a backslash: the byte, how many bytes, the error. -/
def escX : List UInt8 → UInt8 × Nat × Int
  | [] => (0, 0, 11)
  | x :: r => match hexV x with
    | none => (0, 0, 10)
    | some p => match r with
      | [] => (0, 0, 11)
      | y :: _ => match hexV y with
        | none => (0, 0, 10)
        | some q => (UInt8.ofNat (16 * p + q), 3, 0)
def escF : List UInt8 → UInt8 × Nat × Int
  | [] => (0, 0, 11)
  | a :: r => if a = 110 then (10, 1, 0) else if a = 34 then (34, 1, 0) else if a = 92 then (92, 1, 0) else if a = 120 then escX r else (0, 0, 10)
theorem hexV_lt {c : UInt8} {p : Nat} (h : hexV c = some p) : p < 16 := by
  unfold hexV at h
  split at h
  · injection h with h; omega
  · split at h
    · injection h with h; omega
    · cases h
theorem hexV_get (c : UInt8) (j : Nat) (hj : j < 16) : hexL.getD j 0 = c ↔ hexV c = some j := by
  have key : ∀ j, j < 16 → hexV (hexL.getD j 0) = some j := by
    intro j hj
    rcases (by omega : j = 0 ∨ j = 1 ∨ j = 2 ∨ j = 3 ∨ j = 4 ∨ j = 5 ∨ j = 6 ∨ j = 7 ∨ j = 8 ∨ j = 9 ∨ j = 10 ∨ j = 11 ∨ j = 12 ∨ j = 13 ∨ j = 14 ∨ j = 15) with rfl | rfl | rfl | rfl | rfl | rfl | rfl | rfl | rfl | rfl | rfl | rfl | rfl | rfl | rfl | rfl <;> rfl
  constructor
  · rintro rfl; exact key j hj
  · intro h
    have h2 := key j hj
    apply UInt8.toNat.inj
    generalize hexL.getD j 0 = d at *
    unfold hexV at h h2
    split at h <;> split at h2 <;> (try split at h) <;> (try split at h2) <;> simp_all <;> omega
theorem quiet_ll {P : Program} {f : FuncId} {args : Array Value} {w : World} {a n : Nat} {v : Value}
    (h : Calls P f args (w.drewN (a + n)) fun e w' => e = .returned v ∧ w.drewN (a + n) = w') : Calls P f args (w.drewN (a + n)) fun e w'' => e = .returned v ∧ ∃ m, w'' = w.drewN (a + m) :=
  h.mono fun _ _ ⟨he, hm⟩ => ⟨he, n, hm.symm⟩
theorem idx_end {c : UInt8} (h : ∀ j, j < 16 → hexL.getD j 0 ≠ c) : idxH c = -1 := by
  unfold idxH
  cases hv : hexV c with
  | none => rfl
  | some p => exact absurd ((hexV_get c p (hexV_lt hv)).2 hv) (h p (hexV_lt hv))
theorem idx_hit {c : UInt8} {k : Nat} (hk : k < 16) (h : hexL.getD k 0 = c) : idxH c = k := by
  unfold idxH; rw [(hexV_get c k hk).1 h]
set_option maxHeartbeats 400000 in
theorem idx_any (B : Nat) (c : UInt8) (w : World) (hB : Whole w B 77 hexA) :
    Calls Tryd.prog 65 #[.slice (some ⟨B, 0, none⟩) 16 16, .int .u8 (c.toNat : Int)] w fun e w' => e = .returned (.int .i64 (idxH c)) ∧ w = w' := by
  go_enter Tryd.func65, Tryd.ntmps65
  go_wp2
  go_loop [8] (fun i => ∃ k : Nat, k ≤ 16 ∧ i = .int .i64 k ∧ ∀ j, j < k → hexL.getD j 0 ≠ c) (fun i => 16 - (intOf i).toNat)
  case atStart => exact ⟨0, by omega, rfl, by intro j hj; omega⟩
  case round =>
    obtain ⟨k, hk, rfl, ha⟩ := hrel
    have HA := Lib.hid ha; clear ha
    by_cases hlt : k < 16
    · have hc := (hB.cell k).trans (hexA_get k hlt)
      unfold u8v at hc
      by_cases he : hexL.getD k 0 = c
      · have HF := Lib.hid (idx_hit hlt he)
        rw [he] at hc
        clear he
        go_wp2
        go_ret
        exact ⟨ret_i HF.out.symm, rfl⟩
      · have ht : ((c.toNat : Int) == ((hexL.getD k 0).toNat : Int)) = false := by
          rw [beq_eq_false_iff_ne]; intro hh
          exact he (UInt8.toNat.inj (by omega))
        have HN : Hid (∀ j, j < k + 1 → hexL.getD j 0 ≠ c) := by
          intro j hj
          by_cases hjk : j = k
          · subst hjk; exact he
          · exact HA.out j (by omega)
        generalize hexL.getD k 0 = x at *
        clear he
        go_wp2
        go_round
        case rel => exact ⟨k + 1, by omega, by go_num, HN.out⟩
        case measure => simp [intOf]; omega
    · have e : k = 16 := by omega
      subst e
      have HF := Lib.hid (idx_end HA.out)
      go_wp2
      go_ret
      exact ⟨ret_i HF.out.symm, rfl⟩
/-- What the map of signs says of a byte. -/
def sgnX (c : UInt8) : Int := if c = 110 then 10 else if c = 34 then 34 else if c = 92 then 92 else 0
def sgnB (c : UInt8) : Bool := c == 110 || c == 34 || c == 92
theorem sgn_look (c : UInt8) : signD.atKey (.int .u8 (c.toNat : Int)) (.lit (.int .u8 0)) = .lit (.int .u8 (sgnX c)) ∧ Maps.has signD (.int .u8 (c.toNat : Int)) = sgnB c := by
  by_cases h1 : c = 110
  · subst h1; exact sign_n
  · by_cases h2 : c = 34
    · subst h2; exact sign_q
    · by_cases h3 : c = 92
      · subst h3; exact sign_b
      · have n1 : (c.toNat : Int) ≠ 34 := fun h => h2 (UInt8.toNat.inj (by rw [show (34 : UInt8).toNat = 34 from rfl]; omega))
        have n2 : (c.toNat : Int) ≠ 92 := fun h => h3 (UInt8.toNat.inj (by rw [show (92 : UInt8).toNat = 92 from rfl]; omega))
        have n3 : (c.toNat : Int) ≠ 110 := fun h => h1 (UInt8.toNat.inj (by rw [show (110 : UInt8).toNat = 110 from rfl]; omega))
        obtain ⟨a, b⟩ := sign_no c.toNat n1 n2 n3
        rw [a, b]
        simp [sgnX, sgnB, h1, h2, h3]
theorem signs_any (c : UInt8) (w : World) :
    Calls Tryd.prog 63 #[] w fun e w' => e = .returned (.map (some w.heap.size)) ∧ (Instr.lookup 75 (.map (some w.heap.size)) (.int .u8 (c.toNat : Int)) true).run Tryd.prog w' = .ok (.tuple #[.int .u8 (sgnX c), .bool (sgnB c)]) w' ∧ Below w.heap.size w w' :=
  (signs_own w).mono fun _ _ ⟨he, ho, hb⟩ => ⟨he, sign_look ho _ (by have := c.toNat_lt; simp [Lit.wf, IntKind.min, IntKind.max, IntKind.bits, IntKind.signed]; omega) _ _ (sgn_look c).1 (sgn_look c).2, hb⟩
theorem slice_sixteen (B : Nat) (W : World) : (Instr.sliceAt 77 (.pointer (some ⟨B, 0, none⟩)) none none none).run Tryd.prog W = .ok (.slice (some ⟨B, 0, none⟩) 16 16) W := by
  have hl : Tryd.prog.arrayLen 77 = 16 := by kernel_rfl
  have he : Tryd.prog.elem 77 = 5 := by kernel_rfl
  rw [run_sliceAt_array_all W 77 ⟨B, 0, none⟩ (by rw [hl, he]; exact Tryd.underlying77), hl, he]
  have e : (sizeOf 5).run Tryd.prog W = .ok 1 W := by kernel_rfl
  rw [e]; rfl
def EscPost (l : List UInt8) (w : World) (e : Ending) (w' : World) : Prop :=
  e = .returned (.tuple #[.int .u8 ((escF l).1.toNat : Int), .int .i64 ((escF l).2.1 : Int), .int .i64 (escF l).2.2]) ∧ Below w.heap.size w w'
theorem esc_post {l : List UInt8} {w w' : World} {c : Int} {n : Int} {e : Int} {x : UInt8} {m : Nat} (h : escF l = (x, m, e)) (hc : c = (x.toNat : Int)) (hn : n = (m : Int)) (hb : Below w.heap.size w w') :
    EscPost l w (.returned (.tuple #[.int .u8 c, .int .i64 n, .int .i64 e])) w' := by
  unfold EscPost; rw [h, hc, hn]; exact ⟨rfl, hb⟩
theorem drop_more (s : ByteArray) (k : Nat) (h : k < s.size) : s.data.toList.drop k = s[k] :: s.data.toList.drop (k + 1) := by
  rw [List.drop_eq_getElem_cons (by rw [size_data]; exact h)]; rfl
theorem data_cons (s : ByteArray) (h : 0 < s.size) : s.data.toList = s[0] :: s.data.toList.drop 1 := drop_more s 0 h
theorem esc_some {s : ByteArray} (h : 0 < s.size) (hb : sgnB s[0] = true) : ∃ x : UInt8, escF s.data.toList = (x, 1, 0) ∧ sgnX s[0] = (x.toNat : Int) := by
  rw [data_cons s h]
  unfold sgnB at hb
  simp only [Bool.or_eq_true, beq_iff_eq] at hb
  rcases hb with (hb | hb) | hb <;> rw [hb]
  · exact ⟨10, by simp [escF], by decide⟩
  · exact ⟨34, by simp [escF], by decide⟩
  · exact ⟨92, by simp [escF], by decide⟩
theorem esc_none {s : ByteArray} (h : 0 < s.size) (hb : sgnB s[0] = false) : escF s.data.toList = if s[0] = 120 then escX (s.data.toList.drop 1) else (0, 0, 10) := by
  rw [data_cons s h]
  unfold sgnB at hb
  simp only [Bool.or_eq_false_iff, beq_eq_false_iff_ne] at hb
  rw [escF, if_neg hb.1.1, if_neg hb.1.2, if_neg hb.2]
  simp
theorem drop_end (s : ByteArray) (k : Nat) (h : ¬ k < s.size) : s.data.toList.drop k = [] := List.drop_eq_nil_of_le (by rw [size_data]; omega)
theorem escX_0 {s : ByteArray} (h : ¬ 1 < s.size) : escX (s.data.toList.drop 1) = (0, 0, 11) := by rw [drop_end s 1 h]; rfl
theorem escX_1 {s : ByteArray} (h : 1 < s.size) (hv : hexV s[1] = none) : escX (s.data.toList.drop 1) = (0, 0, 10) := by rw [drop_more s 1 h, escX, hv]
theorem escX_2 {s : ByteArray} (h : 1 < s.size) {p : Nat} (hv : hexV s[1] = some p) (h2 : ¬ 2 < s.size) : escX (s.data.toList.drop 1) = (0, 0, 11) := by rw [drop_more s 1 h, escX, hv, drop_end s 2 h2]
theorem escX_3 {s : ByteArray} (h : 1 < s.size) {p : Nat} (hv : hexV s[1] = some p) (h2 : 2 < s.size) (hw : hexV s[2] = none) : escX (s.data.toList.drop 1) = (0, 0, 10) := by
  rw [drop_more s 1 h, escX, hv]
  show (match s.data.toList.drop 2 with | [] => _ | y :: _ => _) = _
  rw [drop_more s 2 h2]; show (match hexV s[2] with | none => _ | some q => _) = _; rw [hw]
theorem escX_4 {s : ByteArray} (h : 1 < s.size) {p q : Nat} (hv : hexV s[1] = some p) (h2 : 2 < s.size) (hw : hexV s[2] = some q) : escX (s.data.toList.drop 1) = (UInt8.ofNat (16 * p + q), 3, 0) := by
  rw [drop_more s 1 h, escX, hv]
  show (match s.data.toList.drop 2 with | [] => _ | y :: _ => _) = _
  rw [drop_more s 2 h2]; show (match hexV s[2] with | none => _ | some q => _) = _; rw [hw]
theorem idx_none {c : UInt8} (h : hexV c = none) : idxH c = -1 := by unfold idxH; rw [h]
theorem idx_some {c : UInt8} {p : Nat} (h : hexV c = some p) : idxH c = p := by unfold idxH; rw [h]
theorem emp_f {d : ByteArray} (h : 0 < d.size) : d.toList.isEmpty = false := by
  rw [ByteArray.toList_eq d]
  cases h' : d.data.toList
  · have := size_data d; rw [h'] at this; simp at this; omega
  · rfl
theorem emp_n {d : ByteArray} (h : 0 < d.size) : ¬ d.toList = [] := by intro hh; have := emp_f h; rw [hh] at this; cases this
theorem emp_t {d : ByteArray} (h : d.size = 0) : d.toList = [] := by rw [ByteArray.toList_eq d]; exact List.eq_nil_of_length_eq_zero (by rw [size_data]; exact h)
theorem ne_u8 {c d : UInt8} (h : ¬ c = d) : ((c.toNat : Int) != (d.toNat : Int)) = true := by rw [bne_iff_ne]; intro hh; exact h (UInt8.toNat.inj (by omega))
set_option maxHeartbeats 400000 in
theorem esc_empty (s : ByteArray) (w : World) (h0 : s.size = 0) : Calls Tryd.prog 53 #[.string s] w (EscPost s.data.toList w) := by
  have he := emp_t h0
  have hl : escF s.data.toList = (0, 0, 11) := by
    have e : s.data.toList = [] := List.eq_nil_of_length_eq_zero (by rw [size_data]; exact h0)
    rw [e]; rfl
  have HL := Lib.hid hl; clear hl h0
  go_enter Tryd.func53, Tryd.ntmps53
  go_wp2_with fail
  go_ret3
  exact esc_post HL.out rfl rfl (Below.refl _ _)
set_option maxHeartbeats 1000000 in
theorem esc_sign (s : ByteArray) (w : World) (h0 : 0 < s.size) (hb : sgnB s[0] = true) : Calls Tryd.prog 53 #[.string s] w (EscPost s.data.toList w) := by
  have he := emp_f h0
  have he2 := emp_n h0
  obtain ⟨x, hx1, hx2⟩ := esc_some h0 hb
  have HL := Lib.hid hx1; have HX := Lib.hid hx2; clear hx1 hx2
  go_enter Tryd.func53, Tryd.ntmps53
  go_wp2_with fail
  go_region_with (go_at_call 63; refine (signs_any s[0] _).mono ?_; rintro e w1 ⟨rfl, hlook, hbw⟩; replace hlook : (Instr.lookup 75 (.map (some w.heap.size)) (.int .u8 (s[0].toNat : Int)) true).run Tryd.prog w1 = .ok (.tuple #[.int .u8 (sgnX s[0]), .bool (sgnB s[0])]) w1 := hlook; replace hbw : Below w.heap.size w w1 := ⟨hbw.os, hbw.tape, hbw.output, hbw.size, hbw.block⟩)
  all_goals
    go_wp2_with fail
    go_ret3
    exact esc_post HL.out HX.out rfl (by assumption)
set_option maxHeartbeats 1000000 in
theorem esc_bad (s : ByteArray) (w : World) (h0 : 0 < s.size) (hb : sgnB s[0] = false) (hx : ¬ s[0] = 120) : Calls Tryd.prog 53 #[.string s] w (EscPost s.data.toList w) := by
  have he := emp_f h0
  have he2 := emp_n h0
  have hn := esc_none h0 hb
  rw [if_neg hx] at hn
  have HL := Lib.hid hn
  have ht : ((s[0].toNat : Int) != 120) = true := ne_u8 hx
  clear hn hx
  go_enter Tryd.func53, Tryd.ntmps53
  go_wp2_with fail
  go_region_with (go_at_call 63; refine (signs_any s[0] _).mono ?_; rintro e w1 ⟨rfl, hlook, hbw⟩; replace hlook : (Instr.lookup 75 (.map (some w.heap.size)) (.int .u8 (s[0].toNat : Int)) true).run Tryd.prog w1 = .ok (.tuple #[.int .u8 (sgnX s[0]), .bool (sgnB s[0])]) w1 := hlook; replace hbw : Below w.heap.size w w1 := ⟨hbw.os, hbw.tape, hbw.output, hbw.size, hbw.block⟩)
  all_goals
    go_wp2_with fail
    go_ret3
    exact esc_post HL.out rfl rfl (by assumption)
def XRel (s : ByteArray) (n i : Value) : Prop :=
  (n = .int .i64 0 ∧ i = .int .i64 1) ∨ (∃ p, ∃ h : 1 < s.size, hexV s[1] = some p ∧ n = .int .i64 (p : Int) ∧ i = .int .i64 2) ∨
  (∃ p q, ∃ h : 2 < s.size, hexV s[1] = some p ∧ hexV s[2] = some q ∧ n = .int .i64 ((16 * p + q : Nat) : Int) ∧ i = .int .i64 3)
set_option maxHeartbeats 4000000 in
theorem esc_x (s : ByteArray) (w : World) (hs : s.size ≤ 1000) (h0 : 0 < s.size) (hb : sgnB s[0] = false) (hx : s[0] = 120) : Calls Tryd.prog 53 #[.string s] w (EscPost s.data.toList w) := by
  have he := emp_f h0
  have he2 := emp_n h0
  have hn := esc_none h0 hb
  rw [if_pos hx] at hn
  have HL := Lib.hid hn
  have ht : ((s[0].toNat : Int) != 120) = false := by rw [hx]; rfl
  clear hn hx
  go_enter Tryd.func53, Tryd.ntmps53
  go_wp2_with fail
  go_region_with (go_at_call 63; refine (signs_any s[0] _).mono ?_; rintro e w1 ⟨rfl, hlook, hbw⟩; replace hlook : (Instr.lookup 75 (.map (some w.heap.size)) (.int .u8 (s[0].toNat : Int)) true).run Tryd.prog w1 = .ok (.tuple #[.int .u8 (sgnX s[0]), .bool (sgnB s[0])]) w1 := hlook; replace hbw : Below w.heap.size w w1 := ⟨hbw.os, hbw.tape, hbw.output, hbw.size, hbw.block⟩)
  all_goals
    go_wp2_with (go_at_call 64; refine (sixteen_any _).mono ?_; rintro e w2 ⟨rfl, hb1⟩)
    obtain ⟨w3, hw3⟩ : ∃ w3, w3 = w2.alloc (.cells hexA 77) := ⟨_, rfl⟩
    have hh3 : Whole w3 w2.heap.size 77 hexA := by rw [hw3]; exact Whole.made w2 77 hexA
    have hwb : Below w.heap.size w w3 := by
      rw [hw3]
      have hb0 : Below w.heap.size w w1 := by assumption
      have hb2 := hb0.trans (hb1.mono hb0.size)
      exact hb2.alloc hb2.size _
    change (w3 = (w2.alloc (.cells #[.int .u8 48, .int .u8 49, .int .u8 50, .int .u8 51, .int .u8 52, .int .u8 53, .int .u8 54, .int .u8 55, .int .u8 56, .int .u8 57, .int .u8 97, .int .u8 98, .int .u8 99, .int .u8 100, .int .u8 101, .int .u8 102] 77))) at hw3
    rw [← hw3]
    clear hw3
    generalize w2.heap.size = B at *
    clear hb1
    have hsl := slice_sixteen B
    go_loopw [8, 9] (fun n i wr => XRel s n i ∧ ∃ d, wr = w3.drewN d) (fun _ i _ => 3 - (intOf i).toNat)
    case atStart => exact ⟨.inl ⟨rfl, rfl⟩, 0, rfl⟩
    case round =>
      obtain ⟨hrel, d, rfl⟩ := hrel
      have hwd := fun n => below_drewN hwb n
      have hhd : ∀ n, Whole (w3.drewN n) B 77 hexA := fun n => hh3
      rcases hrel with ⟨rfl, rfl⟩ | ⟨p, h1, hv, rfl, rfl⟩ | ⟨p, q, h2, hv, hv2, rfl, rfl⟩
      · by_cases h1 : 1 < s.size
        · have h1' : ¬ (s.size : Int) ≤ 1 := by omega
          rcases hv : hexV s[1] with _ | p
          · have hix := fun W h => idx_any B s[1] W h
            rw [idx_none hv] at hix
            have HF := Lib.hid (escX_1 h1 hv)
            have HI := Lib.hid hix; have HH := Lib.hid hhd; have HW := Lib.hid hwd
            clear hv hix hhd hwd
            go_wp2
            go_quiet ((go_at_call 65; exact quiet_ll (HI.out _ (HH.out _))))
            go_wp2
            go_ret3
            exact esc_post (HL.out.trans HF.out) rfl rfl (HW.out _)
          · have hix := fun W h => idx_any B s[1] W h
            rw [idx_some hv] at hix
            have hp := hexV_lt hv
            have HV := Lib.hid hv
            have HI := Lib.hid hix; have HH := Lib.hid hhd; have HW := Lib.hid hwd
            clear hv hix hhd hwd
            go_wp2
            go_quiet ((go_at_call 65; exact quiet_ll (HI.out _ (HH.out _))))
            go_wp2
            exact ⟨⟨.inr (.inl ⟨p, h1, HV.out, by congr 1, rfl⟩), _, rfl⟩, by simp [intOf]⟩
        · have h1' : (s.size : Int) ≤ 1 := by omega
          have HF := Lib.hid (escX_0 h1)
          have HW := Lib.hid hwd
          clear hhd hwd
          go_wp2
          go_ret3
          exact esc_post (HL.out.trans HF.out) rfl rfl (HW.out _)
      · have hp := hexV_lt hv
        by_cases h2 : 2 < s.size
        · have h2' : ¬ (s.size : Int) ≤ 2 := by omega
          rcases hv2 : hexV s[2] with _ | q
          · have hix := fun W h => idx_any B s[2] W h
            rw [idx_none hv2] at hix
            have HF := Lib.hid (escX_3 h1 hv h2 hv2)
            have HI := Lib.hid hix; have HH := Lib.hid hhd; have HW := Lib.hid hwd
            clear hv hv2 hix hhd hwd
            go_wp2
            go_quiet ((go_at_call 65; exact quiet_ll (HI.out _ (HH.out _))))
            go_wp2
            go_ret3
            exact esc_post (HL.out.trans HF.out) rfl rfl (HW.out _)
          · have hix := fun W h => idx_any B s[2] W h
            rw [idx_some hv2] at hix
            have hq := hexV_lt hv2
            have HV := Lib.hid hv; have HV2 := Lib.hid hv2
            have HI := Lib.hid hix; have HH := Lib.hid hhd; have HW := Lib.hid hwd
            clear hv hv2 hix hhd hwd
            go_wp2
            go_quiet ((go_at_call 65; exact quiet_ll (HI.out _ (HH.out _))))
            go_wp2
            exact ⟨⟨.inr (.inr ⟨p, q, h2, HV.out, HV2.out, by congr 1, rfl⟩), _, rfl⟩, by simp [intOf]⟩
        · have h2' : (s.size : Int) ≤ 2 := by omega
          have HF := Lib.hid (escX_2 h1 hv h2)
          have HW := Lib.hid hwd
          clear hhd hwd hv
          go_wp2
          go_ret3
          exact esc_post (HL.out.trans HF.out) rfl rfl (HW.out _)
      · have hp := hexV_lt hv
        have hq := hexV_lt hv2
        have HF := Lib.hid (escX_4 (by omega) hv h2 hv2)
        have HW := Lib.hid hwd
        have hwr : ((UInt8.ofNat (16 * p + q)).toNat : Int) = ((16 * p + q : Nat) : Int) := by rw [UInt8.toNat_ofNat']; omega
        have HR := Lib.hid hwr
        have hlt : 16 * p + q < 256 := by omega
        generalize 16 * p + q = t at *
        clear hhd hwd hv hv2 hwr
        go_wp2
        go_ret3
        exact esc_post (HL.out.trans HF.out) HR.out.symm rfl (HW.out _)
theorem escape_any (s : ByteArray) (w : World) (hs : s.size ≤ 1000) : Calls Tryd.prog 53 #[.string s] w (EscPost s.data.toList w) := by
  by_cases h0 : s.size = 0
  · exact esc_empty s w h0
  · have h1 : 0 < s.size := by omega
    rcases hb : sgnB s[0] with _ | _
    · by_cases hx : s[0] = 120
      · exact esc_x s w hs h1 hb hx
      · exact esc_bad s w h1 hb hx
    · exact esc_sign s w h1 hb
def unq : Nat → List UInt8 → List UInt8 → Nat → List UInt8 × Nat × Int
  | 0, _, _, _ => ([], 0, 11)
  | f + 1, rest, acc, k => match rest with
    | [] => ([], 0, 11)
    | c :: r =>
      if c = 10 then ([], 0, 11)
      else if c = 34 then (if 60 < acc.length then ([], 0, 12) else (acc, k + 1, 0))
      else if c = 92 then (if (escF r).2.2 = 0 then unq f (r.drop (escF r).2.1) (acc ++ [(escF r).1]) (k + 1 + (escF r).2.1) else ([], 0, (escF r).2.2))
      else if plainB c then unq f r (acc ++ [c]) (k + 1) else ([], 0, 10)
def unqF (l : List UInt8) : List UInt8 × Nat × Int := match l with
  | c :: r => if c = 34 then unq (r.length + 1) r [] 1 else ([], 0, 14)
  | [] => ([], 0, 14)
theorem escX_len (l : List UInt8) (h : (escX l).2.2 = 0) : (escX l).2.1 = 3 ∧ 2 ≤ l.length := by
  cases l with
  | nil => simp [escX] at h
  | cons x r =>
    rw [escX] at h ⊢
    cases hv : hexV x with
    | none => rw [hv] at h; simp at h
    | some p =>
      rw [hv] at h
      cases r with
      | nil => simp at h
      | cons y t =>
        dsimp only at h ⊢
        cases hw : hexV y with
        | none => rw [hw] at h; simp at h
        | some q => simp
theorem escF_len (l : List UInt8) (h : (escF l).2.2 = 0) : 1 ≤ (escF l).2.1 ∧ (escF l).2.1 ≤ l.length ∧ (escF l).2.1 ≤ 3 := by
  cases l with
  | nil => simp [escF] at h
  | cons a r =>
    rw [escF] at h ⊢
    split
    · simp
    · split
      · simp
      · split
        · simp
        · split
          · rename_i h1 h2 h3 h4
            rw [if_neg h1, if_neg h2, if_neg h3, if_pos h4] at h
            obtain ⟨e1, e2⟩ := escX_len r h
            rw [e1]; simp; omega
          · rename_i h1 h2 h3 h4
            rw [if_neg h1, if_neg h2, if_neg h3, if_neg h4] at h
            simp at h
/-- Where a reading stands. -/
structure UnqAt (l : List UInt8) (k f : Nat) (acc : List UInt8) : Prop where
  fuel : l.length < k + f
  le : k ≤ l.length
  few : acc.length ≤ k
  all : unqF l = unq f (l.drop k) acc k
theorem unq_start {c : UInt8} {r : List UInt8} (h : c = 34) : UnqAt (c :: r) 1 (r.length + 1) [] :=
  ⟨by simp, by simp, by simp, by rw [unqF, if_pos h]; rfl⟩
theorem unq_end {l : List UInt8} {k f : Nat} {acc : List UInt8} (h : UnqAt l k f acc) (hk : ¬ k < l.length) : unqF l = ([], 0, 11) := by
  rw [h.all, List.drop_eq_nil_of_le (by omega)]
  have := h.fuel; have := h.le
  cases f with
  | zero => rfl
  | succ f => rfl
theorem UnqAt.step {l : List UInt8} {k f : Nat} {acc : List UInt8} (h : UnqAt l k f acc) {c : UInt8} (hc : l[k]? = some c) : ∃ g, f = g + 1 ∧ k < l.length ∧ unqF l = (if c = 10 then ([], 0, 11)
      else if c = 34 then (if 60 < acc.length then ([], 0, 12) else (acc, k + 1, 0))
      else if c = 92 then (if (escF (l.drop (k + 1))).2.2 = 0 then unq g ((l.drop (k + 1)).drop (escF (l.drop (k + 1))).2.1) (acc ++ [(escF (l.drop (k + 1))).1]) (k + 1 + (escF (l.drop (k + 1))).2.1) else ([], 0, (escF (l.drop (k + 1))).2.2))
      else if plainB c then unq g (l.drop (k + 1)) (acc ++ [c]) (k + 1) else ([], 0, 10)) := by
  have hk : k < l.length := by
    rcases Nat.lt_or_ge k l.length with hk | hk
    · exact hk
    · rw [List.getElem?_eq_none hk] at hc; cases hc
  have hf := h.fuel
  obtain ⟨g, rfl⟩ : ∃ g, f = g + 1 := ⟨f - 1, by omega⟩
  have hd : l.drop k = c :: l.drop (k + 1) := by
    rw [List.getElem?_eq_getElem hk] at hc
    injection hc with hc
    rw [List.drop_eq_getElem_cons hk, hc]
  refine ⟨g, rfl, hk, ?_⟩
  rw [h.all, hd, unq]
theorem UnqAt.open_ {l : List UInt8} {k f : Nat} {acc : List UInt8} (h : UnqAt l k f acc) (hc : l[k]? = some 10) : unqF l = ([], 0, 11) := by
  obtain ⟨g, _, _, e⟩ := h.step hc; rw [e]; simp
theorem UnqAt.long {l : List UInt8} {k f : Nat} {acc : List UInt8} (h : UnqAt l k f acc) (hc : l[k]? = some 34) (ha : 60 < acc.length) : unqF l = ([], 0, 12) := by
  obtain ⟨g, _, _, e⟩ := h.step hc; rw [e]; simp; omega
theorem UnqAt.done {l : List UInt8} {k f : Nat} {acc : List UInt8} (h : UnqAt l k f acc) (hc : l[k]? = some 34) (ha : ¬ 60 < acc.length) : unqF l = (acc, k + 1, 0) := by
  obtain ⟨g, _, _, e⟩ := h.step hc; rw [e]; simp; omega
theorem UnqAt.esc_no {l : List UInt8} {k f : Nat} {acc : List UInt8} (h : UnqAt l k f acc) (hc : l[k]? = some 92) (he : (escF (l.drop (k + 1))).2.2 ≠ 0) : unqF l = ([], 0, (escF (l.drop (k + 1))).2.2) := by
  obtain ⟨g, _, _, e⟩ := h.step hc; rw [e]; simp [he]
theorem UnqAt.esc_ok {l : List UInt8} {k f : Nat} {acc : List UInt8} (h : UnqAt l k f acc) (hc : l[k]? = some 92) (he : (escF (l.drop (k + 1))).2.2 = 0) :
    ∃ g, UnqAt l (k + 1 + (escF (l.drop (k + 1))).2.1) g (acc ++ [(escF (l.drop (k + 1))).1]) := by
  obtain ⟨g, hg, hk, e⟩ := h.step hc
  obtain ⟨n1, n2, n3⟩ := escF_len _ he
  rw [List.length_drop] at n2
  have := h.fuel; have := h.few
  refine ⟨g, by omega, by omega, by simp; omega, ?_⟩
  rw [e, List.drop_drop]; simp [he]
theorem UnqAt.bad {l : List UInt8} {k f : Nat} {acc : List UInt8} (h : UnqAt l k f acc) {c : UInt8} (hc : l[k]? = some c) (h1 : c ≠ 10) (h2 : c ≠ 34) (h3 : c ≠ 92) (hp : plainB c = false) : unqF l = ([], 0, 10) := by
  obtain ⟨g, _, _, e⟩ := h.step hc; rw [e]; simp [h1, h2, h3, hp]
theorem UnqAt.next {l : List UInt8} {k f : Nat} {acc : List UInt8} (h : UnqAt l k f acc) {c : UInt8} (hc : l[k]? = some c) (h1 : c ≠ 10) (hp : plainB c = true) : ∃ g, UnqAt l (k + 1) g (acc ++ [c]) := by
  obtain ⟨g, hg, hk, e⟩ := h.step hc
  have h2 : c ≠ 34 := by rintro rfl; revert hp; decide
  have h3 : c ≠ 92 := by rintro rfl; revert hp; decide
  have := h.fuel; have := h.few
  refine ⟨g, by omega, by omega, by simp; omega, ?_⟩
  rw [e]; simp [h1, h2, h3, hp]
theorem own_val {w : World} {base e n : Nat} {v : Value} {xs : List Value} (h : w.ownsRow base e 1 v n xs) : ∃ A c, v = .slice A n c := by
  rcases h.2 with ⟨rfl, rfl⟩ | ⟨g, cap, cur, rfl, _⟩
  · exact ⟨none, 0, rfl⟩
  · exact ⟨_, cap, rfl⟩
def UnqPost (l : List UInt8) (w : World) (e : Ending) (w' : World) : Prop :=
  e = .returned (.tuple #[.string ⟨(unqF l).1.toArray⟩, .int .i64 ((unqF l).2.1 : Int), .int .i64 (unqF l).2.2]) ∧ Below w.heap.size w w'
theorem unq_post {l : List UInt8} {w w' : World} {S : ByteArray} {n e : Int} {x : List UInt8} {m : Nat} (h : unqF l = (x, m, e)) (hS : S = ⟨x.toArray⟩) (hn : n = (m : Int)) (hb : Below w.heap.size w w') :
    UnqPost l w (.returned (.tuple #[.string S, .int .i64 n, .int .i64 e])) w' := by
  unfold UnqPost; rw [h, hS, hn]; exact ⟨rfl, hb⟩
def UnqRel (s : ByteArray) (w : World) (v i : Value) (wr : World) : Prop :=
  ∃ (k f : Nat) (acc : List UInt8), i = .int .i64 (k : Int) ∧ UnqAt s.data.toList k f acc ∧ wr.ownsRow w.heap.size 5 1 v acc.length (acc.map u8v) ∧ Below w.heap.size w wr
theorem rest_data (s : ByteArray) (k : Nat) : (s.extract k s.size).data.toList = s.data.toList.drop k := by
  rw [ByteArray.data_extract, Array.toList_extract]
  show (s.data.toList.drop k).take (s.size - k) = _
  rw [List.take_of_length_le (by rw [List.length_drop, size_data]; omega)]
theorem eq_u8 {c d : UInt8} (h : c = d) : ((c.toNat : Int) == (d.toNat : Int)) = true := by rw [h]; exact beq_self_eq_true _
theorem nq_u8 {c d : UInt8} (h : ¬ c = d) : ((c.toNat : Int) == (d.toNat : Int)) = false := by rw [beq_eq_false_iff_ne]; intro hh; exact h (UInt8.toNat.inj (by omega))
theorem own_keep {w w' : World} {base e n : Nat} {v : Value} {xs : List Value} (h : w.ownsRow base e 1 v n xs) (hb : Below w.heap.size w w') (_h : base ≤ w.heap.size) : w'.ownsRow base e 1 v n xs := by
  refine ⟨h.1, ?_⟩
  rcases h.2 with hh | ⟨g, cap, cur, hv, hg, hh, r⟩
  · exact .inl hh
  · refine .inr ⟨g, cap, cur, hv, hg, ?_, r⟩
    have hlt : g < w.heap.size := by
      rcases Nat.lt_or_ge g w.heap.size with h1 | h1
      · exact h1
      · rw [Array.getElem?_eq_none h1] at hh; cases hh
    rw [hb.block g hlt]; exact hh
set_option maxHeartbeats 4000000 in
theorem unquote_in (s : ByteArray) (w : World) (hs : s.size ≤ 1000) (h0 : 0 < s.size) (h34 : s[0] = 34) : Calls Tryd.prog 41 #[.string s] w (UnqPost s.data.toList w) := by
  have he := emp_f h0
  have he2 := emp_n h0
  have ht : ((s[0].toNat : Int) != 34) = false := by rw [h34]; rfl
  have hst : UnqAt s.data.toList 1 ((s.data.toList.drop 1).length + 1) [] := by
    have h := unq_start (r := s.data.toList.drop 1) h34
    rw [← data_cons s h0] at h
    exact h
  have HS := Lib.hid hst
  clear hst h34
  go_enter Tryd.func41, Tryd.ntmps41
  go_wp2_with fail
  go_loopw [5, 6] (UnqRel s w) (fun _ i _ => s.size + 1 - (intOf i).toNat)
  case atStart => exact ⟨1, _, [], rfl, HS.out, World.ownsRow_nil _ _ _ _, Below.refl _ _⟩
  case round =>
    obtain ⟨k, f, acc, rfl, ha, hown, hw⟩ := hrel
    clear HS
    have hkl := ha.le
    rw [size_data] at hkl
    have hfew := ha.few
    obtain ⟨A, cp, hv⟩ := own_val hown
    rw [hv] at hown ⊢
    clear hv
    by_cases hlt : k < s.size
    · have hge : ¬ (s.size : Int) ≤ k := by omega
      have hc := data_get s k hlt
      have HA := Lib.hid ha
      clear ha
      by_cases h10 : s[k] = 10
      · have t1 : ((s[k].toNat : Int) == 10) = true := eq_u8 h10
        rw [h10] at hc
        have HF := Lib.hid (HA.out.open_ hc)
        clear hc h10
        go_wp2
        go_ret3
        exact unq_post HF.out rfl rfl hw
      · have t1 : ((s[k].toNat : Int) == 10) = false := nq_u8 h10
        by_cases h34 : s[k] = 34
        · have t2 : ((s[k].toNat : Int) == 34) = true := eq_u8 h34
          rw [h34] at hc
          by_cases hl : 60 < acc.length
          · have HF := Lib.hid (HA.out.long hc hl)
            have hl' : 60 < (acc.length : Int) := by omega
            clear hc h34 h10
            go_wp2
            go_ret3
            exact unq_post HF.out rfl rfl hw
          · have HF := Lib.hid (HA.out.done hc hl)
            have hl' : ¬ 60 < (acc.length : Int) := by omega
            have hcv := conv_own hown rfl
            clear hc h34 h10
            go_wp2
            go_ret3
            exact unq_post HF.out rfl (by omega) hw
        · have t2 : ((s[k].toNat : Int) == 34) = false := nq_u8 h34
          by_cases h92 : s[k] = 92
          · have t3 : ((s[k].toNat : Int) == 92) = true := eq_u8 h92
            rw [h92] at hc
            have hd := rest_data s (k + 1)
            have hsz : (s.extract (k + 1) s.size).size ≤ 1000 := by simp; omega
            have hesc := fun W => escape_any (s.extract (k + 1) s.size) W hsz
            rw [hd] at hesc
            unfold EscPost at hesc
            have HE := Lib.hid hesc
            clear hesc hd hsz
            by_cases hz : (escF (s.data.toList.drop (k + 1))).2.2 = 0
            · obtain ⟨g, hg⟩ := HA.out.esc_ok hc hz
              have HG := Lib.hid hg
              obtain ⟨n1, n2, n3⟩ := escF_len _ hz
              rw [List.length_drop, size_data] at n2
              have HZ := Lib.hid hz
              clear hc h92 h10 h34 hz hg
              generalize escF (s.data.toList.drop (k + 1)) = r at *
              obtain ⟨rx, rn, re⟩ := r
              have hz := HZ.out
              dsimp only at hz n1 n2 n3
              subst hz
              go_wp2_with (first | (go_at_call 53; refine (HE.out _).mono ?_; rintro e w4 ⟨rfl, hb4⟩; replace hown := own_keep hown hb4 hw.size; replace hw := hw.trans (hb4.mono hw.size); clear HE) | (at_builtin; go_must (refine app_u8 rfl _ _ rfl rfl hown hw hw.size rfl rfl (by intro u hu; simp at hu; subst hu; rfl) (by omega) ?_); intro v' w' hown' hw' _))
              exact ⟨⟨k + 1 + rn, g, acc ++ [rx], by congr 1; omega, HG.out, by simpa [u8v] using hown', hw'⟩, by simp [intOf]; omega⟩
            · have HF := Lib.hid (HA.out.esc_no hc hz)
              have tz : ((escF (s.data.toList.drop (k + 1))).2.2 != 0) = true := by rw [bne_iff_ne]; exact hz
              clear hc h92 h10 h34 hz
              generalize escF (s.data.toList.drop (k + 1)) = r at *
              obtain ⟨rx, rn, re⟩ := r
              go_wp2_with (first | (go_at_call 53; refine (HE.out _).mono ?_; rintro e w4 ⟨rfl, hb4⟩; replace hw := hw.trans (hb4.mono hw.size); clear HE))
              go_ret3
              exact unq_post HF.out rfl rfl hw
          · have t3 : ((s[k].toNat : Int) == 92) = false := nq_u8 h92
            rcases hp : plainB s[k] with _ | _
            · have HF := Lib.hid (HA.out.bad hc h10 h34 h92 hp)
              clear hc h10 h34 h92
              go_wp2_with (first | (go_at_call 54; refine (plain_any _ _).mono ?_; rintro e w' ⟨rfl, rfl⟩) | (at_builtin; go_must (refine app_u8 rfl _ _ rfl rfl hown hw hw.size rfl rfl (by intro u hu; simp at hu; subst hu; rfl) (by omega) ?_); intro v' w' hown' hw' _))
              go_ret3
              exact unq_post HF.out rfl rfl hw
            · obtain ⟨g, hg⟩ := HA.out.next hc h10 hp
              have HG := Lib.hid hg
              clear hc h10 h34 h92 hg
              go_wp2_with (first | (go_at_call 54; refine (plain_any _ _).mono ?_; rintro e w' ⟨rfl, rfl⟩) | (at_builtin; go_must (refine app_u8 rfl _ _ rfl rfl hown hw hw.size rfl rfl (by intro u hu; simp at hu; subst hu; rfl) (by omega) ?_); intro v' w' hown' hw' _))
              exact ⟨⟨k + 1, g, acc ++ [s[k]], by congr 1, HG.out, by simpa [u8v] using hown', hw'⟩, by simp [intOf]; omega⟩
    · have hge : (s.size : Int) ≤ k := by omega
      have HF := Lib.hid (unq_end ha (by rw [size_data]; exact hlt))
      clear ha
      go_wp2
      go_ret3
      exact unq_post HF.out rfl rfl hw
set_option maxHeartbeats 400000 in
theorem unquote_out (s : ByteArray) (w : World) (h : ∀ h0 : 0 < s.size, s[0] ≠ 34) : Calls Tryd.prog 41 #[.string s] w (UnqPost s.data.toList w) := by
  by_cases h0 : 0 < s.size
  · have he := emp_f h0
    have he2 := emp_n h0
    have ht : ((s[0].toNat : Int) != 34) = true := ne_u8 (h h0)
    have HF : Hid (unqF s.data.toList = ([], 0, 14)) := by
      show unqF s.data.toList = _
      rw [data_cons s h0, unqF, if_neg (h h0)]
    clear h
    go_enter Tryd.func41, Tryd.ntmps41
    go_wp2_with fail
    go_ret3
    exact unq_post HF.out rfl rfl (Below.refl _ _)
  · have he := emp_t (by omega : s.size = 0)
    have HF : Hid (unqF s.data.toList = ([], 0, 14)) := by
      show unqF s.data.toList = _
      have e : s.data.toList = [] := List.eq_nil_of_length_eq_zero (by rw [size_data]; omega)
      rw [e]; rfl
    clear h h0
    go_enter Tryd.func41, Tryd.ntmps41
    go_wp2_with fail
    go_ret3
    exact unq_post HF.out rfl rfl (Below.refl _ _)
theorem unquote_any (s : ByteArray) (w : World) (hs : s.size ≤ 1000) : Calls Tryd.prog 41 #[.string s] w (UnqPost s.data.toList w) := by
  by_cases h : ∃ h0 : 0 < s.size, s[0] = 34
  · obtain ⟨h0, h1⟩ := h
    exact unquote_in s w hs h0 h1
  · exact unquote_out s w (fun h0 h1 => h ⟨h0, h1⟩)
theorem Ints.lit (w : World) (xs : List Int) : Ints (w.alloc (.cells (xs.map (Value.int .i64)).toArray 3)) (w.heap.size + 1) (some ⟨w.heap.size, 0, none⟩) xs.length xs :=
  ⟨rfl, fun _ => ⟨w.heap.size, 0, rfl, by omega, fun j hj => by
    rw [Nat.zero_add, (Whole.made w 3 _).cell j]
    simp [List.getD, List.getElem?_map, List.getElem?_eq_getElem hj]⟩⟩
set_option maxRecDepth 100000 in
set_option maxHeartbeats 1000000 in
theorem digit_any (c : UInt8) (w : World) :
    Calls Tryd.prog 45 #[.int .u8 (c.toNat : Int)] w fun e w' => e = .returned (.int .i64 (idxH c)) ∧ w = w' := by
  have hc := c.toNat_lt
  by_cases h1 : 48 ≤ c.toNat ∧ c.toNat ≤ 57
  · have HF : Hid (idxH c = (c.toNat : Int) - 48) := by
      show idxH c = _
      unfold idxH hexV; rw [if_pos h1]; show ((c.toNat - 48 : Nat) : Int) = _; omega
    have a1 : 48 ≤ (c.toNat : Int) := by omega
    have a2 : (c.toNat : Int) ≤ 57 := by omega
    clear h1
    go_enter Tryd.func45, Tryd.ntmps45
    go_wp2
    go_ret
    exact ⟨ret_i HF.out.symm, rfl⟩
  · by_cases h2 : 97 ≤ c.toNat ∧ c.toNat ≤ 102
    · have HF : Hid (idxH c = (c.toNat : Int) - 97 + 10) := by
        show idxH c = _
        unfold idxH hexV; rw [if_neg h1, if_pos h2]; show ((c.toNat - 87 : Nat) : Int) = _; omega
      have a1 : 48 ≤ (c.toNat : Int) := by omega
      have a2 : ¬ (c.toNat : Int) ≤ 57 := by omega
      have a3 : 97 ≤ (c.toNat : Int) := by omega
      have a4 : (c.toNat : Int) ≤ 102 := by omega
      clear h1 h2
      go_enter Tryd.func45, Tryd.ntmps45
      go_wp2
      go_ret
      exact ⟨ret_i HF.out.symm, rfl⟩
    · have HF : Hid (idxH c = -1) := by
        show idxH c = _
        unfold idxH hexV; rw [if_neg h1, if_neg h2]
      generalize idxH c = v at *
      rcases (by omega : c.toNat < 48 ∨ (57 < c.toNat ∧ c.toNat < 97) ∨ 102 < c.toNat) with h3 | ⟨h3, h4⟩ | h3
      all_goals
        have a0 : (c.toNat : Int) < 256 := by omega
        have H1 := Lib.hid h1; have H2 := Lib.hid h2
        clear h1 h2
      · have a1 : (c.toNat : Int) < 48 := by omega
        have a2 : (c.toNat : Int) < 97 := by omega
        go_enter Tryd.func45, Tryd.ntmps45
        go_wp2
        go_ret
        exact ⟨ret_i HF.out.symm, rfl⟩
      · have a1 : 48 ≤ (c.toNat : Int) := by omega
        have a2 : 57 < (c.toNat : Int) := by omega
        have a3 : (c.toNat : Int) < 97 := by omega
        go_enter Tryd.func45, Tryd.ntmps45
        go_wp2
        go_ret
        exact ⟨ret_i HF.out.symm, rfl⟩
      · have a1 : 48 ≤ (c.toNat : Int) := by omega
        have a2 : 57 < (c.toNat : Int) := by omega
        have a3 : 97 ≤ (c.toNat : Int) := by omega
        have a4 : 102 < (c.toNat : Int) := by omega
        go_enter Tryd.func45, Tryd.ntmps45
        go_wp2
        go_ret
        exact ⟨ret_i HF.out.symm, rfl⟩
theorem esc_at {s : ByteArray} {k : Nat} (h : k < s.size) : escF (s.data.toList.drop k) = (if s[k] = 110 then (10, 1, 0) else if s[k] = 34 then (34, 1, 0) else if s[k] = 92 then (92, 1, 0) else if s[k] = 120 then escX (s.data.toList.drop (k + 1)) else (0, 0, 10)) := by
  rw [drop_more s k h, escF]
theorem ex_0 {s : ByteArray} {k : Nat} (h : ¬ k < s.size) : escX (s.data.toList.drop k) = (0, 0, 11) := by rw [drop_end s k h]; rfl
theorem ex_1 {s : ByteArray} {k : Nat} (h : k < s.size) (hv : hexV s[k] = none) : escX (s.data.toList.drop k) = (0, 0, 10) := by rw [drop_more s k h, escX, hv]
theorem ex_2 {s : ByteArray} {k : Nat} (h : k < s.size) {p : Nat} (hv : hexV s[k] = some p) (h2 : ¬ k + 1 < s.size) : escX (s.data.toList.drop k) = (0, 0, 11) := by rw [drop_more s k h, escX, hv, drop_end s (k + 1) h2]
theorem ex_3 {s : ByteArray} {k : Nat} (h : k < s.size) {p : Nat} (hv : hexV s[k] = some p) (h2 : k + 1 < s.size) (hw : hexV s[k + 1] = none) : escX (s.data.toList.drop k) = (0, 0, 10) := by
  rw [drop_more s k h, escX, hv]
  show (match s.data.toList.drop (k + 1) with | [] => _ | y :: _ => _) = _
  rw [drop_more s (k + 1) h2]; show (match hexV s[k + 1] with | none => _ | some q => _) = _; rw [hw]
theorem ex_4 {s : ByteArray} {k : Nat} (h : k < s.size) {p q : Nat} (hv : hexV s[k] = some p) (h2 : k + 1 < s.size) (hw : hexV s[k + 1] = some q) : escX (s.data.toList.drop k) = (UInt8.ofNat (16 * p + q), 3, 0) := by
  rw [drop_more s k h, escX, hv]
  show (match s.data.toList.drop (k + 1) with | [] => _ | y :: _ => _) = _
  rw [drop_more s (k + 1) h2]; show (match hexV s[k + 1] with | none => _ | some q => _) = _; rw [hw]
def YRel (s : ByteArray) (k : Nat) (i n j : Value) : Prop :=
  (i = .int .i64 (k : Int) ∧ n = .int .i64 0 ∧ j = .int .i64 0) ∨ (∃ p, ∃ h : k < s.size, hexV s[k] = some p ∧ i = .int .i64 ((k + 1 : Nat) : Int) ∧ n = .int .i64 (p : Int) ∧ j = .int .i64 1) ∨
  (∃ p q, ∃ h : k + 1 < s.size, hexV s[k] = some p ∧ hexV s[k + 1] = some q ∧ i = .int .i64 ((k + 2 : Nat) : Int) ∧ n = .int .i64 ((16 * p + q : Nat) : Int) ∧ j = .int .i64 2)
set_option maxRecDepth 100000 in
set_option maxHeartbeats 4000000 in
theorem runquote_in (s : ByteArray) (w : World) (hs : s.size ≤ 1000) (h0 : 0 < s.size) (h34 : s[0] = 34) : Calls Tryd.prog 33 #[.string s] w (UnqPost s.data.toList w) := by
  have he : ((s.size : Int) == 0) = false := by rw [beq_eq_false_iff_ne]; omega
  have ht : ((s[0].toNat : Int) != 34) = false := by rw [h34]; rfl
  have hst : UnqAt s.data.toList 1 ((s.data.toList.drop 1).length + 1) [] := by
    have h := unq_start (r := s.data.toList.drop 1) h34
    rw [← data_cons s h0] at h
    exact h
  have HS := Lib.hid hst
  clear hst h34
  go_enter Tryd.func33, Tryd.ntmps33
  go_wp2_with fail
  go_loopw [5, 6] (UnqRel s w) (fun _ i _ => s.size + 1 - (intOf i).toNat)
  case atStart => exact ⟨1, _, [], rfl, HS.out, World.ownsRow_nil _ _ _ _, Below.refl _ _⟩
  case round =>
    obtain ⟨k, f, acc, rfl, ha, hown, hw⟩ := hrel
    clear HS
    have hkl := ha.le
    rw [size_data] at hkl
    have hfew := ha.few
    obtain ⟨A, cp, hv⟩ := own_val hown
    rw [hv] at hown ⊢
    clear hv
    by_cases hlt : k < s.size
    · have hge : ¬ (s.size : Int) ≤ k := by omega
      have hc := data_get s k hlt
      have hc8 := s[k].toNat_lt
      have HA := Lib.hid ha
      clear ha
      by_cases h34 : s[k] = 34
      · have t2 : ((s[k].toNat : Int) != 34) = false := by rw [h34]; rfl
        rw [h34] at hc
        by_cases hl : 60 < acc.length
        · have HF := Lib.hid (HA.out.long hc hl)
          have hl' : 60 < (acc.length : Int) := by omega
          clear hc h34
          go_wp2
          go_ret3
          exact unq_post HF.out rfl rfl hw
        · have HF := Lib.hid (HA.out.done hc hl)
          have hl' : ¬ 60 < (acc.length : Int) := by omega
          have hcv := conv_own hown rfl
          clear hc h34
          go_wp2
          go_ret3
          exact unq_post HF.out rfl (by omega) hw
      · have t2 : ((s[k].toNat : Int) != 34) = true := ne_u8 h34
        by_cases h10 : s[k] = 10
        · have t1 : ((s[k].toNat : Int) == 10) = true := eq_u8 h10
          rw [h10] at hc
          have HF := Lib.hid (HA.out.open_ hc)
          clear hc h10 h34
          go_wp2
          go_ret3
          exact unq_post HF.out rfl rfl hw
        · have t1 : ((s[k].toNat : Int) == 10) = false := nq_u8 h10
          by_cases h92 : s[k] = 92
          · have t3 : ((s[k].toNat : Int) != 92) = false := by rw [h92]; rfl
            have p1 : 32 ≤ (s[k].toNat : Int) := by rw [h92]; decide
            have p2 : (s[k].toNat : Int) ≤ 126 := by rw [h92]; decide
            rw [h92] at hc
            have hno := HA.out.esc_no hc
            have hok := HA.out.esc_ok hc
            clear h10 h34 h92 hc
            by_cases hk1 : k + 1 < s.size
            · have hk1' : ¬ (s.size : Int) ≤ (k : Int) + 1 := by omega
              have hd1 := s[k + 1].toNat_lt
              have hes := esc_at hk1
              by_cases n1 : s[k + 1] = 110
              · rw [if_pos n1] at hes
                obtain ⟨g, hg⟩ := hok (by rw [hes])
                rw [hes] at hg
                have HG := Lib.hid hg
                have u1 : ((s[k + 1].toNat : Int) == 110) = true := eq_u8 n1
                clear hno hok hes hg n1
                go_wp2_with (at_builtin; go_must (refine app_u8 rfl _ _ rfl rfl hown hw hw.size rfl rfl (by intro u hu; simp at hu; subst hu; rfl) (by omega) ?_); intro v' w' hown' hw' _)
                exact ⟨⟨k + 1 + 1, g, acc ++ [10], by congr 1, HG.out, by simpa [u8v] using hown', hw'⟩, by simp [intOf]; omega⟩
              · have u1 : ((s[k + 1].toNat : Int) == 110) = false := nq_u8 n1
                rw [if_neg n1] at hes
                by_cases n2 : s[k + 1] = 34
                · rw [if_pos n2] at hes
                  obtain ⟨g, hg⟩ := hok (by rw [hes])
                  rw [hes] at hg
                  have HG := Lib.hid hg
                  have u2 : (s[k + 1].toNat : Int) = 34 := by rw [n2]; rfl
                  clear hno hok hes hg n1 n2
                  go_wp2_with (at_builtin; go_must (refine app_u8 rfl _ _ rfl rfl hown hw hw.size rfl rfl (by intro u hu; simp at hu; subst hu; rfl) (by omega) ?_); intro v' w' hown' hw' _)
                  exact ⟨⟨k + 1 + 1, g, acc ++ [34], by congr 1, HG.out, by simpa [u8v] using hown', hw'⟩, by simp [intOf]; omega⟩
                · have u2 : ((s[k + 1].toNat : Int) == 34) = false := nq_u8 n2
                  rw [if_neg n2] at hes
                  by_cases n3 : s[k + 1] = 92
                  · rw [if_pos n3] at hes
                    obtain ⟨g, hg⟩ := hok (by rw [hes])
                    rw [hes] at hg
                    have HG := Lib.hid hg
                    have u3 : (s[k + 1].toNat : Int) = 92 := by rw [n3]; rfl
                    clear hno hok hes hg n1 n2 n3 u1 u2
                    go_wp2_with (at_builtin; go_must (refine app_u8 rfl _ _ rfl rfl hown hw hw.size rfl rfl (by intro u hu; simp at hu; subst hu; rfl) (by omega) ?_); intro v' w' hown' hw' _)
                    exact ⟨⟨k + 1 + 1, g, acc ++ [92], by congr 1, HG.out, by simpa [u8v] using hown', hw'⟩, by simp [intOf]; omega⟩
                  · have u3 : ((s[k + 1].toNat : Int) == 92) = false := nq_u8 n3
                    rw [if_neg n3] at hes
                    by_cases n4 : s[k + 1] = 120
                    · rw [if_pos n4] at hes
                      have u4x : ((s[k + 1].toNat : Int) == 120) = true := eq_u8 n4
                      have HE := Lib.hid hes; have HNO := Lib.hid hno; have HOK := Lib.hid hok
                      clear hno hok hes n1 n2 n3 n4
                      go_wp2
                      go_loop [6, 9, 10] (fun i n j => YRel s (k + 2) i n j) (fun _ _ j => 2 - (intOf j).toNat)
                      case atStart => exact .inl ⟨by congr 1, rfl, rfl⟩
                      case round =>
                        rcases hrel with ⟨rfl, rfl, rfl⟩ | ⟨p, h1, hv, rfl, rfl, rfl⟩ | ⟨p, q, h2, hv, hv2, rfl, rfl, rfl⟩
                        · by_cases h1 : k + 2 < s.size
                          · have h1' : ¬ (s.size : Int) ≤ (k : Int) + 2 := by omega
                            rcases hv : hexV s[k + 2] with _ | p
                            · have hix := fun W => digit_any s[k + 2] W
                              rw [idx_none hv] at hix
                              have he := HE.out
                              rw [ex_1 h1 hv] at he
                              have HF := Lib.hid (HNO.out (by rw [he]; decide))
                              rw [he] at HF
                              have HI := Lib.hid hix
                              clear hv hix he
                              go_wp2_with (go_at_call 45; refine (HI.out _).mono ?_; rintro e w' ⟨rfl, rfl⟩)
                              go_ret3
                              exact unq_post HF.out rfl rfl hw
                            · have hix := fun W => digit_any s[k + 2] W
                              rw [idx_some hv] at hix
                              have hp := hexV_lt hv
                              have HI := Lib.hid hix; have HV := Lib.hid hv
                              clear hv hix
                              go_wp2_with (go_at_call 45; refine (HI.out _).mono ?_; rintro e w' ⟨rfl, rfl⟩)
                              go_round
                              case rel => exact .inr (.inl ⟨p, h1, HV.out, by congr 1, by congr 1, rfl⟩)
                              case measure => simp [intOf]
                          · have h1' : (s.size : Int) ≤ (k : Int) + 2 := by omega
                            have he := HE.out
                            rw [ex_0 h1] at he
                            have HF := Lib.hid (HNO.out (by rw [he]; decide))
                            rw [he] at HF
                            clear he
                            go_wp2
                            go_ret3
                            exact unq_post HF.out rfl rfl hw
                        · have hp := hexV_lt hv
                          by_cases h2 : k + 3 < s.size
                          · have h2' : ¬ (s.size : Int) ≤ (k : Int) + 2 + 1 := by omega
                            have h2'' : ¬ (s.size : Int) ≤ (k : Int) + 3 := by omega
                            rcases hv2 : hexV s[k + 3] with _ | q
                            · have hix := fun W => digit_any s[k + 3] W
                              rw [idx_none hv2] at hix
                              have he := HE.out
                              rw [ex_3 h1 hv h2 hv2] at he
                              have HF := Lib.hid (HNO.out (by rw [he]; decide))
                              rw [he] at HF
                              have HI := Lib.hid hix
                              clear hv hv2 hix he
                              go_wp2_with (go_at_call 45; refine (HI.out _).mono ?_; rintro e w' ⟨rfl, rfl⟩)
                              go_ret3
                              exact unq_post HF.out rfl rfl hw
                            · have hix := fun W => digit_any s[k + 3] W
                              rw [idx_some hv2] at hix
                              have hq := hexV_lt hv2
                              have HI := Lib.hid hix; have HV := Lib.hid hv; have HV2 := Lib.hid hv2
                              clear hv hv2 hix
                              go_wp2_with (go_at_call 45; refine (HI.out _).mono ?_; rintro e w' ⟨rfl, rfl⟩)
                              go_round
                              case rel => exact .inr (.inr ⟨p, q, h2, HV.out, HV2.out, by congr 1, by congr 1, rfl⟩)
                              case measure => simp [intOf]
                          · have h2' : (s.size : Int) ≤ (k : Int) + 2 + 1 := by omega
                            have h2'' : (s.size : Int) ≤ (k : Int) + 3 := by omega
                            have he := HE.out
                            rw [ex_2 h1 hv h2] at he
                            have HF := Lib.hid (HNO.out (by rw [he]; decide))
                            rw [he] at HF
                            clear he hv
                            go_wp2
                            go_ret3
                            exact unq_post HF.out rfl rfl hw
                        · have hp := hexV_lt hv
                          have hq := hexV_lt hv2
                          have he := HE.out
                          rw [ex_4 (by omega) hv h2 hv2] at he
                          obtain ⟨g, hg⟩ := HOK.out (by rw [he])
                          rw [he] at hg
                          have HG := Lib.hid hg
                          have hwr : ((UInt8.ofNat (16 * p + q)).toNat : Int) = ((16 * p + q : Nat) : Int) := by rw [UInt8.toNat_ofNat']; omega
                          have HR := Lib.hid hwr
                          have hlt2 : 16 * p + q < 256 := by omega
                          generalize 16 * p + q = t at *
                          clear hv hv2 hwr he hg
                          go_wp2_with (at_builtin; go_must (refine app_u8 rfl _ _ rfl rfl hown hw hw.size rfl rfl (by intro u hu; simp at hu; subst hu; rfl) (by omega) ?_); intro v' w' hown' hw' _)
                          exact ⟨⟨k + 1 + 3, g, acc ++ [UInt8.ofNat t], by congr 1, HG.out, by rw [List.map_append, List.map_cons, u8v, HR.out, List.length_append]; exact hown', hw'⟩, by simp [intOf]; omega⟩
                    · rw [if_neg n4] at hes
                      have HF := Lib.hid (hno (by rw [hes]; decide))
                      rw [hes] at HF
                      have u4x : ((s[k + 1].toNat : Int) == 120) = false := nq_u8 n4
                      clear hno hok hes n1 n2 n3 n4
                      go_wp2
                      go_ret3
                      exact unq_post HF.out rfl rfl hw
            · have hk1' : (s.size : Int) ≤ (k : Int) + 1 := by omega
              have hes : escF (s.data.toList.drop (k + 1)) = (0, 0, 11) := by rw [drop_end s (k + 1) hk1]; rfl
              have HF := Lib.hid (hno (by rw [hes]; decide))
              rw [hes] at HF
              clear hno hok hes
              go_wp2
              go_ret3
              exact unq_post HF.out rfl rfl hw
          · have t3 : ((s[k].toNat : Int) != 92) = true := ne_u8 h92
            rcases hp : plainB s[k] with _ | _
            · have HF := Lib.hid (HA.out.bad hc h10 h34 h92 hp)
              have hr : (s[k].toNat : Int) < 32 ∨ 126 < (s[k].toNat : Int) := by
                unfold plainB at hp
                rw [t2, t3] at hp
                simp only [Bool.and_true, Bool.and_eq_false_iff, decide_eq_false_iff_not] at hp
                omega
              clear hc h10 h34 h92 hp
              rcases hr with hr | hr
              · go_wp2
                go_ret3
                exact unq_post HF.out rfl rfl hw
              · have hr2 : 32 ≤ (s[k].toNat : Int) := by omega
                go_wp2
                go_ret3
                exact unq_post HF.out rfl rfl hw
            · obtain ⟨g, hg⟩ := HA.out.next hc h10 hp
              have HG := Lib.hid hg
              have hr : 32 ≤ (s[k].toNat : Int) ∧ (s[k].toNat : Int) ≤ 126 := by
                unfold plainB at hp
                simp only [Bool.and_eq_true, decide_eq_true_eq] at hp
                exact ⟨hp.1.1.1, hp.1.1.2⟩
              obtain ⟨r1, r2⟩ := hr
              clear hc h10 h34 h92 hg hp
              go_wp2_with (at_builtin; go_must (refine app_u8 rfl _ _ rfl rfl hown hw hw.size rfl rfl (by intro u hu; simp at hu; subst hu; rfl) (by omega) ?_); intro v' w' hown' hw' _)
              exact ⟨⟨k + 1, g, acc ++ [s[k]], by congr 1, HG.out, by simpa [u8v] using hown', hw'⟩, by simp [intOf]; omega⟩
    · have hge : (s.size : Int) ≤ k := by omega
      have HF := Lib.hid (unq_end ha (by rw [size_data]; exact hlt))
      clear ha
      go_wp2
      go_ret3
      exact unq_post HF.out rfl rfl hw
set_option maxHeartbeats 400000 in
theorem runquote_out (s : ByteArray) (w : World) (hs : s.size ≤ 1000) (h : ∀ h0 : 0 < s.size, s[0] ≠ 34) : Calls Tryd.prog 33 #[.string s] w (UnqPost s.data.toList w) := by
  by_cases h0 : 0 < s.size
  · have he : ((s.size : Int) == 0) = false := by rw [beq_eq_false_iff_ne]; omega
    have ht : ((s[0].toNat : Int) != 34) = true := ne_u8 (h h0)
    have HF : Hid (unqF s.data.toList = ([], 0, 14)) := by
      show unqF s.data.toList = _
      rw [data_cons s h0, unqF, if_neg (h h0)]
    clear h
    go_enter Tryd.func33, Tryd.ntmps33
    go_wp2_with fail
    go_ret3
    exact unq_post HF.out rfl rfl (Below.refl _ _)
  · have he : ((s.size : Int) == 0) = true := by rw [beq_iff_eq]; omega
    have HF : Hid (unqF s.data.toList = ([], 0, 14)) := by
      show unqF s.data.toList = _
      have e : s.data.toList = [] := List.eq_nil_of_length_eq_zero (by rw [size_data]; omega)
      rw [e]; rfl
    clear h h0
    go_enter Tryd.func33, Tryd.ntmps33
    go_wp2_with fail
    go_ret3
    exact unq_post HF.out rfl rfl (Below.refl _ _)
theorem runquote_any (s : ByteArray) (w : World) (hs : s.size ≤ 1000) : Calls Tryd.prog 33 #[.string s] w (UnqPost s.data.toList w) := by
  by_cases h : ∃ h0 : 0 < s.size, s[0] = 34
  · obtain ⟨h0, h1⟩ := h
    exact runquote_in s w hs h0 h1
  · exact runquote_out s w hs (fun h0 h1 => h ⟨h0, h1⟩)
end Go.Proofs.YtmjjjnmfkdidgaaDoor.S
