import Derived.WalkKit
import Derived.Deep.Draws
import Derived.Laws.Rows
import Derived.Laws.BitsAllLaws
import Derived.WalkSpells
import Derived.WalkLawsBesides
import Derived.Lib.Hide
import Derived.Deep.DeepMust
import Derived.Deep.QuietTactic
import Derived.BigQuiet
import Derived.StillTailTactics
import Derived.IntWalk
import Derived.Deep.RegionHeld3
import Derived.Deep.AppendLies
import Derived.Laws.BytesArg
import Derived.Maps.Own
import Derived.Maps.OwnOps
import Derived.Maps.OwnSet
import Derived.Deep.RegionWith
import Derived.OpenShut
import Derived.Test.YtgjchgmlogbmmaaProg
import Derived.KernelRfl
/- Short names for what the walks say often. -/
namespace Go.Proofs.Ytgjchgmlogbmmaa

set_option hygiene false in
macro "zput" : tactic => `(tactic| (try simp only [Act.put, List.setIfInBounds_toArray, List.set_cons_zero, List.set_cons_succ, List.getElem_toArray, List.getElem_cons_zero, List.getElem_cons_succ]))
set_option hygiene false in
macro "ztk " i:num n:num : tactic => `(tactic| (refine anyZ_take (i := $i) (v := ?_) rfl (by kernel_rfl) (by kernel_rfl) (by kernel_rfl) (by kernel_rfl) (by kernel_rfl) (fun k hk => by have hk2 : $n ≤ k := hk; simp; omega) (fun _ _ _ h => h) (Or.inl ⟨by rfl, ?_⟩) (by assumption) ?_; rotate_left))
set_option hygiene false in
macro "ztki " i:num n:num : tactic => `(tactic| (refine anyZ_take (i := $i) (v := ?_) rfl (by kernel_rfl) (by kernel_rfl) (by kernel_rfl) (by kernel_rfl) (by kernel_rfl) (fun k hk => by have hk2 : $n ≤ k := hk; rfl) (fun _ _ _ h => h) (Or.inl ⟨by rfl, ?_⟩) (by assumption) ?_; rotate_left))
set_option hygiene false in
macro "ztake " i:num n:num : tactic => `(tactic| (ztk $i $n; · (intro w hSw; (try dsimp only at hSw); go_simp; try with_reducible rfl); zput))
set_option hygiene false in
macro "ztaki " i:num n:num : tactic => `(tactic| (ztki $i $n; · (intro w hSw; (try dsimp only at hSw); go_simp; try with_reducible rfl); zput))
set_option hygiene false in
macro "zcells" : tactic => `(tactic| (intro w hSw; (try dsimp only at hSw); have u0 := hSw.cell 0; have u1 := hSw.cell 1; have u2 := hSw.cell 2; have u3 := hSw.cell 3; have u4 := hSw.cell 4; have u5 := hSw.cell 5; simp only [ndL, List.getElem?_toArray, List.getElem?_cons_zero, List.getElem?_cons_succ] at u0 u1 u2 u3 u4 u5; clear hSw; go_simp; try with_reducible rfl))
set_option hygiene false in
macro "zstep " i:num : tactic => `(tactic| refine anyZ_step (i := $i) (by kernel_rfl) rfl (fun K hK => ?_))
set_option hygiene false in
macro "zdone" : tactic => `(tactic| refine anyZ_done (by kernel_rfl) ?_ _)
set_option hygiene false in
macro "zgo" : tactic => `(tactic| refine hK.out _ _ (fun _ => trivial) (fun _ => ?_))
set_option hygiene false in
macro "zgoz" : tactic => `(tactic| refine hK.out _ _ (fun h => absurd h (by decide)) (fun _ => ?_))
set_option hygiene false in
macro "zzero " w:ident " (" a:term ") " "(" h:term ")" : tactic => `(tactic| (have z0 : Go.World.cell? $w ⟨$a, 0, none⟩ = some (.int .i64 0) := ($h).cell 0; have z1 : Go.World.cell? $w ⟨$a, 1, none⟩ = some (.string ⟨#[]⟩) := ($h).cell 1; have z2 : Go.World.cell? $w ⟨$a, 2, none⟩ = some (.int .i64 0) := ($h).cell 2; have z3 : Go.World.cell? $w ⟨$a, 3, none⟩ = some (.int .i64 0) := ($h).cell 3; have z4 : Go.World.cell? $w ⟨$a, 4, none⟩ = some (.slice none 0 0) := ($h).cell 4; have z5 : Go.World.cell? $w ⟨$a, 5, none⟩ = some (.slice none 0 0) := ($h).cell 5))
set_option hygiene false in
macro "zfree " "(" h:term ")" : tactic => `(tactic| (have y0 := ($h).free 0; have y1 := ($h).free 1; have y2 := ($h).free 2; have y3 := ($h).free 3; have y4 := ($h).free 4; have y5 := ($h).free 5))
set_option hygiene false in
macro "gcells" : tactic => `(tactic| (have g0 := HZF.out.cell 0; have g1 := HZF.out.cell 1; have g2 := HZF.out.cell 2; have g3 := HZF.out.cell 3; have g4 := HZF.out.cell 4; have g5 := HZF.out.cell 5; simp only [List.getElem?_toArray, List.getElem?_cons_zero, List.getElem?_cons_succ] at g0 g1 g2 g3 g4 g5))
set_option hygiene false in
macro "zZ" : term => `(#[.int .i64 0, .string ⟨#[]⟩, .int .i64 0, .int .i64 0, .slice none 0 0, .slice none 0 0])
set_option hygiene false in
macro "zN(" x:ident "," f:ident ")" : term => `(#[.int .i64 (Nd.kd $x), .string ⟨(Nd.tx $x).toArray⟩, .int .i64 (Nd.nm $x), .int .i64 ((Nd.at_ $x : Nat) : Int), .slice (Fr.na $f) (Nd.ns $x).length (Fr.nc $f), .slice (Fr.ka $f) (Nd.ks $x).length (Fr.kc $f)])
set_option hygiene false in
macro "zP(" w:term "," g:term "," x:ident "," f:ident ")" : term => `(((((((($w).setCell ⟨$g, 0, none⟩ (.int .i64 (Nd.kd $x))).setCell ⟨$g, 1, none⟩ (.string ⟨(Nd.tx $x).toArray⟩)).setCell ⟨$g, 2, none⟩ (.int .i64 (Nd.nm $x))).setCell ⟨$g, 3, none⟩ (.int .i64 ((Nd.at_ $x : Nat) : Int))).setCell ⟨$g, 4, none⟩ (.slice (Fr.na $f) (Nd.ns $x).length (Fr.nc $f))).setCell ⟨$g, 5, none⟩ (.slice (Fr.ka $f) (Nd.ks $x).length (Fr.kc $f))))
set_option hygiene false in
macro "zP0(" w:term "," g:term ")" : term => `(((((((($w).setCell ⟨$g, 0, none⟩ (.int .i64 0)).setCell ⟨$g, 1, none⟩ (.string ⟨#[]⟩)).setCell ⟨$g, 2, none⟩ (.int .i64 0)).setCell ⟨$g, 3, none⟩ (.int .i64 0)).setCell ⟨$g, 4, none⟩ (.slice none 0 0)).setCell ⟨$g, 5, none⟩ (.slice none 0 0)))
set_option hygiene false in
macro "zv " v:ident k:num " (" w:term ") " "(" x:ident ")" : tactic => `(tactic| have $v : Go.World.frozen? $w ⟨gv, (Nd.ks $x).length * 6 + $k, none⟩ = false := (ZC.out $k (by decide)).2)
set_option hygiene false in
macro "zvf " v:ident k:num " (" w:term ") " "(" x:ident ")" : tactic => `(tactic| have $v : Go.World.frozen? $w ⟨gv, (Nd.ks $x).length * 6 + $k, none⟩ = false := (frozen_far HGN.out).trans (ZC.out $k (by decide)).2)
end Go.Proofs.Ytgjchgmlogbmmaa
/- Turned from another seat: runquote_any unqF escF_len escX_len. -/
namespace Go.Proofs.Ytgjchgmlogbmmaa.S
open Go.RowKit
open Go.RowKit Go.Maps
set_option linter.unusedVariables false

/-- Block g holds just these cells, none of them frozen. -/
def Whole (w : World) (g : Nat) (t : TypeId) (cs : Array Value) : Prop := w.heap[g]? = some (.cells cs t (0, 0))
theorem Whole.lt {w : World} {g : Nat} {t : TypeId} {cs : Array Value} (h : Whole w g t cs) : g < w.heap.size := by
  unfold Whole at h
  rcases Nat.lt_or_ge g w.heap.size with hl | hl
  · exact hl
  · rw [Array.getElem?_eq_none hl] at h; cases h
theorem Whole.cell {w : World} {g : Nat} {t : TypeId} {cs : Array Value} (h : Whole w g t cs) (i : Nat) : w.cell? ⟨g, i, none⟩ = cs[i]? :=
  cell_of_row w g i cs t (0, 0) h
theorem Whole.made (w : World) (t : TypeId) (cs : Array Value) : Whole (w.alloc (.cells cs t)) w.heap.size t cs := heap_alloc_new w _
theorem Whole.put {w : World} {g : Nat} {t : TypeId} {cs : Array Value} (h : Whole w g t cs) (i : Nat) (u : Value) : Whole (w.setCell ⟨g, i, none⟩ u) g t (cs.setIfInBounds i u) := by
  unfold Whole at h ⊢; simp [World.setCell, Array.getElem?_modify, h]
theorem Whole.alloc {w : World} {g : Nat} {t : TypeId} {cs : Array Value} (h : Whole w g t cs) (o : Obj) : Whole (w.alloc o) g t cs := (Below.heap_alloc w o g h.lt).trans h
theorem data_get (d : ByteArray) (k : Nat) (h : k < d.size) : d.data.toList[k]? = some d[k] := by
  rw [Array.getElem?_toList, Array.getElem?_eq_getElem (by simpa using h)]; rfl
theorem size_data (d : ByteArray) : d.data.toList.length = d.size := by simp
theorem ret_i {k : IntKind} {a b : Int} (h : a = b) : Ending.returned (.int k a) = .returned (.int k b) := by rw [h]
/-- Bytes that are written as themselves. -/
def plainB (c : UInt8) : Bool := decide (32 ≤ (c.toNat : Int)) && decide ((c.toNat : Int) ≤ 126) && ((c.toNat : Int) != 34) && ((c.toNat : Int) != 92)
def u8v (c : UInt8) : Value := .int .u8 (c.toNat : Int)
theorem Try.info5 : (Try.prog.info? 5).map (fun i => (i.zero, i.size, i.bytes)) = some (some (.int .u8 0), 1, 1) := by kernel_rfl
theorem app_u8 {ops : Array Oper} {rest : List Oper} {o : Oper} {a : Act} {Q : Exit → Act → World → Prop} {w0 wr : World} {base : Nat} {v : Value} {n m : Nat} {xs news : List Value} (hgd : o.guard = none) (s x : Operand)
    (ho : o.op = .call { callee := .builtin .append, args := #[s, x], argTypes := #[83, 83] }) (hs : a.eval s = v) (hown : wr.ownsRow base 5 1 v n xs) (hw : Below base w0 wr) (hb : base ≤ wr.heap.size)
    (hx : a.eval x = .slice (some ⟨wr.heap.size, 0, none⟩) m m) (hm : news.length = m) (h1 : ∀ u ∈ news, u.oneCell' = true) (hn : n + m ≤ 1000000000)
    (h : ∀ v' w', w'.ownsRow base 5 1 v' (n + m) (xs ++ news) → Below base w0 w' → base ≤ w'.heap.size → wpList Try.prog ops Q rest (a.put o.dst v') w') :
    wpList Try.prog ops Q (o :: rest) a (wr.alloc (.cells news.toArray 5)) := by
  obtain ⟨i0, hi, hz0, hz1, hz2⟩ := info_parts Try.info5
  refine wpList_append_own _ hgd s x 83 ho base 5 i0 (.int .u8 0) 1 1 Try.underlying83 hi hz0 hz1 hz2 rfl (by decide) v n xs hs (hown.alloc _) ⟨wr.heap.size, 0, none⟩ m m news hx (by omega) ?_ h1 ?_ ?_ ?_ ?_
  · intro j u hj
    have := (Whole.made wr 5 news.toArray).cell j
    have e : (⟨wr.heap.size, 0, none⟩ : Addr).add j = ⟨wr.heap.size, j, none⟩ := by unfold Addr.add; split <;> simp_all
    rw [e, this]; simpa using hj
  · unfold maxLen; omega
  · omega
  · simp; omega
  · intro v' w1 hown' hgrow _
    refine h v' w1 hown' ((hw.alloc hb _).grown hgrow (by simp; omega) (fun k hk => (hown.lt k hk).1)) ?_
    have := hgrow.size; simp at this; omega
theorem conv_own {w : World} {base n : Nat} {v : Value} {xs : List Value} {l : List UInt8} (h : w.ownsRow base 5 1 v n xs) (hx : xs = l.map u8v) : (convert 83 9 v).run Try.prog w = .ok (.string ⟨l.toArray⟩) w := by
  subst hx
  have hl := h.1
  rw [List.length_map, Nat.mul_one] at hl
  rcases h.2 with ⟨rfl, rfl⟩ | ⟨g, cap, cur, rfl, hg, hh, hn, hc, hs, ht⟩
  · have : l = [] := List.eq_nil_of_length_eq_zero hl
    subst this
    exact run_convert_bytes_nil w 83 5 Try.underlying83 Try.underlying5 0 0 9 Try.underlying9
  · have hr := run_convert_bytes_arg w 83 5 Try.underlying83 Try.underlying5 g 0 n cap (l.map fun c => (c.toNat : Int)) (by simpa using hl) (fun i hi => by
      have h1 : w.cell? ⟨g, 0 + i, none⟩ = cur[i]? := by rw [Nat.zero_add]; exact cell_of_row w g i cur 5 (0, 0) hh
      rw [h1]
      have h2 : cur[i]? = (cur.toList.take (n * 1))[i]? := by rw [List.getElem?_take, if_pos (by omega), Array.getElem?_toList]
      rw [h2, ht, List.getElem?_map]
      simp [List.getD, List.getElem?_map, List.getElem?_eq_getElem (show i < l.length by omega), u8v]) 9 Try.underlying9
    rw [hr]
    congr 2
    unfold strOfNums
    congr 2
    rw [List.map_map]
    conv => rhs; rw [← List.map_id l]
    apply List.map_congr_left
    intro b _
    simp
def hexV (c : UInt8) : Option Nat := if 48 ≤ c.toNat ∧ c.toNat ≤ 57 then some (c.toNat - 48) else if 97 ≤ c.toNat ∧ c.toNat ≤ 102 then some (c.toNat - 87) else none
def idxH (c : UInt8) : Int := match hexV c with | some p => (p : Int) | none => -1
/-- What stands behind a backslash: the byte, how many bytes, the error. -/
def escX : List UInt8 → UInt8 × Nat × Int
  | [] => (0, 0, 11)
  | x :: r => match hexV x with
    | none => (0, 0, 10)
    | some p => match r with
      | [] => (0, 0, 11)
      | y :: _ => match hexV y with
        | none => (0, 0, 10)
        | some q => (UInt8.ofNat (16 * p + q), 3, 0)
def escF : List UInt8 → UInt8 × Nat × Int
  | [] => (0, 0, 11)
  | a :: r => if a = 110 then (10, 1, 0) else if a = 34 then (34, 1, 0) else if a = 92 then (92, 1, 0) else if a = 120 then escX r else (0, 0, 10)
theorem hexV_lt {c : UInt8} {p : Nat} (h : hexV c = some p) : p < 16 := by
  unfold hexV at h
  split at h
  · injection h with h; omega
  · split at h
    · injection h with h; omega
    · cases h
theorem drop_more (s : ByteArray) (k : Nat) (h : k < s.size) : s.data.toList.drop k = s[k] :: s.data.toList.drop (k + 1) := by
  rw [List.drop_eq_getElem_cons (by rw [size_data]; exact h)]; rfl
theorem data_cons (s : ByteArray) (h : 0 < s.size) : s.data.toList = s[0] :: s.data.toList.drop 1 := drop_more s 0 h
theorem drop_end (s : ByteArray) (k : Nat) (h : ¬ k < s.size) : s.data.toList.drop k = [] := List.drop_eq_nil_of_le (by rw [size_data]; omega)
theorem idx_none {c : UInt8} (h : hexV c = none) : idxH c = -1 := by unfold idxH; rw [h]
theorem idx_some {c : UInt8} {p : Nat} (h : hexV c = some p) : idxH c = p := by unfold idxH; rw [h]
theorem ne_u8 {c d : UInt8} (h : ¬ c = d) : ((c.toNat : Int) != (d.toNat : Int)) = true := by rw [bne_iff_ne]; intro hh; exact h (UInt8.toNat.inj (by omega))
def unq : Nat → List UInt8 → List UInt8 → Nat → List UInt8 × Nat × Int
  | 0, _, _, _ => ([], 0, 11)
  | f + 1, rest, acc, k => match rest with
    | [] => ([], 0, 11)
    | c :: r =>
      if c = 10 then ([], 0, 11)
      else if c = 34 then (if 60 < acc.length then ([], 0, 12) else (acc, k + 1, 0))
      else if c = 92 then (if (escF r).2.2 = 0 then unq f (r.drop (escF r).2.1) (acc ++ [(escF r).1]) (k + 1 + (escF r).2.1) else ([], 0, (escF r).2.2))
      else if plainB c then unq f r (acc ++ [c]) (k + 1) else ([], 0, 10)
def unqF (l : List UInt8) : List UInt8 × Nat × Int := match l with
  | c :: r => if c = 34 then unq (r.length + 1) r [] 1 else ([], 0, 14)
  | [] => ([], 0, 14)
theorem escX_len (l : List UInt8) (h : (escX l).2.2 = 0) : (escX l).2.1 = 3 ∧ 2 ≤ l.length := by
  cases l with
  | nil => simp [escX] at h
  | cons x r =>
    rw [escX] at h ⊢
    cases hv : hexV x with
    | none => rw [hv] at h; simp at h
    | some p =>
      rw [hv] at h
      cases r with
      | nil => simp at h
      | cons y t =>
        dsimp only at h ⊢
        cases hw : hexV y with
        | none => rw [hw] at h; simp at h
        | some q => simp
theorem escF_len (l : List UInt8) (h : (escF l).2.2 = 0) : 1 ≤ (escF l).2.1 ∧ (escF l).2.1 ≤ l.length ∧ (escF l).2.1 ≤ 3 := by
  cases l with
  | nil => simp [escF] at h
  | cons a r =>
    rw [escF] at h ⊢
    split
    · simp
    · split
      · simp
      · split
        · simp
        · split
          · rename_i h1 h2 h3 h4
            rw [if_neg h1, if_neg h2, if_neg h3, if_pos h4] at h
            obtain ⟨e1, e2⟩ := escX_len r h
            rw [e1]; simp; omega
          · rename_i h1 h2 h3 h4
            rw [if_neg h1, if_neg h2, if_neg h3, if_neg h4] at h
            simp at h
/-- Where a reading stands. -/
structure UnqAt (l : List UInt8) (k f : Nat) (acc : List UInt8) : Prop where
  fuel : l.length < k + f
  le : k ≤ l.length
  few : acc.length ≤ k
  all : unqF l = unq f (l.drop k) acc k
theorem unq_start {c : UInt8} {r : List UInt8} (h : c = 34) : UnqAt (c :: r) 1 (r.length + 1) [] :=
  ⟨by simp, by simp, by simp, by rw [unqF, if_pos h]; rfl⟩
theorem unq_end {l : List UInt8} {k f : Nat} {acc : List UInt8} (h : UnqAt l k f acc) (hk : ¬ k < l.length) : unqF l = ([], 0, 11) := by
  rw [h.all, List.drop_eq_nil_of_le (by omega)]
  have := h.fuel; have := h.le
  cases f with
  | zero => rfl
  | succ f => rfl
theorem UnqAt.step {l : List UInt8} {k f : Nat} {acc : List UInt8} (h : UnqAt l k f acc) {c : UInt8} (hc : l[k]? = some c) : ∃ g, f = g + 1 ∧ k < l.length ∧ unqF l = (if c = 10 then ([], 0, 11)
      else if c = 34 then (if 60 < acc.length then ([], 0, 12) else (acc, k + 1, 0))
      else if c = 92 then (if (escF (l.drop (k + 1))).2.2 = 0 then unq g ((l.drop (k + 1)).drop (escF (l.drop (k + 1))).2.1) (acc ++ [(escF (l.drop (k + 1))).1]) (k + 1 + (escF (l.drop (k + 1))).2.1) else ([], 0, (escF (l.drop (k + 1))).2.2))
      else if plainB c then unq g (l.drop (k + 1)) (acc ++ [c]) (k + 1) else ([], 0, 10)) := by
  have hk : k < l.length := by
    rcases Nat.lt_or_ge k l.length with hk | hk
    · exact hk
    · rw [List.getElem?_eq_none hk] at hc; cases hc
  have hf := h.fuel
  obtain ⟨g, rfl⟩ : ∃ g, f = g + 1 := ⟨f - 1, by omega⟩
  have hd : l.drop k = c :: l.drop (k + 1) := by
    rw [List.getElem?_eq_getElem hk] at hc
    injection hc with hc
    rw [List.drop_eq_getElem_cons hk, hc]
  refine ⟨g, rfl, hk, ?_⟩
  rw [h.all, hd, unq]
theorem UnqAt.open_ {l : List UInt8} {k f : Nat} {acc : List UInt8} (h : UnqAt l k f acc) (hc : l[k]? = some 10) : unqF l = ([], 0, 11) := by
  obtain ⟨g, _, _, e⟩ := h.step hc; rw [e]; simp
theorem UnqAt.long {l : List UInt8} {k f : Nat} {acc : List UInt8} (h : UnqAt l k f acc) (hc : l[k]? = some 34) (ha : 60 < acc.length) : unqF l = ([], 0, 12) := by
  obtain ⟨g, _, _, e⟩ := h.step hc; rw [e]; simp; omega
theorem UnqAt.done {l : List UInt8} {k f : Nat} {acc : List UInt8} (h : UnqAt l k f acc) (hc : l[k]? = some 34) (ha : ¬ 60 < acc.length) : unqF l = (acc, k + 1, 0) := by
  obtain ⟨g, _, _, e⟩ := h.step hc; rw [e]; simp; omega
theorem UnqAt.esc_no {l : List UInt8} {k f : Nat} {acc : List UInt8} (h : UnqAt l k f acc) (hc : l[k]? = some 92) (he : (escF (l.drop (k + 1))).2.2 ≠ 0) : unqF l = ([], 0, (escF (l.drop (k + 1))).2.2) := by
  obtain ⟨g, _, _, e⟩ := h.step hc; rw [e]; simp [he]
theorem UnqAt.esc_ok {l : List UInt8} {k f : Nat} {acc : List UInt8} (h : UnqAt l k f acc) (hc : l[k]? = some 92) (he : (escF (l.drop (k + 1))).2.2 = 0) :
    ∃ g, UnqAt l (k + 1 + (escF (l.drop (k + 1))).2.1) g (acc ++ [(escF (l.drop (k + 1))).1]) := by
  obtain ⟨g, hg, hk, e⟩ := h.step hc
  obtain ⟨n1, n2, n3⟩ := escF_len _ he
  rw [List.length_drop] at n2
  have := h.fuel; have := h.few
  refine ⟨g, by omega, by omega, by simp; omega, ?_⟩
  rw [e, List.drop_drop]; simp [he]
theorem UnqAt.bad {l : List UInt8} {k f : Nat} {acc : List UInt8} (h : UnqAt l k f acc) {c : UInt8} (hc : l[k]? = some c) (h1 : c ≠ 10) (h2 : c ≠ 34) (h3 : c ≠ 92) (hp : plainB c = false) : unqF l = ([], 0, 10) := by
  obtain ⟨g, _, _, e⟩ := h.step hc; rw [e]; simp [h1, h2, h3, hp]
theorem UnqAt.next {l : List UInt8} {k f : Nat} {acc : List UInt8} (h : UnqAt l k f acc) {c : UInt8} (hc : l[k]? = some c) (h1 : c ≠ 10) (hp : plainB c = true) : ∃ g, UnqAt l (k + 1) g (acc ++ [c]) := by
  obtain ⟨g, hg, hk, e⟩ := h.step hc
  have h2 : c ≠ 34 := by rintro rfl; revert hp; decide
  have h3 : c ≠ 92 := by rintro rfl; revert hp; decide
  have := h.fuel; have := h.few
  refine ⟨g, by omega, by omega, by simp; omega, ?_⟩
  rw [e]; simp [h1, h2, h3, hp]
theorem own_val {w : World} {base e n : Nat} {v : Value} {xs : List Value} (h : w.ownsRow base e 1 v n xs) : ∃ A c, v = .slice A n c := by
  rcases h.2 with ⟨rfl, rfl⟩ | ⟨g, cap, cur, rfl, _⟩
  · exact ⟨none, 0, rfl⟩
  · exact ⟨_, cap, rfl⟩
def UnqPost (l : List UInt8) (w : World) (e : Ending) (w' : World) : Prop :=
  e = .returned (.tuple #[.string ⟨(unqF l).1.toArray⟩, .int .i64 ((unqF l).2.1 : Int), .int .i64 (unqF l).2.2]) ∧ Below w.heap.size w w'
theorem unq_post {l : List UInt8} {w w' : World} {S : ByteArray} {n e : Int} {x : List UInt8} {m : Nat} (h : unqF l = (x, m, e)) (hS : S = ⟨x.toArray⟩) (hn : n = (m : Int)) (hb : Below w.heap.size w w') :
    UnqPost l w (.returned (.tuple #[.string S, .int .i64 n, .int .i64 e])) w' := by
  unfold UnqPost; rw [h, hS, hn]; exact ⟨rfl, hb⟩
def UnqRel (s : ByteArray) (w : World) (v i : Value) (wr : World) : Prop :=
  ∃ (k f : Nat) (acc : List UInt8), i = .int .i64 (k : Int) ∧ UnqAt s.data.toList k f acc ∧ wr.ownsRow w.heap.size 5 1 v acc.length (acc.map u8v) ∧ Below w.heap.size w wr
theorem eq_u8 {c d : UInt8} (h : c = d) : ((c.toNat : Int) == (d.toNat : Int)) = true := by rw [h]; exact beq_self_eq_true _
theorem nq_u8 {c d : UInt8} (h : ¬ c = d) : ((c.toNat : Int) == (d.toNat : Int)) = false := by rw [beq_eq_false_iff_ne]; intro hh; exact h (UInt8.toNat.inj (by omega))
set_option maxRecDepth 100000 in
set_option maxHeartbeats 1000000 in
theorem digit_any (c : UInt8) (w : World) :
    Calls Try.prog 74 #[.int .u8 (c.toNat : Int)] w fun e w' => e = .returned (.int .i64 (idxH c)) ∧ w = w' := by
  have hc := c.toNat_lt
  by_cases h1 : 48 ≤ c.toNat ∧ c.toNat ≤ 57
  · have HF : Hid (idxH c = (c.toNat : Int) - 48) := by
      show idxH c = _
      unfold idxH hexV; rw [if_pos h1]; show ((c.toNat - 48 : Nat) : Int) = _; omega
    have a1 : 48 ≤ (c.toNat : Int) := by omega
    have a2 : (c.toNat : Int) ≤ 57 := by omega
    clear h1
    go_enter Try.func74, Try.ntmps74
    go_wp2
    go_ret
    exact ⟨ret_i HF.out.symm, rfl⟩
  · by_cases h2 : 97 ≤ c.toNat ∧ c.toNat ≤ 102
    · have HF : Hid (idxH c = (c.toNat : Int) - 97 + 10) := by
        show idxH c = _
        unfold idxH hexV; rw [if_neg h1, if_pos h2]; show ((c.toNat - 87 : Nat) : Int) = _; omega
      have a1 : 48 ≤ (c.toNat : Int) := by omega
      have a2 : ¬ (c.toNat : Int) ≤ 57 := by omega
      have a3 : 97 ≤ (c.toNat : Int) := by omega
      have a4 : (c.toNat : Int) ≤ 102 := by omega
      clear h1 h2
      go_enter Try.func74, Try.ntmps74
      go_wp2
      go_ret
      exact ⟨ret_i HF.out.symm, rfl⟩
    · have HF : Hid (idxH c = -1) := by
        show idxH c = _
        unfold idxH hexV; rw [if_neg h1, if_neg h2]
      generalize idxH c = v at *
      rcases (by omega : c.toNat < 48 ∨ (57 < c.toNat ∧ c.toNat < 97) ∨ 102 < c.toNat) with h3 | ⟨h3, h4⟩ | h3
      all_goals
        have a0 : (c.toNat : Int) < 256 := by omega
        have H1 := Lib.hid h1; have H2 := Lib.hid h2
        clear h1 h2
      · have a1 : (c.toNat : Int) < 48 := by omega
        have a2 : (c.toNat : Int) < 97 := by omega
        go_enter Try.func74, Try.ntmps74
        go_wp2
        go_ret
        exact ⟨ret_i HF.out.symm, rfl⟩
      · have a1 : 48 ≤ (c.toNat : Int) := by omega
        have a2 : 57 < (c.toNat : Int) := by omega
        have a3 : (c.toNat : Int) < 97 := by omega
        go_enter Try.func74, Try.ntmps74
        go_wp2
        go_ret
        exact ⟨ret_i HF.out.symm, rfl⟩
      · have a1 : 48 ≤ (c.toNat : Int) := by omega
        have a2 : 57 < (c.toNat : Int) := by omega
        have a3 : 97 ≤ (c.toNat : Int) := by omega
        have a4 : 102 < (c.toNat : Int) := by omega
        go_enter Try.func74, Try.ntmps74
        go_wp2
        go_ret
        exact ⟨ret_i HF.out.symm, rfl⟩
theorem esc_at {s : ByteArray} {k : Nat} (h : k < s.size) : escF (s.data.toList.drop k) = (if s[k] = 110 then (10, 1, 0) else if s[k] = 34 then (34, 1, 0) else if s[k] = 92 then (92, 1, 0) else if s[k] = 120 then escX (s.data.toList.drop (k + 1)) else (0, 0, 10)) := by
  rw [drop_more s k h, escF]
theorem ex_0 {s : ByteArray} {k : Nat} (h : ¬ k < s.size) : escX (s.data.toList.drop k) = (0, 0, 11) := by rw [drop_end s k h]; rfl
theorem ex_1 {s : ByteArray} {k : Nat} (h : k < s.size) (hv : hexV s[k] = none) : escX (s.data.toList.drop k) = (0, 0, 10) := by rw [drop_more s k h, escX, hv]
theorem ex_2 {s : ByteArray} {k : Nat} (h : k < s.size) {p : Nat} (hv : hexV s[k] = some p) (h2 : ¬ k + 1 < s.size) : escX (s.data.toList.drop k) = (0, 0, 11) := by rw [drop_more s k h, escX, hv, drop_end s (k + 1) h2]
theorem ex_3 {s : ByteArray} {k : Nat} (h : k < s.size) {p : Nat} (hv : hexV s[k] = some p) (h2 : k + 1 < s.size) (hw : hexV s[k + 1] = none) : escX (s.data.toList.drop k) = (0, 0, 10) := by
  rw [drop_more s k h, escX, hv]
  show (match s.data.toList.drop (k + 1) with | [] => _ | y :: _ => _) = _
  rw [drop_more s (k + 1) h2]; show (match hexV s[k + 1] with | none => _ | some q => _) = _; rw [hw]
theorem ex_4 {s : ByteArray} {k : Nat} (h : k < s.size) {p q : Nat} (hv : hexV s[k] = some p) (h2 : k + 1 < s.size) (hw : hexV s[k + 1] = some q) : escX (s.data.toList.drop k) = (UInt8.ofNat (16 * p + q), 3, 0) := by
  rw [drop_more s k h, escX, hv]
  show (match s.data.toList.drop (k + 1) with | [] => _ | y :: _ => _) = _
  rw [drop_more s (k + 1) h2]; show (match hexV s[k + 1] with | none => _ | some q => _) = _; rw [hw]
def YRel (s : ByteArray) (k : Nat) (i n j : Value) : Prop :=
  (i = .int .i64 (k : Int) ∧ n = .int .i64 0 ∧ j = .int .i64 0) ∨ (∃ p, ∃ h : k < s.size, hexV s[k] = some p ∧ i = .int .i64 ((k + 1 : Nat) : Int) ∧ n = .int .i64 (p : Int) ∧ j = .int .i64 1) ∨
  (∃ p q, ∃ h : k + 1 < s.size, hexV s[k] = some p ∧ hexV s[k + 1] = some q ∧ i = .int .i64 ((k + 2 : Nat) : Int) ∧ n = .int .i64 ((16 * p + q : Nat) : Int) ∧ j = .int .i64 2)
set_option maxRecDepth 100000 in
set_option maxHeartbeats 4000000 in
theorem runquote_in (s : ByteArray) (w : World) (hs : s.size ≤ 1000) (h0 : 0 < s.size) (h34 : s[0] = 34) : Calls Try.prog 62 #[.string s] w (UnqPost s.data.toList w) := by
  have he : ((s.size : Int) == 0) = false := by rw [beq_eq_false_iff_ne]; omega
  have ht : ((s[0].toNat : Int) != 34) = false := by rw [h34]; rfl
  have hst : UnqAt s.data.toList 1 ((s.data.toList.drop 1).length + 1) [] := by
    have h := unq_start (r := s.data.toList.drop 1) h34
    rw [← data_cons s h0] at h
    exact h
  have HS := Lib.hid hst
  clear hst h34
  go_enter Try.func62, Try.ntmps62
  go_wp2_with fail
  go_loopw [5, 6] (UnqRel s w) (fun _ i _ => s.size + 1 - (intOf i).toNat)
  case atStart => exact ⟨1, _, [], rfl, HS.out, World.ownsRow_nil _ _ _ _, Below.refl _ _⟩
  case round =>
    obtain ⟨k, f, acc, rfl, ha, hown, hw⟩ := hrel
    clear HS
    have hkl := ha.le
    rw [size_data] at hkl
    have hfew := ha.few
    obtain ⟨A, cp, hv⟩ := own_val hown
    rw [hv] at hown ⊢
    clear hv
    by_cases hlt : k < s.size
    · have hge : ¬ (s.size : Int) ≤ k := by omega
      have hc := data_get s k hlt
      have hc8 := s[k].toNat_lt
      have HA := Lib.hid ha
      clear ha
      by_cases h34 : s[k] = 34
      · have t2 : ((s[k].toNat : Int) != 34) = false := by rw [h34]; rfl
        rw [h34] at hc
        by_cases hl : 60 < acc.length
        · have HF := Lib.hid (HA.out.long hc hl)
          have hl' : 60 < (acc.length : Int) := by omega
          clear hc h34
          go_wp2
          go_ret3
          exact unq_post HF.out rfl rfl hw
        · have HF := Lib.hid (HA.out.done hc hl)
          have hl' : ¬ 60 < (acc.length : Int) := by omega
          have hcv := conv_own hown rfl
          clear hc h34
          go_wp2
          go_ret3
          exact unq_post HF.out rfl (by omega) hw
      · have t2 : ((s[k].toNat : Int) != 34) = true := ne_u8 h34
        by_cases h10 : s[k] = 10
        · have t1 : ((s[k].toNat : Int) == 10) = true := eq_u8 h10
          rw [h10] at hc
          have HF := Lib.hid (HA.out.open_ hc)
          clear hc h10 h34
          go_wp2
          go_ret3
          exact unq_post HF.out rfl rfl hw
        · have t1 : ((s[k].toNat : Int) == 10) = false := nq_u8 h10
          by_cases h92 : s[k] = 92
          · have t3 : ((s[k].toNat : Int) != 92) = false := by rw [h92]; rfl
            have p1 : 32 ≤ (s[k].toNat : Int) := by rw [h92]; decide
            have p2 : (s[k].toNat : Int) ≤ 126 := by rw [h92]; decide
            rw [h92] at hc
            have hno := HA.out.esc_no hc
            have hok := HA.out.esc_ok hc
            clear h10 h34 h92 hc
            by_cases hk1 : k + 1 < s.size
            · have hk1' : ¬ (s.size : Int) ≤ (k : Int) + 1 := by omega
              have hd1 := s[k + 1].toNat_lt
              have hes := esc_at hk1
              by_cases n1 : s[k + 1] = 110
              · rw [if_pos n1] at hes
                obtain ⟨g, hg⟩ := hok (by rw [hes])
                rw [hes] at hg
                have HG := Lib.hid hg
                have u1 : ((s[k + 1].toNat : Int) == 110) = true := eq_u8 n1
                clear hno hok hes hg n1
                go_wp2_with (at_builtin; go_must (refine app_u8 rfl _ _ rfl rfl hown hw hw.size rfl rfl (by intro u hu; simp at hu; subst hu; rfl) (by omega) ?_); intro v' w' hown' hw' _)
                exact ⟨⟨k + 1 + 1, g, acc ++ [10], by congr 1, HG.out, by simpa [u8v] using hown', hw'⟩, by simp [intOf]; omega⟩
              · have u1 : ((s[k + 1].toNat : Int) == 110) = false := nq_u8 n1
                rw [if_neg n1] at hes
                by_cases n2 : s[k + 1] = 34
                · rw [if_pos n2] at hes
                  obtain ⟨g, hg⟩ := hok (by rw [hes])
                  rw [hes] at hg
                  have HG := Lib.hid hg
                  have u2 : (s[k + 1].toNat : Int) = 34 := by rw [n2]; rfl
                  clear hno hok hes hg n1 n2
                  go_wp2_with (at_builtin; go_must (refine app_u8 rfl _ _ rfl rfl hown hw hw.size rfl rfl (by intro u hu; simp at hu; subst hu; rfl) (by omega) ?_); intro v' w' hown' hw' _)
                  exact ⟨⟨k + 1 + 1, g, acc ++ [34], by congr 1, HG.out, by simpa [u8v] using hown', hw'⟩, by simp [intOf]; omega⟩
                · have u2 : ((s[k + 1].toNat : Int) == 34) = false := nq_u8 n2
                  rw [if_neg n2] at hes
                  by_cases n3 : s[k + 1] = 92
                  · rw [if_pos n3] at hes
                    obtain ⟨g, hg⟩ := hok (by rw [hes])
                    rw [hes] at hg
                    have HG := Lib.hid hg
                    have u3 : (s[k + 1].toNat : Int) = 92 := by rw [n3]; rfl
                    clear hno hok hes hg n1 n2 n3 u1 u2
                    go_wp2_with (at_builtin; go_must (refine app_u8 rfl _ _ rfl rfl hown hw hw.size rfl rfl (by intro u hu; simp at hu; subst hu; rfl) (by omega) ?_); intro v' w' hown' hw' _)
                    exact ⟨⟨k + 1 + 1, g, acc ++ [92], by congr 1, HG.out, by simpa [u8v] using hown', hw'⟩, by simp [intOf]; omega⟩
                  · have u3 : ((s[k + 1].toNat : Int) == 92) = false := nq_u8 n3
                    rw [if_neg n3] at hes
                    by_cases n4 : s[k + 1] = 120
                    · rw [if_pos n4] at hes
                      have u4x : ((s[k + 1].toNat : Int) == 120) = true := eq_u8 n4
                      have HE := Lib.hid hes; have HNO := Lib.hid hno; have HOK := Lib.hid hok
                      clear hno hok hes n1 n2 n3 n4
                      go_wp2
                      go_loop [6, 9, 10] (fun i n j => YRel s (k + 2) i n j) (fun _ _ j => 2 - (intOf j).toNat)
                      case atStart => exact .inl ⟨by congr 1, rfl, rfl⟩
                      case round =>
                        rcases hrel with ⟨rfl, rfl, rfl⟩ | ⟨p, h1, hv, rfl, rfl, rfl⟩ | ⟨p, q, h2, hv, hv2, rfl, rfl, rfl⟩
                        · by_cases h1 : k + 2 < s.size
                          · have h1' : ¬ (s.size : Int) ≤ (k : Int) + 2 := by omega
                            rcases hv : hexV s[k + 2] with _ | p
                            · have hix := fun W => digit_any s[k + 2] W
                              rw [idx_none hv] at hix
                              have he := HE.out
                              rw [ex_1 h1 hv] at he
                              have HF := Lib.hid (HNO.out (by rw [he]; decide))
                              rw [he] at HF
                              have HI := Lib.hid hix
                              clear hv hix he
                              go_wp2_with (go_at_call 74; refine (HI.out _).mono ?_; rintro e w' ⟨rfl, rfl⟩)
                              go_ret3
                              exact unq_post HF.out rfl rfl hw
                            · have hix := fun W => digit_any s[k + 2] W
                              rw [idx_some hv] at hix
                              have hp := hexV_lt hv
                              have HI := Lib.hid hix; have HV := Lib.hid hv
                              clear hv hix
                              go_wp2_with (go_at_call 74; refine (HI.out _).mono ?_; rintro e w' ⟨rfl, rfl⟩)
                              go_round
                              case rel => exact .inr (.inl ⟨p, h1, HV.out, by congr 1, by congr 1, rfl⟩)
                              case measure => simp [intOf]
                          · have h1' : (s.size : Int) ≤ (k : Int) + 2 := by omega
                            have he := HE.out
                            rw [ex_0 h1] at he
                            have HF := Lib.hid (HNO.out (by rw [he]; decide))
                            rw [he] at HF
                            clear he
                            go_wp2
                            go_ret3
                            exact unq_post HF.out rfl rfl hw
                        · have hp := hexV_lt hv
                          by_cases h2 : k + 3 < s.size
                          · have h2' : ¬ (s.size : Int) ≤ (k : Int) + 2 + 1 := by omega
                            have h2'' : ¬ (s.size : Int) ≤ (k : Int) + 3 := by omega
                            rcases hv2 : hexV s[k + 3] with _ | q
                            · have hix := fun W => digit_any s[k + 3] W
                              rw [idx_none hv2] at hix
                              have he := HE.out
                              rw [ex_3 h1 hv h2 hv2] at he
                              have HF := Lib.hid (HNO.out (by rw [he]; decide))
                              rw [he] at HF
                              have HI := Lib.hid hix
                              clear hv hv2 hix he
                              go_wp2_with (go_at_call 74; refine (HI.out _).mono ?_; rintro e w' ⟨rfl, rfl⟩)
                              go_ret3
                              exact unq_post HF.out rfl rfl hw
                            · have hix := fun W => digit_any s[k + 3] W
                              rw [idx_some hv2] at hix
                              have hq := hexV_lt hv2
                              have HI := Lib.hid hix; have HV := Lib.hid hv; have HV2 := Lib.hid hv2
                              clear hv hv2 hix
                              go_wp2_with (go_at_call 74; refine (HI.out _).mono ?_; rintro e w' ⟨rfl, rfl⟩)
                              go_round
                              case rel => exact .inr (.inr ⟨p, q, h2, HV.out, HV2.out, by congr 1, by congr 1, rfl⟩)
                              case measure => simp [intOf]
                          · have h2' : (s.size : Int) ≤ (k : Int) + 2 + 1 := by omega
                            have h2'' : (s.size : Int) ≤ (k : Int) + 3 := by omega
                            have he := HE.out
                            rw [ex_2 h1 hv h2] at he
                            have HF := Lib.hid (HNO.out (by rw [he]; decide))
                            rw [he] at HF
                            clear he hv
                            go_wp2
                            go_ret3
                            exact unq_post HF.out rfl rfl hw
                        · have hp := hexV_lt hv
                          have hq := hexV_lt hv2
                          have he := HE.out
                          rw [ex_4 (by omega) hv h2 hv2] at he
                          obtain ⟨g, hg⟩ := HOK.out (by rw [he])
                          rw [he] at hg
                          have HG := Lib.hid hg
                          have hwr : ((UInt8.ofNat (16 * p + q)).toNat : Int) = ((16 * p + q : Nat) : Int) := by rw [UInt8.toNat_ofNat']; omega
                          have HR := Lib.hid hwr
                          have hlt2 : 16 * p + q < 256 := by omega
                          generalize 16 * p + q = t at *
                          clear hv hv2 hwr he hg
                          go_wp2_with (at_builtin; go_must (refine app_u8 rfl _ _ rfl rfl hown hw hw.size rfl rfl (by intro u hu; simp at hu; subst hu; rfl) (by omega) ?_); intro v' w' hown' hw' _)
                          exact ⟨⟨k + 1 + 3, g, acc ++ [UInt8.ofNat t], by congr 1, HG.out, by rw [List.map_append, List.map_cons, u8v, HR.out, List.length_append]; exact hown', hw'⟩, by simp [intOf]; omega⟩
                    · rw [if_neg n4] at hes
                      have HF := Lib.hid (hno (by rw [hes]; decide))
                      rw [hes] at HF
                      have u4x : ((s[k + 1].toNat : Int) == 120) = false := nq_u8 n4
                      clear hno hok hes n1 n2 n3 n4
                      go_wp2
                      go_ret3
                      exact unq_post HF.out rfl rfl hw
            · have hk1' : (s.size : Int) ≤ (k : Int) + 1 := by omega
              have hes : escF (s.data.toList.drop (k + 1)) = (0, 0, 11) := by rw [drop_end s (k + 1) hk1]; rfl
              have HF := Lib.hid (hno (by rw [hes]; decide))
              rw [hes] at HF
              clear hno hok hes
              go_wp2
              go_ret3
              exact unq_post HF.out rfl rfl hw
          · have t3 : ((s[k].toNat : Int) != 92) = true := ne_u8 h92
            rcases hp : plainB s[k] with _ | _
            · have HF := Lib.hid (HA.out.bad hc h10 h34 h92 hp)
              have hr : (s[k].toNat : Int) < 32 ∨ 126 < (s[k].toNat : Int) := by
                unfold plainB at hp
                rw [t2, t3] at hp
                simp only [Bool.and_true, Bool.and_eq_false_iff, decide_eq_false_iff_not] at hp
                omega
              clear hc h10 h34 h92 hp
              rcases hr with hr | hr
              · go_wp2
                go_ret3
                exact unq_post HF.out rfl rfl hw
              · have hr2 : 32 ≤ (s[k].toNat : Int) := by omega
                go_wp2
                go_ret3
                exact unq_post HF.out rfl rfl hw
            · obtain ⟨g, hg⟩ := HA.out.next hc h10 hp
              have HG := Lib.hid hg
              have hr : 32 ≤ (s[k].toNat : Int) ∧ (s[k].toNat : Int) ≤ 126 := by
                unfold plainB at hp
                simp only [Bool.and_eq_true, decide_eq_true_eq] at hp
                exact ⟨hp.1.1.1, hp.1.1.2⟩
              obtain ⟨r1, r2⟩ := hr
              clear hc h10 h34 h92 hg hp
              go_wp2_with (at_builtin; go_must (refine app_u8 rfl _ _ rfl rfl hown hw hw.size rfl rfl (by intro u hu; simp at hu; subst hu; rfl) (by omega) ?_); intro v' w' hown' hw' _)
              exact ⟨⟨k + 1, g, acc ++ [s[k]], by congr 1, HG.out, by simpa [u8v] using hown', hw'⟩, by simp [intOf]; omega⟩
    · have hge : (s.size : Int) ≤ k := by omega
      have HF := Lib.hid (unq_end ha (by rw [size_data]; exact hlt))
      clear ha
      go_wp2
      go_ret3
      exact unq_post HF.out rfl rfl hw
set_option maxHeartbeats 400000 in
theorem runquote_out (s : ByteArray) (w : World) (hs : s.size ≤ 1000) (h : ∀ h0 : 0 < s.size, s[0] ≠ 34) : Calls Try.prog 62 #[.string s] w (UnqPost s.data.toList w) := by
  by_cases h0 : 0 < s.size
  · have he : ((s.size : Int) == 0) = false := by rw [beq_eq_false_iff_ne]; omega
    have ht : ((s[0].toNat : Int) != 34) = true := ne_u8 (h h0)
    have HF : Hid (unqF s.data.toList = ([], 0, 14)) := by
      show unqF s.data.toList = _
      rw [data_cons s h0, unqF, if_neg (h h0)]
    clear h
    go_enter Try.func62, Try.ntmps62
    go_wp2_with fail
    go_ret3
    exact unq_post HF.out rfl rfl (Below.refl _ _)
  · have he : ((s.size : Int) == 0) = true := by rw [beq_iff_eq]; omega
    have HF : Hid (unqF s.data.toList = ([], 0, 14)) := by
      show unqF s.data.toList = _
      have e : s.data.toList = [] := List.eq_nil_of_length_eq_zero (by rw [size_data]; omega)
      rw [e]; rfl
    clear h h0
    go_enter Try.func62, Try.ntmps62
    go_wp2_with fail
    go_ret3
    exact unq_post HF.out rfl rfl (Below.refl _ _)
theorem runquote_any (s : ByteArray) (w : World) (hs : s.size ≤ 1000) : Calls Try.prog 62 #[.string s] w (UnqPost s.data.toList w) := by
  by_cases h : ∃ h0 : 0 < s.size, s[0] = 34
  · obtain ⟨h0, h1⟩ := h
    exact runquote_in s w hs h0 h1
  · exact runquote_out s w hs (fun h0 h1 => h ⟨h0, h1⟩)
end Go.Proofs.Ytgjchgmlogbmmaa.S
