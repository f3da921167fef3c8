/- A part of the proofs of chapter 11, squeezed, merged and shrunk by group.py: FWalkQ FWalkR. -/
import Derived.Test.YtgjchgmlogbmmaaRH
import Derived.Test.YtgjchgmlogbmmaaRB
/- The walks of layer 11: the last exp of a source. -/
namespace Go.Proofs.Ytgjchgmlogbmmaa
open Go.RowKit
set_option linter.unusedVariables false
set_option linter.unusedSimpArgs false
attribute [local go_sem ↓] Go.wp_at_zero Go.wp_at_succ

def fewB (s : ByteArray) : ByteArray := if 400 < s.size then s.extract 0 400 else s
theorem fewB_size (s : ByteArray) : (fewB s).size ≤ 400 := by
 unfold fewB
 split
 ·simp; omega
 ·omega
theorem ret_s {a b : ByteArray} (h : a = b) : Ending.returned (.string a) = .returned (.string b) := by rw [h]
set_option maxHeartbeats 400000 in
theorem few_any (s : ByteArray) (w : World) (hs : s.size ≤ maxLen) :
  Calls Try.prog 18 #[.string s] w fun e w' => e = .returned (.string (fewB s)) ∧ w = w' := by
 unfold maxLen at hs
 by_cases h : 400 < s.size
 ·have HF : Hid (fewB s = s.extract 0 400) := by show fewB s = _; unfold fewB; rw [if_pos h]
  have h' : 400 < (s.size : Int) := by omega
  go_enter Try.func18, Try.ntmps18
  go_wp2
  go_ret
  exact ⟨ret_s HF.out.symm, rfl⟩
 ·have HF : Hid (fewB s = s) := by show fewB s = _; unfold fewB; rw [if_neg h]
  have h' : ¬ 400 < (s.size : Int) := by omega
  go_enter Try.func18, Try.ntmps18
  go_wp2
  go_ret
  exact ⟨ret_s HF.out.symm, rfl⟩
/-- The last kid. -/
def lastN (x : Nd) : Nd := x.ks.getD (x.ks.length - 1) nd0
def srcN (s : ByteArray) : Nd × Nat × Int := progF (fewB s).data.toList
def expS (s : ByteArray) : Nd × Bool := if (srcN s).2.2 = 0 then (lastN (srcN s).1, true) else (nd0, false)
theorem srcN_wf (s : ByteArray) : WfN (srcN s).1 := (prog_wf _).1
theorem srcN_wt (s : ByteArray) : wtN (srcN s).1 ≤ 100000 := Nat.le_trans (prog_wt _) (by decide)
theorem expS_wf (s : ByteArray) : WfN (expS s).1 := by
 unfold expS
 split
 ·exact wf_getD (srcN_wf s).ks _
 ·exact wf_nd0
theorem expS_wt (s : ByteArray) : wtN (expS s).1 ≤ 100000 := by
 unfold expS
 split
 ·refine Nat.le_trans (wt_getD _ _) (Nat.le_trans ?_ (srcN_wt s))
  rw [wtN_eq]; omega
 ·decide
theorem src_node {w w2 w4 wf : World} {R : Nat} {y : Nd} {fy : Fr} (hR : w.heap.size = R) (hlt : R < w2.heap.size) (n : NodeIn w4 (fun a => w2.heap.size ≤ a) y fy) (hf : But R w4.heap.size w4 wf) : NodeIn wf (fun a => w.heap.size ≤ a) y fy :=
 (n.but hf (Nat.le_refl _) fun a ha e => by omega).mono fun a ha _ => by omega
theorem src_bel {w w4 wf : World} {R : Nat} (hR : w.heap.size = R) (hb : Below w.heap.size w w4) (hf : But R w4.heap.size w4 wf) : Below w.heap.size w wf :=
 hb.trans ⟨hf.os, hf.tape, hf.output, hf.size, fun k hk => hf.block k (Nat.lt_of_lt_of_le hk hb.size) (by omega)⟩
def ExpOf (w : World) (q : Nd × Bool) (e : Ending) (w' : World) : Prop := ∃ f, e = .returned (.tuple #[ndV q.1 f, .bool q.2]) ∧ NodeIn w' (fun a => w.heap.size ≤ a) q.1 f ∧ Below w.heap.size w w'
set_option maxRecDepth 100000 in
set_option maxHeartbeats 4000000 in
theorem src_any (w : World) (s : ByteArray) (hs : s.size ≤ maxLen) : Calls Try.prog 8 #[.string s] w (ExpOf w (expS s)) := by
 have CF := Lib.hid (fun wx => few_any s wx hs)
 have CP := Lib.hid (fun wx => program_any wx (fewB s) (by have := fewB_size s; omega))
 have HES : Hid (expS s = if (srcN s).2.2 = 0 then (lastN (srcN s).1, true) else (nd0, false)) := rfl
 have HKN := Lib.hid ((prog_wf (fewB s).data.toList).2.1)
 have HLN : Hid ((progF (fewB s).data.toList).1.ks.length ≤ 100000) := (srcN_wf s).len
 unfold srcN at HES
 generalize progF (fewB s).data.toList = q at *
 obtain ⟨x, at0, e0⟩ := q
 generalize expS s = r at *
 clear hs
 dsimp only at HES HKN CP HLN
 go_enter Try.func8, Try.ntmps8
 go_upto_region 1 with (fail)
 have HZ0 : Hid (Whole (w.alloc (.cells #[.int .i64 0, .string ⟨#[]⟩, .int .i64 0, .int .i64 0, .slice none 0 0, .slice none 0 0] 25)) w.heap.size 25 #[.int .i64 0, .string ⟨#[]⟩, .int .i64 0, .int .i64 0, .slice none 0 0, .slice none 0 0]) := Whole.made _ _ _
 have HB0 : Hid (Below w.heap.size w (w.alloc (.cells #[.int .i64 0, .string ⟨#[]⟩, .int .i64 0, .int .i64 0, .slice none 0 0, .slice none 0 0] 25))) := (Below.refl _ _).alloc (Nat.le_refl _) _
 have HS0 : Hid (w.heap.size < (w.alloc (.cells #[.int .i64 0, .string ⟨#[]⟩, .int .i64 0, .int .i64 0, .slice none 0 0, .slice none 0 0] 25)).heap.size) := by show _ < _; simp
 generalize w.alloc (.cells #[.int .i64 0, .string ⟨#[]⟩, .int .i64 0, .int .i64 0, .slice none 0 0, .slice none 0 0] 25) = w2 at *
 go_wp2_with fail
 refine (CF.out w2).mono ?_
 rintro e w2b ⟨rfl, rfl⟩
 go_wp2_with fail
 refine (CP.out w2).mono ?_
 rintro e w3 ⟨f, rfl, nx, b3⟩
 have HB3 := Lib.hid (HB0.out.trans (b3.mono (Nat.le_of_lt HS0.out)))
 have HZ3 := Lib.hid (HZ0.out.below b3 HS0.out)
 have HN3 := Lib.hid nx
 have HS3 : Hid (w.heap.size < w2.heap.size ∧ w2.heap.size ≤ w3.heap.size) := ⟨HS0.out, b3.size⟩
 clear nx b3 HB0 HZ0 HS0 CF CP
 unfold ndV
 go_upto_region 2 with (fail)
 have HX4 : Hid (Whole (w3.alloc (.cells #[.int .i64 x.kd, .string ⟨x.tx.toArray⟩, .int .i64 x.nm, .int .i64 (x.at_ : Int), .slice f.na x.ns.length f.nc, .slice f.ka x.ks.length f.kc] 25)) w3.heap.size 25 #[.int .i64 x.kd, .string ⟨x.tx.toArray⟩, .int .i64 x.nm, .int .i64 (x.at_ : Int), .slice f.na x.ns.length f.nc, .slice f.ka x.ks.length f.kc]) := Whole.made w3 25 _
 have B4 : Hid (Below w3.heap.size w3 (w3.alloc (.cells #[.int .i64 x.kd, .string ⟨x.tx.toArray⟩, .int .i64 x.nm, .int .i64 (x.at_ : Int), .slice f.na x.ns.length f.nc, .slice f.ka x.ks.length f.kc] 25))) := (Below.refl _ _).alloc (Nat.le_refl _) _
 generalize w3.alloc (.cells #[.int .i64 x.kd, .string ⟨x.tx.toArray⟩, .int .i64 x.nm, .int .i64 (x.at_ : Int), .slice f.na x.ns.length f.nc, .slice f.ka x.ks.length f.kc] 25) = w4 at *
 have HZ4 := Lib.hid (HZ3.out.below B4.out HZ3.out.lt)
 have HB4 := Lib.hid (HB3.out.trans (B4.out.mono HB3.out.size))
 have HN4 := Lib.hid (HN3.out.later B4.out (Nat.le_refl _))
 clear HB3 HZ3 HN3 B4
 obtain ⟨R, hR⟩ : ∃ R, w.heap.size = R := ⟨_, rfl⟩
 have HR := Lib.hid hR
 rw [hR] at HZ4
 have HGR : Hid (R < w3.heap.size ∧ R < w2.heap.size) := by rw [← hR]; exact ⟨Nat.lt_of_lt_of_le HS3.out.1 HS3.out.2, HS3.out.1⟩
 simp only [hR]
 clear hR
 generalize w3.heap.size = G at *
 by_cases he : e0 = 0
 ·subst he
  have HRE : Hid (r = (lastN x, true)) := HES.out
  have hkn := HKN.out rfl
  have n5 : w4.cell? ⟨G, 5, none⟩ = some (.slice f.ka x.ks.length f.kc) := HX4.out.cell 5
  have hl0 : ¬ (x.ks.length : Int) = 0 := by have := List.length_pos_iff.2 hkn; omega
  have hl1 : ((x.ks.length : Int) == 0) = false := by simpa using hl0
  go_upto_region 4 with (fail)
  clear n5 hl0 hl1
  obtain ⟨k, hk⟩ : ∃ k, x.ks.length = k + 1 := ⟨x.ks.length - 1, by have := List.length_pos_iff.2 hkn; omega⟩
  have HLA : Hid (lastN x = x.ks.getD k nd0) := by show lastN x = _; unfold lastN; rw [hk]; rfl
  have e1 : x.ks[k]? = some (x.ks.getD k nd0) := by rw [List.getD_eq_getElem?_getD, List.getElem?_eq_getElem (by omega)]; rfl
  obtain ⟨g, fy, eg, ⟨hgl, hgb⟩, ⟨x0, x1, x2, x3, x4, x5⟩, ny⟩ := kids_at HN4.out e1
  have hgR : g ≠ R := by have := HGR.out; omega
  rw [← HLA.out] at x0 x1 x2 x3 x4 x5 ny
  have HNY := Lib.hid ny
  rw [eg, hk] at HX4 ⊢
  clear e1 eg HKN hkn ny HLA HES
  have hkb : (k : Int) < 100000 := by have := HLN.out; omega
  have hk1 : ((k + 1 : Nat) : Int) - 1 = (k : Int) := by omega
  have i0 : (0 : Int) ≤ (k : Int) := by omega
  generalize lastN x = y at *
  have n5 : w4.cell? ⟨G, 5, none⟩ = some (.slice (some ⟨g, 0, none⟩) (k + 1) f.kc) := HX4.out.cell 5
  obtain ⟨z0, z1, z2, z3, z4, z5⟩ := zeroC (HZ4.out)
  obtain ⟨y0, y1, y2, y3, y4, y5⟩ := freeC (HZ4.out)
  go_wp2_with fail
  obtain ⟨wf, HZF, HBF, hwf⟩ := endsN (HZ4.out) y fy
  rw [hwf]
  clear hwf
  obtain ⟨g0, g1, g2, g3, g4, g5⟩ := cells6 HZF.out
  exact bodyPost_ret (v := .tuple #[ndV y fy, .bool true]) (by simp [results, Try.results8, go_sem, ndV, Nd.kd, Nd.tx, Nd.nm, Nd.at_, Nd.ns, Nd.ks, nd0, fr0, g0, g1, g2, g3, g4, g5]) rfl ⟨fy, by rw [HRE.out], by rw [HRE.out]; exact src_node HR.out HGR.out.2 (HNY.out) HBF.out, src_bel HR.out HB4.out HBF.out⟩
 ·have HRE : Hid (r = (nd0, false)) := HES.out.trans (if_neg he)
  have hn2 : (e0 != 0) = true := by simpa using he
  have hn3 : (e0 == 0) = false := by simpa using he
  clear he HES HKN
  have n5 : w4.cell? ⟨G, 5, none⟩ = some (.slice f.ka x.ks.length f.kc) := HX4.out.cell 5
  obtain ⟨z0, z1, z2, z3, z4, z5⟩ := zeroC (HZ4.out)
  obtain ⟨y0, y1, y2, y3, y4, y5⟩ := freeC (HZ4.out)
  go_wp2_with fail
  obtain ⟨wf, HZF, HBF, hwf⟩ := ends6 (HZ4.out) (.int .i64 0) (.string ⟨#[]⟩) (.int .i64 0) (.int .i64 0) (.slice none 0 0) (.slice none 0 0)
  rw [hwf]
  clear hwf
  obtain ⟨g0, g1, g2, g3, g4, g5⟩ := cells6 HZF.out
  exact bodyPost_ret (v := .tuple #[ndV nd0 fr0, .bool false]) (by simp [results, Try.results8, go_sem, ndV, Nd.kd, Nd.tx, Nd.nm, Nd.at_, Nd.ns, Nd.ks, nd0, fr0, g0, g1, g2, g3, g4, g5]) rfl ⟨fr0, by rw [HRE.out], by rw [HRE.out]; exact src_node HR.out HGR.out.2 (.leaf _ _ rfl rfl) HBF.out, src_bel HR.out HB4.out HBF.out⟩
end Go.Proofs.Ytgjchgmlogbmmaa
/- The walks of layer 11: the document's examples. -/
namespace Go.Proofs.Ytgjchgmlogbmmaa
open Go.RowKit
set_option linter.unusedVariables false
set_option linter.unusedSimpArgs false
attribute [local go_sem ↓] Go.wp_at_zero Go.wp_at_succ

theorem liveA : (expN (expS ⟨#[100, 111, 32, 49, 32, 43, 32, 50, 32, 42, 32, 51]⟩).1).kd = 1 ∧ (expN (expS ⟨#[100, 111, 32, 49, 32, 43, 32, 50, 32, 42, 32, 51]⟩).1).nm = 7 ∧ (expN (expS ⟨#[100, 111, 32, 49, 32, 43, 32, 50, 32, 42, 32, 51]⟩).1).at_ = 3 := by decide +kernel
theorem liveB : (expN (expS ⟨#[100, 111, 32, 49, 32, 45, 32, 50]⟩).1).kd = 13 := by decide +kernel
theorem liveC : (expN (expS ⟨#[100, 111, 32, 108, 101, 116, 32, 120, 32, 61, 32, 102, 117, 110, 32, 121, 32, 45, 62, 32, 121, 32, 105, 110, 32, 53]⟩).1).nm = 5 := by decide +kernel
theorem liveD : (expN (expS ⟨#[100, 111, 32, 105, 102, 32, 49, 32, 60, 32, 50, 32, 116, 104, 101, 110, 32, 97, 32, 101, 108, 115, 101, 32, 98]⟩).1).tx = [97] := by decide +kernel
set_option maxRecDepth 100000 in
set_option maxHeartbeats 8000000 in
theorem lives_any (w : World) : Calls Try.prog 9 #[] w fun e w' => e = .returned (.bool true) ∧ Below w.heap.size w w' := by
 have CA := Lib.hid (fun wx => src_any wx ⟨#[100, 111, 32, 49, 32, 43, 32, 50, 32, 42, 32, 51]⟩ (by decide))
 have VA := Lib.hid liveA
 have FA := Lib.hid (fexp_any _ (expS_wf ⟨#[100, 111, 32, 49, 32, 43, 32, 50, 32, 42, 32, 51]⟩) (expS_wt ⟨#[100, 111, 32, 49, 32, 43, 32, 50, 32, 42, 32, 51]⟩))
 generalize expS ⟨#[100, 111, 32, 49, 32, 43, 32, 50, 32, 42, 32, 51]⟩ = qA at *
 obtain ⟨xA, bA⟩ := qA
 dsimp only at CA VA FA
 have CB := Lib.hid (fun wx => src_any wx ⟨#[100, 111, 32, 49, 32, 45, 32, 50]⟩ (by decide))
 have VB := Lib.hid liveB
 have FB := Lib.hid (fexp_any _ (expS_wf ⟨#[100, 111, 32, 49, 32, 45, 32, 50]⟩) (expS_wt ⟨#[100, 111, 32, 49, 32, 45, 32, 50]⟩))
 generalize expS ⟨#[100, 111, 32, 49, 32, 45, 32, 50]⟩ = qB at *
 obtain ⟨xB, bB⟩ := qB
 dsimp only at CB VB FB
 have CC := Lib.hid (fun wx => src_any wx ⟨#[100, 111, 32, 108, 101, 116, 32, 120, 32, 61, 32, 102, 117, 110, 32, 121, 32, 45, 62, 32, 121, 32, 105, 110, 32, 53]⟩ (by decide))
 have VC := Lib.hid liveC
 have FC := Lib.hid (fexp_any _ (expS_wf ⟨#[100, 111, 32, 108, 101, 116, 32, 120, 32, 61, 32, 102, 117, 110, 32, 121, 32, 45, 62, 32, 121, 32, 105, 110, 32, 53]⟩) (expS_wt ⟨#[100, 111, 32, 108, 101, 116, 32, 120, 32, 61, 32, 102, 117, 110, 32, 121, 32, 45, 62, 32, 121, 32, 105, 110, 32, 53]⟩))
 generalize expS ⟨#[100, 111, 32, 108, 101, 116, 32, 120, 32, 61, 32, 102, 117, 110, 32, 121, 32, 45, 62, 32, 121, 32, 105, 110, 32, 53]⟩ = qC at *
 obtain ⟨xC, bC⟩ := qC
 dsimp only at CC VC FC
 have CD := Lib.hid (fun wx => src_any wx ⟨#[100, 111, 32, 105, 102, 32, 49, 32, 60, 32, 50, 32, 116, 104, 101, 110, 32, 97, 32, 101, 108, 115, 101, 32, 98]⟩ (by decide))
 have VD := Lib.hid liveD
 have FD := Lib.hid (fexp_any _ (expS_wf ⟨#[100, 111, 32, 105, 102, 32, 49, 32, 60, 32, 50, 32, 116, 104, 101, 110, 32, 97, 32, 101, 108, 115, 101, 32, 98]⟩) (expS_wt ⟨#[100, 111, 32, 105, 102, 32, 49, 32, 60, 32, 50, 32, 116, 104, 101, 110, 32, 97, 32, 101, 108, 115, 101, 32, 98]⟩))
 generalize expS ⟨#[100, 111, 32, 105, 102, 32, 49, 32, 60, 32, 50, 32, 116, 104, 101, 110, 32, 97, 32, 101, 108, 115, 101, 32, 98]⟩ = qD at *
 obtain ⟨xD, bD⟩ := qD
 dsimp only at CD VD FD
 go_enter Try.func9, Try.ntmps9
 go_upto_region 1 with (fail)
 have HB : Hid (Below w.heap.size w w) := Below.refl _ _
 go_wp2_with fail
 refine (CA.out _).mono ?_
 rintro e uA ⟨fA, rfl, n0, b0⟩
 unfold ndV
 go_upto_region 2 with (fail)
 have b1 : Below w.heap.size w (uA.alloc (.cells #[.int .i64 xA.kd, .string ⟨xA.tx.toArray⟩, .int .i64 xA.nm, .int .i64 (xA.at_ : Int), .slice fA.na xA.ns.length fA.nc, .slice fA.ka xA.ks.length fA.kc] 25)) := b0.alloc b0.size _
 have HXA : Hid (Whole (uA.alloc (.cells #[.int .i64 xA.kd, .string ⟨xA.tx.toArray⟩, .int .i64 xA.nm, .int .i64 (xA.at_ : Int), .slice fA.na xA.ns.length fA.nc, .slice fA.ka xA.ks.length fA.kc] 25)) uA.heap.size 25 #[.int .i64 xA.kd, .string ⟨xA.tx.toArray⟩, .int .i64 xA.nm, .int .i64 (xA.at_ : Int), .slice fA.na xA.ns.length fA.nc, .slice fA.ka xA.ks.length fA.kc]) := Whole.made uA 25 _
 have HNA : Hid (NodeIn (uA.alloc (.cells #[.int .i64 xA.kd, .string ⟨xA.tx.toArray⟩, .int .i64 xA.nm, .int .i64 (xA.at_ : Int), .slice fA.na xA.ns.length fA.nc, .slice fA.ka xA.ks.length fA.kc] 25)) (fun _ => True) xA fA) := (n0.later ((Below.refl _ _).alloc (Nat.le_refl _) _) (Nat.le_refl _)).mono fun _ _ _ => trivial
 generalize uA.alloc (.cells #[.int .i64 xA.kd, .string ⟨xA.tx.toArray⟩, .int .i64 xA.nm, .int .i64 (xA.at_ : Int), .slice fA.na xA.ns.length fA.nc, .slice fA.ka xA.ks.length fA.kc] 25) = wA at *
 generalize uA.heap.size = GA at *
 replace HB := Lib.hid (HB.out.trans (b1.mono HB.out.size))
 clear n0 b0 b1 CA
 go_wp2_with fail
 refine (CB.out _).mono ?_
 rintro e uB ⟨fB, rfl, n0, b0⟩
 unfold ndV
 go_upto_region 3 with (fail)
 have b1 : Below wA.heap.size wA (uB.alloc (.cells #[.int .i64 xB.kd, .string ⟨xB.tx.toArray⟩, .int .i64 xB.nm, .int .i64 (xB.at_ : Int), .slice fB.na xB.ns.length fB.nc, .slice fB.ka xB.ks.length fB.kc] 25)) := b0.alloc b0.size _
 have HXB : Hid (Whole (uB.alloc (.cells #[.int .i64 xB.kd, .string ⟨xB.tx.toArray⟩, .int .i64 xB.nm, .int .i64 (xB.at_ : Int), .slice fB.na xB.ns.length fB.nc, .slice fB.ka xB.ks.length fB.kc] 25)) uB.heap.size 25 #[.int .i64 xB.kd, .string ⟨xB.tx.toArray⟩, .int .i64 xB.nm, .int .i64 (xB.at_ : Int), .slice fB.na xB.ns.length fB.nc, .slice fB.ka xB.ks.length fB.kc]) := Whole.made uB 25 _
 have HNB : Hid (NodeIn (uB.alloc (.cells #[.int .i64 xB.kd, .string ⟨xB.tx.toArray⟩, .int .i64 xB.nm, .int .i64 (xB.at_ : Int), .slice fB.na xB.ns.length fB.nc, .slice fB.ka xB.ks.length fB.kc] 25)) (fun _ => True) xB fB) := (n0.later ((Below.refl _ _).alloc (Nat.le_refl _) _) (Nat.le_refl _)).mono fun _ _ _ => trivial
 generalize uB.alloc (.cells #[.int .i64 xB.kd, .string ⟨xB.tx.toArray⟩, .int .i64 xB.nm, .int .i64 (xB.at_ : Int), .slice fB.na xB.ns.length fB.nc, .slice fB.ka xB.ks.length fB.kc] 25) = wB at *
 generalize uB.heap.size = GB at *
 replace HB := Lib.hid (HB.out.trans (b1.mono HB.out.size))
 replace HXA := Lib.hid (HXA.out.below b1 HXA.out.lt)
 replace HNA := Lib.hid (HNA.out.later b1 (Nat.le_refl _))
 clear n0 b0 b1 CB
 go_wp2_with fail
 refine (CC.out _).mono ?_
 rintro e uC ⟨fC, rfl, n0, b0⟩
 unfold ndV
 go_upto_region 4 with (fail)
 have b1 : Below wB.heap.size wB (uC.alloc (.cells #[.int .i64 xC.kd, .string ⟨xC.tx.toArray⟩, .int .i64 xC.nm, .int .i64 (xC.at_ : Int), .slice fC.na xC.ns.length fC.nc, .slice fC.ka xC.ks.length fC.kc] 25)) := b0.alloc b0.size _
 have HXC : Hid (Whole (uC.alloc (.cells #[.int .i64 xC.kd, .string ⟨xC.tx.toArray⟩, .int .i64 xC.nm, .int .i64 (xC.at_ : Int), .slice fC.na xC.ns.length fC.nc, .slice fC.ka xC.ks.length fC.kc] 25)) uC.heap.size 25 #[.int .i64 xC.kd, .string ⟨xC.tx.toArray⟩, .int .i64 xC.nm, .int .i64 (xC.at_ : Int), .slice fC.na xC.ns.length fC.nc, .slice fC.ka xC.ks.length fC.kc]) := Whole.made uC 25 _
 have HNC : Hid (NodeIn (uC.alloc (.cells #[.int .i64 xC.kd, .string ⟨xC.tx.toArray⟩, .int .i64 xC.nm, .int .i64 (xC.at_ : Int), .slice fC.na xC.ns.length fC.nc, .slice fC.ka xC.ks.length fC.kc] 25)) (fun _ => True) xC fC) := (n0.later ((Below.refl _ _).alloc (Nat.le_refl _) _) (Nat.le_refl _)).mono fun _ _ _ => trivial
 generalize uC.alloc (.cells #[.int .i64 xC.kd, .string ⟨xC.tx.toArray⟩, .int .i64 xC.nm, .int .i64 (xC.at_ : Int), .slice fC.na xC.ns.length fC.nc, .slice fC.ka xC.ks.length fC.kc] 25) = wC at *
 generalize uC.heap.size = GC at *
 replace HB := Lib.hid (HB.out.trans (b1.mono HB.out.size))
 replace HXA := Lib.hid (HXA.out.below b1 HXA.out.lt)
 replace HNA := Lib.hid (HNA.out.later b1 (Nat.le_refl _))
 replace HXB := Lib.hid (HXB.out.below b1 HXB.out.lt)
 replace HNB := Lib.hid (HNB.out.later b1 (Nat.le_refl _))
 clear n0 b0 b1 CC
 go_wp2_with fail
 refine (CD.out _).mono ?_
 rintro e uD ⟨fD, rfl, n0, b0⟩
 unfold ndV
 go_upto_region 5 with (fail)
 have b1 : Below wC.heap.size wC (uD.alloc (.cells #[.int .i64 xD.kd, .string ⟨xD.tx.toArray⟩, .int .i64 xD.nm, .int .i64 (xD.at_ : Int), .slice fD.na xD.ns.length fD.nc, .slice fD.ka xD.ks.length fD.kc] 25)) := b0.alloc b0.size _
 have HXD : Hid (Whole (uD.alloc (.cells #[.int .i64 xD.kd, .string ⟨xD.tx.toArray⟩, .int .i64 xD.nm, .int .i64 (xD.at_ : Int), .slice fD.na xD.ns.length fD.nc, .slice fD.ka xD.ks.length fD.kc] 25)) uD.heap.size 25 #[.int .i64 xD.kd, .string ⟨xD.tx.toArray⟩, .int .i64 xD.nm, .int .i64 (xD.at_ : Int), .slice fD.na xD.ns.length fD.nc, .slice fD.ka xD.ks.length fD.kc]) := Whole.made uD 25 _
 have HND : Hid (NodeIn (uD.alloc (.cells #[.int .i64 xD.kd, .string ⟨xD.tx.toArray⟩, .int .i64 xD.nm, .int .i64 (xD.at_ : Int), .slice fD.na xD.ns.length fD.nc, .slice fD.ka xD.ks.length fD.kc] 25)) (fun _ => True) xD fD) := (n0.later ((Below.refl _ _).alloc (Nat.le_refl _) _) (Nat.le_refl _)).mono fun _ _ _ => trivial
 generalize uD.alloc (.cells #[.int .i64 xD.kd, .string ⟨xD.tx.toArray⟩, .int .i64 xD.nm, .int .i64 (xD.at_ : Int), .slice fD.na xD.ns.length fD.nc, .slice fD.ka xD.ks.length fD.kc] 25) = wD at *
 generalize uD.heap.size = GD at *
 replace HB := Lib.hid (HB.out.trans (b1.mono HB.out.size))
 replace HXA := Lib.hid (HXA.out.below b1 HXA.out.lt)
 replace HNA := Lib.hid (HNA.out.later b1 (Nat.le_refl _))
 replace HXB := Lib.hid (HXB.out.below b1 HXB.out.lt)
 replace HNB := Lib.hid (HNB.out.later b1 (Nat.le_refl _))
 replace HXC := Lib.hid (HXC.out.below b1 HXC.out.lt)
 replace HNC := Lib.hid (HNC.out.later b1 (Nat.le_refl _))
 clear n0 b0 b1 CD
 have CE := Lib.hid (FA.out wD (fun a => a < wD.heap.size) fA (fun a ha => ha) (HNA.out.mono fun a _ hl => hl))
 unfold ndV at CE
 obtain ⟨n0, n1, n2, n3, n4, n5⟩ := nodeC (HXA.out)
 go_wp2_with fail
 refine CE.out.mono ?_
 rintro e vA ⟨hA, rfl, n0, b0⟩
 clear n0 n1 n2 n3 n4 n5 CE HXA HNA FA
 generalize expN xA = yA at *
 go_upto_region 6 with (fail)
 have b1 : Below wD.heap.size wD (vA.alloc (.cells #[.int .i64 yA.kd, .string ⟨yA.tx.toArray⟩, .int .i64 yA.nm, .int .i64 (yA.at_ : Int), .slice hA.na yA.ns.length hA.nc, .slice hA.ka yA.ks.length hA.kc] 25)) := b0.alloc b0.size _
 have HYA : Hid (Whole (vA.alloc (.cells #[.int .i64 yA.kd, .string ⟨yA.tx.toArray⟩, .int .i64 yA.nm, .int .i64 (yA.at_ : Int), .slice hA.na yA.ns.length hA.nc, .slice hA.ka yA.ks.length hA.kc] 25)) vA.heap.size 25 #[.int .i64 yA.kd, .string ⟨yA.tx.toArray⟩, .int .i64 yA.nm, .int .i64 (yA.at_ : Int), .slice hA.na yA.ns.length hA.nc, .slice hA.ka yA.ks.length hA.kc]) := Whole.made vA 25 _
 generalize vA.alloc (.cells #[.int .i64 yA.kd, .string ⟨yA.tx.toArray⟩, .int .i64 yA.nm, .int .i64 (yA.at_ : Int), .slice hA.na yA.ns.length hA.nc, .slice hA.ka yA.ks.length hA.kc] 25) = zA at *
 generalize vA.heap.size = DA at *
 replace HB := Lib.hid (HB.out.trans (b1.mono HB.out.size))
 replace HXB := Lib.hid (HXB.out.below b1 HXB.out.lt)
 replace HNB := Lib.hid (HNB.out.later b1 (Nat.le_refl _))
 replace HXC := Lib.hid (HXC.out.below b1 HXC.out.lt)
 replace HNC := Lib.hid (HNC.out.later b1 (Nat.le_refl _))
 replace HXD := Lib.hid (HXD.out.below b1 HXD.out.lt)
 replace HND := Lib.hid (HND.out.later b1 (Nat.le_refl _))
 clear b0 b1
 have CE := Lib.hid (FB.out zA (fun a => a < zA.heap.size) fB (fun a ha => ha) (HNB.out.mono fun a _ hl => hl))
 unfold ndV at CE
 obtain ⟨n0, n1, n2, n3, n4, n5⟩ := nodeC (HXB.out)
 go_wp2_with fail
 refine CE.out.mono ?_
 rintro e vB ⟨hB, rfl, n0, b0⟩
 clear n0 n1 n2 n3 n4 n5 CE HXB HNB FB
 generalize expN xB = yB at *
 go_upto_region 7 with (fail)
 have b1 : Below zA.heap.size zA (vB.alloc (.cells #[.int .i64 yB.kd, .string ⟨yB.tx.toArray⟩, .int .i64 yB.nm, .int .i64 (yB.at_ : Int), .slice hB.na yB.ns.length hB.nc, .slice hB.ka yB.ks.length hB.kc] 25)) := b0.alloc b0.size _
 have HYB : Hid (Whole (vB.alloc (.cells #[.int .i64 yB.kd, .string ⟨yB.tx.toArray⟩, .int .i64 yB.nm, .int .i64 (yB.at_ : Int), .slice hB.na yB.ns.length hB.nc, .slice hB.ka yB.ks.length hB.kc] 25)) vB.heap.size 25 #[.int .i64 yB.kd, .string ⟨yB.tx.toArray⟩, .int .i64 yB.nm, .int .i64 (yB.at_ : Int), .slice hB.na yB.ns.length hB.nc, .slice hB.ka yB.ks.length hB.kc]) := Whole.made vB 25 _
 generalize vB.alloc (.cells #[.int .i64 yB.kd, .string ⟨yB.tx.toArray⟩, .int .i64 yB.nm, .int .i64 (yB.at_ : Int), .slice hB.na yB.ns.length hB.nc, .slice hB.ka yB.ks.length hB.kc] 25) = zB at *
 generalize vB.heap.size = DB at *
 replace HB := Lib.hid (HB.out.trans (b1.mono HB.out.size))
 replace HXC := Lib.hid (HXC.out.below b1 HXC.out.lt)
 replace HNC := Lib.hid (HNC.out.later b1 (Nat.le_refl _))
 replace HXD := Lib.hid (HXD.out.below b1 HXD.out.lt)
 replace HND := Lib.hid (HND.out.later b1 (Nat.le_refl _))
 replace HYA := Lib.hid (HYA.out.below b1 HYA.out.lt)
 clear b0 b1
 have CE := Lib.hid (FC.out zB (fun a => a < zB.heap.size) fC (fun a ha => ha) (HNC.out.mono fun a _ hl => hl))
 unfold ndV at CE
 obtain ⟨n0, n1, n2, n3, n4, n5⟩ := nodeC (HXC.out)
 go_wp2_with fail
 refine CE.out.mono ?_
 rintro e vC ⟨hC, rfl, n0, b0⟩
 clear n0 n1 n2 n3 n4 n5 CE HXC HNC FC
 generalize expN xC = yC at *
 go_upto_region 8 with (fail)
 have b1 : Below zB.heap.size zB (vC.alloc (.cells #[.int .i64 yC.kd, .string ⟨yC.tx.toArray⟩, .int .i64 yC.nm, .int .i64 (yC.at_ : Int), .slice hC.na yC.ns.length hC.nc, .slice hC.ka yC.ks.length hC.kc] 25)) := b0.alloc b0.size _
 have HYC : Hid (Whole (vC.alloc (.cells #[.int .i64 yC.kd, .string ⟨yC.tx.toArray⟩, .int .i64 yC.nm, .int .i64 (yC.at_ : Int), .slice hC.na yC.ns.length hC.nc, .slice hC.ka yC.ks.length hC.kc] 25)) vC.heap.size 25 #[.int .i64 yC.kd, .string ⟨yC.tx.toArray⟩, .int .i64 yC.nm, .int .i64 (yC.at_ : Int), .slice hC.na yC.ns.length hC.nc, .slice hC.ka yC.ks.length hC.kc]) := Whole.made vC 25 _
 generalize vC.alloc (.cells #[.int .i64 yC.kd, .string ⟨yC.tx.toArray⟩, .int .i64 yC.nm, .int .i64 (yC.at_ : Int), .slice hC.na yC.ns.length hC.nc, .slice hC.ka yC.ks.length hC.kc] 25) = zC at *
 generalize vC.heap.size = DC at *
 replace HB := Lib.hid (HB.out.trans (b1.mono HB.out.size))
 replace HXD := Lib.hid (HXD.out.below b1 HXD.out.lt)
 replace HND := Lib.hid (HND.out.later b1 (Nat.le_refl _))
 replace HYA := Lib.hid (HYA.out.below b1 HYA.out.lt)
 replace HYB := Lib.hid (HYB.out.below b1 HYB.out.lt)
 clear b0 b1
 have CE := Lib.hid (FD.out zC (fun a => a < zC.heap.size) fD (fun a ha => ha) (HND.out.mono fun a _ hl => hl))
 unfold ndV at CE
 obtain ⟨n0, n1, n2, n3, n4, n5⟩ := nodeC (HXD.out)
 go_wp2_with fail
 refine CE.out.mono ?_
 rintro e vD ⟨hD, rfl, n0, b0⟩
 clear n0 n1 n2 n3 n4 n5 CE HXD HND FD
 generalize expN xD = yD at *
 go_upto_region 9 with (fail)
 have b1 : Below zC.heap.size zC (vD.alloc (.cells #[.int .i64 yD.kd, .string ⟨yD.tx.toArray⟩, .int .i64 yD.nm, .int .i64 (yD.at_ : Int), .slice hD.na yD.ns.length hD.nc, .slice hD.ka yD.ks.length hD.kc] 25)) := b0.alloc b0.size _
 have HYD : Hid (Whole (vD.alloc (.cells #[.int .i64 yD.kd, .string ⟨yD.tx.toArray⟩, .int .i64 yD.nm, .int .i64 (yD.at_ : Int), .slice hD.na yD.ns.length hD.nc, .slice hD.ka yD.ks.length hD.kc] 25)) vD.heap.size 25 #[.int .i64 yD.kd, .string ⟨yD.tx.toArray⟩, .int .i64 yD.nm, .int .i64 (yD.at_ : Int), .slice hD.na yD.ns.length hD.nc, .slice hD.ka yD.ks.length hD.kc]) := Whole.made vD 25 _
 generalize vD.alloc (.cells #[.int .i64 yD.kd, .string ⟨yD.tx.toArray⟩, .int .i64 yD.nm, .int .i64 (yD.at_ : Int), .slice hD.na yD.ns.length hD.nc, .slice hD.ka yD.ks.length hD.kc] 25) = zD at *
 generalize vD.heap.size = DD at *
 replace HB := Lib.hid (HB.out.trans (b1.mono HB.out.size))
 replace HYA := Lib.hid (HYA.out.below b1 HYA.out.lt)
 replace HYB := Lib.hid (HYB.out.below b1 HYB.out.lt)
 replace HYC := Lib.hid (HYC.out.below b1 HYC.out.lt)
 clear b0 b1
 obtain ⟨l1, l2, l3⟩ := VA.out
 have c1 : zD.cell? ⟨DA, 0, none⟩ = some (.int .i64 1) := by rw [← l1]; exact HYA.out.cell 0
 have c2 : zD.cell? ⟨DA, 2, none⟩ = some (.int .i64 7) := by rw [← l2]; exact HYA.out.cell 2
 have c3 : zD.cell? ⟨DA, 3, none⟩ = some (.int .i64 3) := by have h2 := HYA.out.cell 3; simp only [l3] at h2; exact h2
 have c4 : zD.cell? ⟨DB, 0, none⟩ = some (.int .i64 13) := by rw [← VB.out]; exact HYB.out.cell 0
 have c5 : zD.cell? ⟨DC, 2, none⟩ = some (.int .i64 5) := by rw [← VC.out]; exact HYC.out.cell 2
 have c6 : zD.cell? ⟨DD, 1, none⟩ = some (.string ⟨#[97]⟩) := by have h := VD.out; have h2 := HYD.out.cell 1; simp only [h] at h2; exact h2
 clear VA VB VC VD l1 l2 l3
 go_wp2_with fail
 exact bodyPost_ret (v := .bool true) (by simp [results, Try.results9, go_sem]) rfl ⟨rfl, HB.out⟩
end Go.Proofs.Ytgjchgmlogbmmaa
