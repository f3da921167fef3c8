/- A part of the proofs of chapter 11, squeezed, merged and shrunk by group.py: GWalkD GWalkE GSt GWalkG GWalkH GWalkI. -/
import Derived.KernelRfl
import Derived.Test.YtgjchgmlogbmmaaR2
import Derived.Test.YtgjchgmlogbmmaaR1
/- The walks of layer 5, the document's: a leaf. -/
namespace Go.Proofs.Ytgjchgmlogbmmaa
open Go.RowKit
set_option linter.unusedVariables false
set_option linter.unusedSimpArgs false
attribute [local go_sem ↓] Go.wp_at_zero Go.wp_at_succ

set_option maxRecDepth 100000 in
set_option maxHeartbeats 2000000 in
theorem leaf_any (w : World) (R g c : Nat) (T : List Tok) (s : PS) (k : Int) (E : Ends T) (hp : PAt w R g c T s) :
  Calls Try.prog 82 #[.pointer (some ⟨R, 0, none⟩), .int .i64 k] w (Gives w R g c T (leafN T s k, stepF T s)) := by
 have HZ0 : Hid (Whole (w.alloc (.cells #[.int .i64 0, .string ⟨#[]⟩, .int .i64 0, .int .i64 0, .slice none 0 0, .slice none 0 0] 25)) w.heap.size 25 #[.int .i64 0, .string ⟨#[]⟩, .int .i64 0, .int .i64 0, .slice none 0 0, .slice none 0 0]) := Whole.made _ _ _
 have HB0 : Hid (Below w.heap.size w (w.alloc (.cells #[.int .i64 0, .string ⟨#[]⟩, .int .i64 0, .int .i64 0, .slice none 0 0, .slice none 0 0] 25))) := (Below.refl _ _).alloc (Nat.le_refl _) _
 have HP0 := Lib.hid (hp.alloc (.cells #[.int .i64 0, .string ⟨#[]⟩, .int .i64 0, .int .i64 0, .slice none 0 0, .slice none 0 0] 25))
 have HR := Lib.hid hp.rlt
 have HL := Lib.hid hp.tk.1
 clear hp
 obtain ⟨s', hs'⟩ : ∃ s', stepF T s = s' := ⟨_, rfl⟩
 have CS := Lib.hid (fun (wx : World) (h : PAt wx R g c T s) => step_any wx R g c T s E h)
 rw [hs'] at CS ⊢
 clear hs'
 unfold leafN
 generalize stepT T s = t at *
 go_enter Try.func82, Try.ntmps82
 go_upto_region 1 with (fail)
 generalize w.alloc (.cells #[.int .i64 0, .string ⟨#[]⟩, .int .i64 0, .int .i64 0, .slice none 0 0, .slice none 0 0] 25) = w1 at *
 go_wp2_with fail
 refine (CS.out w1 HP0.out).mono ?_
 rintro e w2 ⟨rfl, h2, b2⟩
 have HP := Lib.hid (h2.alloc (.cells #[.int .i64 t.kind, .string ⟨t.text.toArray⟩, .int .i64 t.num, .int .i64 (t.at_ : Int)] 67))
 have HZ := Lib.hid ((b2.whole HZ0.out HZ0.out.lt (Nat.ne_of_gt HR.out)).alloc (.cells #[.int .i64 t.kind, .string ⟨t.text.toArray⟩, .int .i64 t.num, .int .i64 (t.at_ : Int)] 67))
 have HB := Lib.hid (((But.of_below (H := R) HB0.out).trans (b2.mono HB0.out.size)).alloc (Nat.le_trans HB0.out.size b2.size) (.cells #[.int .i64 t.kind, .string ⟨t.text.toArray⟩, .int .i64 t.num, .int .i64 (t.at_ : Int)] 67))
 have HX : Hid (Whole (w2.alloc (.cells #[.int .i64 t.kind, .string ⟨t.text.toArray⟩, .int .i64 t.num, .int .i64 (t.at_ : Int)] 67)) w2.heap.size 67 #[.int .i64 t.kind, .string ⟨t.text.toArray⟩, .int .i64 t.num, .int .i64 (t.at_ : Int)]) := Whole.made _ _ _
 clear h2 b2 CS HZ0 HB0 HP0
 unfold tokV
 go_upto_region 2 with (fail)
 generalize w2.alloc (.cells #[.int .i64 t.kind, .string ⟨t.text.toArray⟩, .int .i64 t.num, .int .i64 (t.at_ : Int)] 67) = w3 at *
 generalize w2.heap.size = G at *
 have t1 : w3.cell? ⟨G, 1, none⟩ = some (.string ⟨t.text.toArray⟩) := HX.out.cell 1
 have t2 : w3.cell? ⟨G, 2, none⟩ = some (.int .i64 t.num) := HX.out.cell 2
 have t3 : w3.cell? ⟨G, 3, none⟩ = some (.int .i64 (t.at_ : Int)) := HX.out.cell 3
 obtain ⟨z0, z1, z2, z3, z4, z5⟩ := zeroC (HZ.out)
 obtain ⟨y0, y1, y2, y3, y4, y5⟩ := freeC (HZ.out)
 go_wp2_with fail
 obtain ⟨wf, HZF, HBF, hwf⟩ := ends6 (HZ.out) (.int .i64 k) (.string ⟨t.text.toArray⟩) (.int .i64 t.num) (.int .i64 (t.at_ : Int)) (.slice none 0 0) (.slice none 0 0)
 rw [hwf]
 clear hwf
 obtain ⟨g0, g1, g2, g3, g4, g5⟩ := cells6 HZF.out
 exact bodyPost_ret (v := ndV (.mk k t.text t.num t.at_ [] []) fr0) (by simp [results, Try.results82, go_sem, ndV, Nd.kd, Nd.tx, Nd.nm, Nd.at_, Nd.ns, Nd.ks, leafN, fr0, nd0, g0, g1, g2, g3, g4, g5]) rfl ⟨fr0, rfl, HP.out.but HBF.out (Nat.le_refl _) (Nat.ne_of_gt HR.out) (Nat.ne_of_gt HL.out), .leaf _ _ rfl rfl, HB.out.new HBF.out (Nat.le_refl _) HB.out.size⟩
end Go.Proofs.Ytgjchgmlogbmmaa
/- The walks of layer 5, the document's: an exp that has an end of its own. -/
namespace Go.Proofs.Ytgjchgmlogbmmaa
open Go.RowKit
set_option linter.unusedVariables false
set_option linter.unusedSimpArgs false
attribute [local go_sem ↓] Go.wp_at_zero Go.wp_at_succ

/-- What the rules that go deeper give. -/
structure Deep (R g c : Nat) (T : List Tok) (r : Rec) (n : Nat) : Prop where
 exp : ∀ (w : World) (s : PS), PAt w R g c T s → 41 ≤ s.deep + n → Calls Try.prog 39 #[.pointer (some ⟨R, 0, none⟩)] w (Gives w R g c T (r.exp s))
 pat : ∀ (w : World) (s : PS), PAt w R g c T s → 41 ≤ s.deep + n → Calls Try.prog 84 #[.pointer (some ⟨R, 0, none⟩)] w (Gives w R g c T (r.pat s))
 ty : ∀ (w : World) (s : PS), PAt w R g c T s → 41 ≤ s.deep + n → Calls Try.prog 67 #[.pointer (some ⟨R, 0, none⟩)] w (Gives w R g c T (r.ty s))
set_option maxRecDepth 100000 in
set_option maxHeartbeats 2000000 in
theorem whole_any (w : World) (R g c : Nat) (T : List Tok) (r : Rec) (n : Nat) (s : PS) (D : Deep R g c T r n) (hp : PAt w R g c T s) (hd : 41 ≤ s.deep + n) :
  Calls Try.prog 83 #[.pointer (some ⟨R, 0, none⟩)] w (Gives w R g c T (wholeF r s)) := by
 have HZ0 : Hid (Whole (w.alloc (.cells #[.int .i64 0, .string ⟨#[]⟩, .int .i64 0, .int .i64 0, .slice none 0 0, .slice none 0 0] 25)) w.heap.size 25 #[.int .i64 0, .string ⟨#[]⟩, .int .i64 0, .int .i64 0, .slice none 0 0, .slice none 0 0]) := Whole.made _ _ _
 have HB0 : Hid (Below w.heap.size w (w.alloc (.cells #[.int .i64 0, .string ⟨#[]⟩, .int .i64 0, .int .i64 0, .slice none 0 0, .slice none 0 0] 25))) := (Below.refl _ _).alloc (Nat.le_refl _) _
 have HP0 := Lib.hid (hp.alloc (.cells #[.int .i64 0, .string ⟨#[]⟩, .int .i64 0, .int .i64 0, .slice none 0 0, .slice none 0 0] 25))
 have HR := Lib.hid hp.rlt
 have HL := Lib.hid hp.tk.1
 have CE := Lib.hid (fun (wx : World) (h : PAt wx R g c T { s with flat := false }) => D.exp wx { s with flat := false } h hd)
 have HDP := Lib.hid hp.deep
 clear hp hd
 unfold wholeF
 generalize r.exp { s with flat := false } = q at *
 obtain ⟨x, s2⟩ := q
 dsimp only at CE ⊢
 go_enter Try.func83, Try.ntmps83
 go_upto_region 1 with (fail)
 generalize w.alloc (.cells #[.int .i64 0, .string ⟨#[]⟩, .int .i64 0, .int .i64 0, .slice none 0 0, .slice none 0 0] 25) = w1 at *
 have c4 := HP0.out.c4
 have f4 := HP0.out.free 4
 go_upto_region 3 with (fail)
 have HP1 : Hid (PAt (w1.setCell ⟨R, 4, none⟩ (.bool false)) R g c T { s with flat := false }) := HP0.out.upd 4 _ rfl HP0.out.lt HP0.out.deep
 have HZ1 := Lib.hid (HZ0.out.far (p := ⟨R, 4, none⟩) (Nat.ne_of_gt HR.out) (.bool false))
 have HB1 := Lib.hid ((But.of_below (H := R) HB0.out).set 4 (.bool false))
 clear HP0 HZ0 HB0 c4 f4
 generalize w1.setCell ⟨R, 4, none⟩ (.bool false) = w2 at *
 go_wp2_with fail
 refine (CE.out w2 HP1.out).mono ?_
 rintro e w3 ⟨f, rfl, h3, n3, b3⟩
 have HP3 := Lib.hid (h3.alloc (.cells #[.int .i64 x.kd, .string ⟨x.tx.toArray⟩, .int .i64 x.nm, .int .i64 (x.at_ : Int), .slice f.na x.ns.length f.nc, .slice f.ka x.ks.length f.kc] 25))
 have HN3 := Lib.hid (n3.later ((Below.refl _ _).alloc (Nat.le_refl _) (.cells #[.int .i64 x.kd, .string ⟨x.tx.toArray⟩, .int .i64 x.nm, .int .i64 (x.at_ : Int), .slice f.na x.ns.length f.nc, .slice f.ka x.ks.length f.kc] 25)) (Nat.le_refl _))
 have HZ3 := Lib.hid ((b3.whole HZ1.out HZ1.out.lt (Nat.ne_of_gt HR.out)).alloc (.cells #[.int .i64 x.kd, .string ⟨x.tx.toArray⟩, .int .i64 x.nm, .int .i64 (x.at_ : Int), .slice f.na x.ns.length f.nc, .slice f.ka x.ks.length f.kc] 25))
 have HB3 := Lib.hid ((HB1.out.trans (b3.mono HB1.out.size)).alloc (Nat.le_trans HB1.out.size b3.size) (.cells #[.int .i64 x.kd, .string ⟨x.tx.toArray⟩, .int .i64 x.nm, .int .i64 (x.at_ : Int), .slice f.na x.ns.length f.nc, .slice f.ka x.ks.length f.kc] 25))
 have HX3 : Hid (Whole (w3.alloc (.cells #[.int .i64 x.kd, .string ⟨x.tx.toArray⟩, .int .i64 x.nm, .int .i64 (x.at_ : Int), .slice f.na x.ns.length f.nc, .slice f.ka x.ks.length f.kc] 25)) w3.heap.size 25 #[.int .i64 x.kd, .string ⟨x.tx.toArray⟩, .int .i64 x.nm, .int .i64 (x.at_ : Int), .slice f.na x.ns.length f.nc, .slice f.ka x.ks.length f.kc]) := Whole.made _ _ _
 have HS3 : Hid (w.heap.size < w2.heap.size ∧ w2.heap.size ≤ w3.heap.size) := ⟨HZ1.out.lt, b3.size⟩
 clear h3 n3 b3 CE HP1 HZ1 HB1
 unfold ndV
 go_upto_region 4 with (fail)
 generalize w3.alloc (.cells #[.int .i64 x.kd, .string ⟨x.tx.toArray⟩, .int .i64 x.nm, .int .i64 (x.at_ : Int), .slice f.na x.ns.length f.nc, .slice f.ka x.ks.length f.kc] 25) = w4 at *
 generalize w3.heap.size = G at *
 have c4 := HP3.out.c4
 have f4 := HP3.out.free 4
 go_upto_region 5 with (fail)
 have HP5 : Hid (PAt (w4.setCell ⟨R, 4, none⟩ (.bool s.flat)) R g c T { s2 with flat := s.flat }) := HP3.out.upd 4 _ rfl HP3.out.lt HP3.out.deep
 have HZ5 := Lib.hid (HZ3.out.far (p := ⟨R, 4, none⟩) (Nat.ne_of_gt HR.out) (.bool s.flat))
 have HX5 := Lib.hid (HX3.out.far (p := ⟨R, 4, none⟩) (by show G ≠ R; have := HS3.out; have := HR.out; omega) (.bool s.flat))
 have HB5 := Lib.hid (HB3.out.set 4 (.bool s.flat))
 have HN5 := Lib.hid (HN3.out.but ((But.refl R w4.heap.size w4).set 4 (.bool s.flat)) (Nat.le_refl _) (fun a ha e => by have := HS3.out.1; have := HR.out; omega))
 clear HP3 HZ3 HX3 HB3 HN3 c4 f4
 generalize w4.setCell ⟨R, 4, none⟩ (.bool s.flat) = w5 at *
 obtain ⟨t0, t1, t2, t3, t4, t5⟩ := nodeC (HX5.out)
 obtain ⟨z0, z1, z2, z3, z4, z5⟩ := zeroC (HZ5.out)
 obtain ⟨y0, y1, y2, y3, y4, y5⟩ := freeC (HZ5.out)
 go_wp2_with fail
 obtain ⟨wf, HZF, HBF, hwf⟩ := endsN (HZ5.out) x f
 rw [hwf]
 clear hwf
 obtain ⟨g0, g1, g2, g3, g4, g5⟩ := cells6 HZF.out
 exact bodyPost_ret (v := ndV x f) (by simp [results, Try.results83, go_sem, ndV, Nd.kd, Nd.tx, Nd.nm, Nd.at_, Nd.ns, Nd.ks, leafN, fr0, nd0, g0, g1, g2, g3, g4, g5]) rfl ⟨f, rfl, HP5.out.but HBF.out (Nat.le_refl _) (Nat.ne_of_gt HR.out) (Nat.ne_of_gt HL.out), (HN5.out.but HBF.out (Nat.le_refl _) (fun a ha e => by have := HS3.out.1; omega)).mono (fun a ha _ => by have := HS3.out.1; omega), HB5.out.new HBF.out (Nat.le_refl _) HB5.out.size⟩
end Go.Proofs.Ytgjchgmlogbmmaa
/- Where a rule of the parser stands: the record, the result's block, what is as it was. -/
namespace Go.Proofs.Ytgjchgmlogbmmaa
open Go.RowKit
set_option linter.unusedVariables false
set_option linter.unusedSimpArgs false
attribute [local go_sem ↓] Go.wp_at_zero Go.wp_at_succ

structure St (w0 w : World) (R g c : Nat) (T : List Tok) (s : PS) : Prop where
 p : PAt w R g c T s
 z : Whole w w0.heap.size 25 #[.int .i64 0, .string ⟨#[]⟩, .int .i64 0, .int .i64 0, .slice none 0 0, .slice none 0 0]
 b : But R w0.heap.size w0 w
 r : R < w0.heap.size
 l : g < w0.heap.size
section
variable {w0 w w' : World} {R g c : Nat} {T : List Tok} {s s' : PS}
theorem St.start (h : PAt w R g c T s) : St w (w.alloc (.cells #[.int .i64 0, .string ⟨#[]⟩, .int .i64 0, .int .i64 0, .slice none 0 0, .slice none 0 0] 25)) R g c T s :=
 ⟨h.alloc _, Whole.made _ _ _, .of_below ((Below.refl _ _).alloc (Nat.le_refl _) _), h.rlt, h.tk.1⟩
theorem St.call (h : St w0 w R g c T s) (p : PAt w' R g c T s') (b : But R w.heap.size w w') : St w0 w' R g c T s' :=
 ⟨p, b.whole h.z h.z.lt (Nat.ne_of_gt h.r), h.b.trans (b.mono h.b.size), h.r, h.l⟩
theorem St.read (h : St w0 w R g c T s) (b : Below w.heap.size w w') : St w0 w' R g c T s := h.call (h.p.below b (Nat.le_refl _)) (.of_below b)
theorem St.alloc (h : St w0 w R g c T s) (o : Obj) : St w0 (w.alloc o) R g c T s := h.read ((Below.refl _ _).alloc (Nat.le_refl _) o)
theorem St.drew (h : St w0 w R g c T s) : St w0 w.drew R g c T s := h.read (Below.refl _ _).drew
theorem St.drewN (h : St w0 w R g c T s) (n : Nat) : St w0 (w.drewN n) R g c T s := h.read (below_drewN (Below.refl _ _) n)
theorem St.own (h : St w0 w R g c T s) {p : Addr} (hp : w0.heap.size < p.block) (u : Value) : St w0 (w.setCell p u) R g c T s :=
 ⟨h.p.setCell (by have := h.r; omega) (by have := h.l; omega) u, h.z.far (by omega) u, h.b.setCell (by omega) u, h.r, h.l⟩
theorem St.upd (h : St w0 w R g c T s) (o : Nat) (u : Value) (hs : (psA g c T s).setIfInBounds o u = psA g c T s') (hl : s'.i < T.length) (hd : s'.deep ≤ 40) : St w0 (w.setCell ⟨R, o, none⟩ u) R g c T s' :=
 ⟨h.p.upd o u hs hl hd, h.z.far (Nat.ne_of_gt h.r) u, h.b.set o u, h.r, h.l⟩
theorem St.size (h : St w0 w R g c T s) : w0.heap.size < w.heap.size := h.z.lt
/-- What lies low is as it was. -/
theorem St.low (h : St w0 w R g c T s) (b : Below (w0.heap.size + 1) w w') : St w0 w' R g c T s :=
 ⟨⟨(b.block R (by have := h.r; omega)).trans h.p.box, h.p.ne, h.p.tk.block b.size (b.block g (by have := h.l; omega)), h.p.lt, h.p.len, h.p.deep⟩, (b.block _ (Nat.lt_succ_self _)).trans h.z, h.b.trans (.of_below (b.mono (Nat.le_succ _))), h.r, h.l⟩
/-- The result is laid. -/
theorem St.done (h : St w0 w R g c T s) {x : Nd} {f : Fr} (n : NodeIn w (fun a => w0.heap.size < a) x f) (b : But w0.heap.size w.heap.size w w') : Gives w0 R g c T (x, s) (.returned (ndV x f)) w' :=
 ⟨f, rfl, h.p.but b (Nat.le_refl _) (Nat.ne_of_gt h.r) (Nat.ne_of_gt h.l), (n.but b (Nat.le_refl _) (fun a ha e => by omega)).mono (fun a ha _ => by omega), h.b.new b (Nat.le_refl _) h.b.size⟩
theorem NodeIn.gt {x : Nd} {f : Fr} (n : NodeIn w' (fun a => w.heap.size ≤ a) x f) (h : St w0 w R g c T s) : NodeIn w' (fun a => w0.heap.size < a) x f := n.mono fun a ha _ => by have := h.size; omega
theorem NodeIn.alloc {b : Nat → Prop} {x : Nd} {f : Fr} (n : NodeIn w b x f) (o : Obj) : NodeIn (w.alloc o) b x f := n.later ((Below.refl _ _).alloc (Nat.le_refl _) o) (Nat.le_refl _)
theorem NodeIn.drew {b : Nat → Prop} {x : Nd} {f : Fr} (n : NodeIn w b x f) : NodeIn w.drew b x f := n.later (Below.refl _ _).drew (Nat.le_refl _)
theorem NodeIn.call {x : Nd} {f : Fr} (n : NodeIn w (fun a => w0.heap.size < a) x f) (h : St w0 w R g c T s) (b : But R w.heap.size w w') : NodeIn w' (fun a => w0.heap.size < a) x f := n.but b (Nat.le_refl _) fun a ha e => by have := h.r; omega
theorem NodeIn.upd {x : Nd} {f : Fr} (n : NodeIn w (fun a => w0.heap.size < a) x f) (h : St w0 w R g c T s) (o : Nat) (u : Value) : NodeIn (w.setCell ⟨R, o, none⟩ u) (fun a => w0.heap.size < a) x f := n.call h ((But.refl R w.heap.size w).set o u)
/-- A block of the call's own is as it was behind a call. -/
theorem Whole.call {G : Nat} {t : TypeId} {cs : Array Value} (hw : Whole w G t cs) (h : St w0 w R g c T s) (hG : w0.heap.size < G) (b : But R w.heap.size w w') : Whole w' G t cs := b.whole hw hw.lt (by have := h.r; omega)
theorem Whole.updR {G : Nat} {t : TypeId} {cs : Array Value} (hw : Whole w G t cs) (h : St w0 w R g c T s) (hG : w0.heap.size < G) (o : Nat) (u : Value) : Whole (w.setCell ⟨R, o, none⟩ u) G t cs := hw.far (by show G ≠ R; have := h.r; omega) u
end
end Go.Proofs.Ytgjchgmlogbmmaa
/- The walks of layer 5, the document's: an exp, one deeper. -/
namespace Go.Proofs.Ytgjchgmlogbmmaa
open Go.RowKit
set_option linter.unusedVariables false
set_option linter.unusedSimpArgs false
attribute [local go_sem ↓] Go.wp_at_zero Go.wp_at_succ

set_option maxRecDepth 100000 in
set_option maxHeartbeats 2000000 in
theorem exp_any (w : World) (R g c : Nat) (T : List Tok) (r : Rec) (s : PS) (E : Ends T) (F : Fine T r) (hp : PAt w R g c T s)
  (CI : enterB T s = true → ∀ wx : World, PAt wx R g c T (enterF T s) → Calls Try.prog 55 #[.pointer (some ⟨R, 0, none⟩)] wx (Gives wx R g c T (innerF T r (enterF T s)))) :
  Calls Try.prog 39 #[.pointer (some ⟨R, 0, none⟩)] w (Gives w R g c T (expF T r s)) := by
 have H0 := Lib.hid (St.start hp)
 have CE := Lib.hid (fun wx (h : PAt wx R g c T s) => enter_any wx R g c T s h)
 have HI := Lib.hid CI
 have HG := Lib.hid (fun (h : enterB T s = true) => goes_inner E F (enter_lt hp.lt h))
 have HEI := Lib.hid (fun (h : enterB T s = true) => enter_in hp.lt h)
 obtain ⟨q, hq⟩ : ∃ q, expF T r s = q := ⟨_, rfl⟩
 rw [hq]
 have HQ := Lib.hid hq
 clear hp CI hq
 go_enter Try.func39, Try.ntmps39
 go_upto_region 1 with (fail)
 generalize w.alloc (.cells #[.int .i64 0, .string ⟨#[]⟩, .int .i64 0, .int .i64 0, .slice none 0 0, .slice none 0 0] 25) = w1 at *
 go_wp2_with fail
 refine (CE.out w1 H0.out.p).mono ?_
 rintro e w2 ⟨rfl, h2, b2⟩
 have H2 := Lib.hid (H0.out.call h2 b2)
 clear h2 b2 H0 CE
 by_cases hb : enterB T s = true
 ·have hq : ((innerF T r (enterF T s)).1, up (innerF T r (enterF T s)).2) = q := by rw [← HQ.out]; unfold expF; rw [if_pos hb]
  have hi := HI.out hb
  have hg := HG.out hb
  obtain ⟨a1, a2, a3, _⟩ := HEI.out hb
  subst hq
  have HC := Lib.hid hi
  have HGG := Lib.hid hg
  rw [hb]
  clear HQ HI HG HEI hi hg hb
  generalize innerF T r (enterF T s) = q at *
  obtain ⟨x, s3⟩ := q
  dsimp only at HC HGG ⊢
  go_wp2_with fail
  refine (HC.out w2 H2.out.p).mono ?_
  rintro e w3 ⟨f, rfl, h3, n3, b3⟩
  have H3 := Lib.hid ((H2.out.call h3 b3).alloc (.cells #[.int .i64 x.kd, .string ⟨x.tx.toArray⟩, .int .i64 x.nm, .int .i64 (x.at_ : Int), .slice f.na x.ns.length f.nc, .slice f.ka x.ks.length f.kc] 25))
  have N3 := Lib.hid ((n3.gt H2.out).alloc (.cells #[.int .i64 x.kd, .string ⟨x.tx.toArray⟩, .int .i64 x.nm, .int .i64 (x.at_ : Int), .slice f.na x.ns.length f.nc, .slice f.ka x.ks.length f.kc] 25))
  have X3 : Hid (Whole (w3.alloc (.cells #[.int .i64 x.kd, .string ⟨x.tx.toArray⟩, .int .i64 x.nm, .int .i64 (x.at_ : Int), .slice f.na x.ns.length f.nc, .slice f.ka x.ks.length f.kc] 25)) w3.heap.size 25 #[.int .i64 x.kd, .string ⟨x.tx.toArray⟩, .int .i64 x.nm, .int .i64 (x.at_ : Int), .slice f.na x.ns.length f.nc, .slice f.ka x.ks.length f.kc]) := Whole.made _ _ _
  have S3 : Hid (w.heap.size < w3.heap.size) := (H2.out.call h3 b3).size
  clear h3 n3 b3 HC
  unfold ndV
  go_upto_region 5 with (fail)
  generalize w3.alloc (.cells #[.int .i64 x.kd, .string ⟨x.tx.toArray⟩, .int .i64 x.nm, .int .i64 (x.at_ : Int), .slice f.na x.ns.length f.nc, .slice f.ka x.ks.length f.kc] 25) = w4 at *
  generalize w3.heap.size = G at *
  have c2 := H3.out.p.c2
  have f2 := H3.out.p.free 2
  have d3 : s3.deep = s.deep + 1 := by rw [HGG.out.deep]; exact a2
  have d4 : (s3.deep : Int) - 1 = (s.deep : Int) := by omega
  have d5 : s3.deep - 1 = s.deep := by omega
  have d6 : (s3.deep : Int) ≤ 40 := by have := H3.out.p.deep; omega
  have HU : Hid (up s3 = { s3 with deep := s.deep }) := by show _ = _; unfold up; rw [d5]
  clear d5 d3 a1 a2 a3
  go_upto_region 6 with (fail)
  have H6 : Hid (St w (w4.setCell ⟨R, 2, none⟩ (.int .i64 (s.deep : Int))) R g c T (up s3)) := by
   show St _ _ _ _ _ _ _
   rw [HU.out]
   exact H3.out.upd (s' := { s3 with deep := s.deep }) 2 _ rfl H3.out.p.lt (by show s.deep ≤ 40; omega)
  have N6 := Lib.hid (N3.out.upd H3.out 2 (.int .i64 (s.deep : Int)))
  have X6 := Lib.hid (X3.out.updR H3.out S3.out 2 (.int .i64 (s.deep : Int)))
  clear c2 f2 H3 N3 X3
  generalize w4.setCell ⟨R, 2, none⟩ (.int .i64 (s.deep : Int)) = w6 at *
  obtain ⟨t0, t1, t2, t3, t4, t5⟩ := nodeC (X6.out)
  obtain ⟨z0, z1, z2, z3, z4, z5⟩ := zeroC (H6.out.z)
  obtain ⟨y0, y1, y2, y3, y4, y5⟩ := freeC (H6.out.z)
  go_wp2_with fail
  obtain ⟨wf, HZF, HBF, hwf⟩ := endsN (H6.out.z) x f
  rw [hwf]
  clear hwf
  obtain ⟨g0, g1, g2, g3, g4, g5⟩ := cells6 HZF.out
  exact bodyPost_ret (v := ndV x f) (by simp [results, Try.results39, go_sem, ndV, Nd.kd, Nd.tx, Nd.nm, Nd.at_, Nd.ns, Nd.ks, leafN, fr0, nd0, g0, g1, g2, g3, g4, g5]) rfl (H6.out.done N6.out HBF.out)
 ·have hq : (nd0, enterF T s) = q := by rw [← HQ.out]; unfold expF; rw [if_neg hb]
  subst hq
  have hb2 : enterB T s = false := by cases h : enterB T s <;> simp_all
  rw [hb2]
  clear HQ HI HG HEI hb hb2
  obtain ⟨z0, z1, z2, z3, z4, z5⟩ := zeroC (H2.out.z)
  obtain ⟨y0, y1, y2, y3, y4, y5⟩ := freeC (H2.out.z)
  go_wp2_with fail
  obtain ⟨wf, HZF, HBF, hwf⟩ := ends6 (H2.out.z) (.int .i64 0) (.string ⟨#[]⟩) (.int .i64 0) (.int .i64 0) (.slice none 0 0) (.slice none 0 0)
  rw [hwf]
  clear hwf
  obtain ⟨g0, g1, g2, g3, g4, g5⟩ := cells6 HZF.out
  exact bodyPost_ret (v := ndV nd0 fr0) (by simp [results, Try.results39, go_sem, ndV, Nd.kd, Nd.tx, Nd.nm, Nd.at_, Nd.ns, Nd.ks, leafN, fr0, nd0, g0, g1, g2, g3, g4, g5]) rfl (H2.out.done (x := nd0) (f := fr0) (.leaf _ _ rfl rfl) HBF.out)
end Go.Proofs.Ytgjchgmlogbmmaa
/- The walks of layer 5, the document's: a pattern without anything behind it. -/
namespace Go.Proofs.Ytgjchgmlogbmmaa
open Go.RowKit
set_option linter.unusedVariables false
set_option linter.unusedSimpArgs false
attribute [local go_sem ↓] Go.wp_at_zero Go.wp_at_succ

set_option maxRecDepth 100000 in
set_option maxHeartbeats 4000000 in
theorem patom_any (w : World) (R g c : Nat) (T : List Tok) (r : Rec) (n : Nat) (s : PS) (E : Ends T) (F : Fine T r) (D : Deep R g c T r n) (hp : PAt w R g c T s) (hd : 41 ≤ s.deep + n) :
  Calls Try.prog 85 #[.pointer (some ⟨R, 0, none⟩)] w (Gives w R g c T (patomF T r s)) := by
 have H0 := Lib.hid (St.start hp)
 have CK := Lib.hid (fun wx (h : PAt wx R g c T s) => kind_any wx R g c T s h)
 have GS := Lib.hid (goes_step E hp.lt)
 have HD := Lib.hid hd
 obtain ⟨q, hq⟩ : ∃ q, patomF T r s = q := ⟨_, rfl⟩
 rw [hq]
 have HQ := Lib.hid hq
 clear hp hq hd
 unfold patomF at HQ
 obtain ⟨k, hk⟩ : ∃ k, kdF T s = k := ⟨_, rfl⟩
 rw [hk] at CK HQ
 clear hk
 go_enter Try.func85, Try.ntmps85
 go_upto_region 1 with (fail)
 generalize w.alloc (.cells #[.int .i64 0, .string ⟨#[]⟩, .int .i64 0, .int .i64 0, .slice none 0 0, .slice none 0 0] 25) = w1 at *
 go_wp2_with fail
 refine (CK.out w1 H0.out.p).mono ?_
 rintro e w2 ⟨rfl, b2⟩
 have H2 := Lib.hid (H0.out.read b2)
 clear b2 H0 CK
 by_cases k1 : k = 1
 ·subst k1
  have hq : (leafN T s 1, stepF T s) = q := by rw [← HQ.out]; exact (if_pos rfl).symm
  subst hq
  have CL := Lib.hid (leaf_any w2 R g c T s 1 E H2.out.p)
  clear HQ
  generalize leafN T s 1 = x at *
  generalize stepF T s = s2 at *
  go_wp2_with fail
  refine CL.out.mono ?_
  rintro e w9 ⟨f, rfl, h9, n9, b9⟩
  have H9 := Lib.hid (H2.out.call h9 b9)
  have N9 := Lib.hid (n9.gt H2.out)
  clear h9 n9 b9 CL
  unfold ndV
  obtain ⟨z0, z1, z2, z3, z4, z5⟩ := zeroC (H9.out.z)
  obtain ⟨y0, y1, y2, y3, y4, y5⟩ := freeC (H9.out.z)
  go_wp2_with fail
  obtain ⟨wf, HZF, HBF, hwf⟩ := endsN (H9.out.z) x f
  rw [hwf]
  clear hwf
  obtain ⟨g0, g1, g2, g3, g4, g5⟩ := cells6 HZF.out
  exact bodyPost_ret (v := ndV x f) (by simp [results, Try.results85, go_sem, ndV, Nd.kd, Nd.tx, Nd.nm, Nd.at_, Nd.ns, Nd.ks, leafN, fr0, nd0, g0, g1, g2, g3, g4, g5]) rfl (H9.out.done N9.out HBF.out)
 by_cases k3 : k = 3
 ·subst k3
  have hq : (leafN T s 4, stepF T s) = q := by rw [← HQ.out]; rw [if_neg (by decide), if_pos rfl]
  subst hq
  have CL := Lib.hid (leaf_any w2 R g c T s 4 E H2.out.p)
  clear HQ
  generalize leafN T s 4 = x at *
  generalize stepF T s = s2 at *
  go_wp2_with fail
  refine CL.out.mono ?_
  rintro e w9 ⟨f, rfl, h9, n9, b9⟩
  have H9 := Lib.hid (H2.out.call h9 b9)
  have N9 := Lib.hid (n9.gt H2.out)
  clear h9 n9 b9 CL
  unfold ndV
  obtain ⟨z0, z1, z2, z3, z4, z5⟩ := zeroC (H9.out.z)
  obtain ⟨y0, y1, y2, y3, y4, y5⟩ := freeC (H9.out.z)
  go_wp2_with fail
  obtain ⟨wf, HZF, HBF, hwf⟩ := endsN (H9.out.z) x f
  rw [hwf]
  clear hwf
  obtain ⟨g0, g1, g2, g3, g4, g5⟩ := cells6 HZF.out
  exact bodyPost_ret (v := ndV x f) (by simp [results, Try.results85, go_sem, ndV, Nd.kd, Nd.tx, Nd.nm, Nd.at_, Nd.ns, Nd.ks, leafN, fr0, nd0, g0, g1, g2, g3, g4, g5]) rfl (H9.out.done N9.out HBF.out)
 by_cases k4 : k = 4
 ·subst k4
  have hq : (leafN T s 5, stepF T s) = q := by rw [← HQ.out]; rw [if_neg (by decide), if_neg (by decide), if_pos rfl]
  subst hq
  have CL := Lib.hid (leaf_any w2 R g c T s 5 E H2.out.p)
  clear HQ
  generalize leafN T s 5 = x at *
  generalize stepF T s = s2 at *
  go_wp2_with fail
  refine CL.out.mono ?_
  rintro e w9 ⟨f, rfl, h9, n9, b9⟩
  have H9 := Lib.hid (H2.out.call h9 b9)
  have N9 := Lib.hid (n9.gt H2.out)
  clear h9 n9 b9 CL
  unfold ndV
  obtain ⟨z0, z1, z2, z3, z4, z5⟩ := zeroC (H9.out.z)
  obtain ⟨y0, y1, y2, y3, y4, y5⟩ := freeC (H9.out.z)
  go_wp2_with fail
  obtain ⟨wf, HZF, HBF, hwf⟩ := endsN (H9.out.z) x f
  rw [hwf]
  clear hwf
  obtain ⟨g0, g1, g2, g3, g4, g5⟩ := cells6 HZF.out
  exact bodyPost_ret (v := ndV x f) (by simp [results, Try.results85, go_sem, ndV, Nd.kd, Nd.tx, Nd.nm, Nd.at_, Nd.ns, Nd.ks, leafN, fr0, nd0, g0, g1, g2, g3, g4, g5]) rfl (H9.out.done N9.out HBF.out)
 have q1 : (k == 1) = false := beq_eq_false_iff_ne.2 k1
 have q3 : (k == 3) = false := beq_eq_false_iff_ne.2 k3
 have q4 : (k == 4) = false := beq_eq_false_iff_ne.2 k4
 have HQ2 : Hid ((if isF T s [95] = true then (.mk 24 [] 0 (stepT T s).at_ [] [], stepF T s) else if isF T s [40] = true then ((r.pat (stepF T s)).1, wantF T (r.pat (stepF T s)).2 [41]) else (nd0, failF T s 14)) = q) := by
  show _ = _
  rw [← HQ.out, if_neg k1, if_neg k3, if_neg k4]
 have CI1 := Lib.hid (is_any w2 R g c T s [95] H2.out.p)
 have CI2 := Lib.hid (fun wx (h : PAt wx R g c T s) => is_any wx R g c T s [40] h)
 clear HQ k1 k3 k4
 generalize isF T s [95] = b1 at *
 generalize isF T s [40] = b2 at *
 go_wp2_with fail
 refine CI1.out.mono ?_
 rintro e w3 ⟨rfl, c3⟩
 have H3 := Lib.hid (H2.out.read c3)
 clear c3 H2 CI1
 go_wp2_with fail
 refine (CI2.out w3 H3.out.p).mono ?_
 rintro e w4 ⟨rfl, c4⟩
 have H4 := Lib.hid (H3.out.read c4)
 clear c4 H3 CI2
 rcases b1 with _ | _
 ·rcases b2 with _ | _
  ·have hq : (nd0, failF T s 14) = q := by rw [← HQ2.out, if_neg (by decide), if_neg (by decide)]
   subst hq
   clear HQ2
   go_wp2_with fail
   refine (fail_any w4 R g c T s 14 H4.out.p).mono ?_
   rintro e w5 ⟨rfl, h5, b5⟩
   have H5 := Lib.hid (H4.out.call h5 b5)
   clear h5 b5
   obtain ⟨z0, z1, z2, z3, z4, z5⟩ := zeroC (H5.out.z)
   obtain ⟨y0, y1, y2, y3, y4, y5⟩ := freeC (H5.out.z)
   go_wp2_with fail
   obtain ⟨wf, HZF, HBF, hwf⟩ := ends6 (H5.out.z) (.int .i64 0) (.string ⟨#[]⟩) (.int .i64 0) (.int .i64 0) (.slice none 0 0) (.slice none 0 0)
   rw [hwf]
   clear hwf
   obtain ⟨g0, g1, g2, g3, g4, g5⟩ := cells6 HZF.out
   exact bodyPost_ret (v := ndV nd0 fr0) (by simp [results, Try.results85, go_sem, ndV, Nd.kd, Nd.tx, Nd.nm, Nd.at_, Nd.ns, Nd.ks, leafN, fr0, nd0, g0, g1, g2, g3, g4, g5]) rfl (H5.out.done (x := nd0) (f := fr0) (.leaf _ _ rfl rfl) HBF.out)
  ·have hq : ((r.pat (stepF T s)).1, wantF T (r.pat (stepF T s)).2 [41]) = q := by rw [← HQ2.out, if_neg (by decide), if_pos rfl]
   subst hq
   clear HQ2
   have CS := Lib.hid (step_any w4 R g c T s E H4.out.p)
   have CP := Lib.hid (fun wx (h : PAt wx R g c T (stepF T s)) => D.pat wx (stepF T s) h (by rw [GS.out.deep]; exact HD.out))
   have GP := Lib.hid (F.pat (stepF T s) GS.out.lt)
   generalize stepT T s = t at *
   generalize stepF T s = s2 at *
   generalize r.pat s2 = q at *
   obtain ⟨x, s3⟩ := q
   dsimp only at CP GP
   go_wp2_with fail
   refine CS.out.mono ?_
   rintro e w5 ⟨rfl, h5, b5⟩
   have H5 := Lib.hid (H4.out.call h5 b5)
   clear h5 b5 CS H4
   go_wp2_with fail
   refine (CP.out w5 H5.out.p).mono ?_
   rintro e w6 ⟨f, rfl, h6, n6, b6⟩
   have H6 := Lib.hid ((H5.out.call h6 b6).alloc (.cells #[.int .i64 x.kd, .string ⟨x.tx.toArray⟩, .int .i64 x.nm, .int .i64 (x.at_ : Int), .slice f.na x.ns.length f.nc, .slice f.ka x.ks.length f.kc] 25))
   have N6 := Lib.hid ((n6.gt H5.out).alloc (.cells #[.int .i64 x.kd, .string ⟨x.tx.toArray⟩, .int .i64 x.nm, .int .i64 (x.at_ : Int), .slice f.na x.ns.length f.nc, .slice f.ka x.ks.length f.kc] 25))
   have X6 : Hid (Whole (w6.alloc (.cells #[.int .i64 x.kd, .string ⟨x.tx.toArray⟩, .int .i64 x.nm, .int .i64 (x.at_ : Int), .slice f.na x.ns.length f.nc, .slice f.ka x.ks.length f.kc] 25)) w6.heap.size 25 #[.int .i64 x.kd, .string ⟨x.tx.toArray⟩, .int .i64 x.nm, .int .i64 (x.at_ : Int), .slice f.na x.ns.length f.nc, .slice f.ka x.ks.length f.kc]) := Whole.made _ _ _
   have S6 : Hid (w.heap.size < w6.heap.size) := (H5.out.call h6 b6).size
   clear h6 n6 b6 CP H5
   unfold ndV
   go_upto_region 16 with (fail)
   generalize w6.alloc (.cells #[.int .i64 x.kd, .string ⟨x.tx.toArray⟩, .int .i64 x.nm, .int .i64 (x.at_ : Int), .slice f.na x.ns.length f.nc, .slice f.ka x.ks.length f.kc] 25) = w7 at *
   generalize w6.heap.size = G at *
   go_wp2_with fail
   refine (want_any w7 R g c T s3 [41] E H6.out.p).mono ?_
   rintro e w8 ⟨rfl, h8, b8⟩
   have H8 := Lib.hid (H6.out.call h8 b8)
   have N8 := Lib.hid (N6.out.call H6.out b8)
   have X8 := Lib.hid (X6.out.call H6.out S6.out b8)
   clear h8 b8 H6 N6 X6
   obtain ⟨t0, t1, t2, t3, t4, t5⟩ := nodeC (X8.out)
   obtain ⟨z0, z1, z2, z3, z4, z5⟩ := zeroC (H8.out.z)
   obtain ⟨y0, y1, y2, y3, y4, y5⟩ := freeC (H8.out.z)
   go_wp2_with fail
   obtain ⟨wf, HZF, HBF, hwf⟩ := endsN (H8.out.z) x f
   rw [hwf]
   clear hwf
   obtain ⟨g0, g1, g2, g3, g4, g5⟩ := cells6 HZF.out
   exact bodyPost_ret (v := ndV x f) (by simp [results, Try.results85, go_sem, ndV, Nd.kd, Nd.tx, Nd.nm, Nd.at_, Nd.ns, Nd.ks, leafN, fr0, nd0, g0, g1, g2, g3, g4, g5]) rfl (H8.out.done N8.out HBF.out)
 ·have hq : (.mk 24 [] 0 (stepT T s).at_ [] [], stepF T s) = q := by rw [← HQ2.out, if_pos rfl]
  subst hq
  clear HQ2
  have CS := Lib.hid (step_any w4 R g c T s E H4.out.p)
  generalize stepT T s = t at *
  generalize stepF T s = s2 at *
  go_wp2_with fail
  refine CS.out.mono ?_
  rintro e w5 ⟨rfl, h5, b5⟩
  have H5 := Lib.hid ((H4.out.call h5 b5).alloc (.cells #[.int .i64 t.kind, .string ⟨t.text.toArray⟩, .int .i64 t.num, .int .i64 (t.at_ : Int)] 67))
  have X5 : Hid (Whole (w5.alloc (.cells #[.int .i64 t.kind, .string ⟨t.text.toArray⟩, .int .i64 t.num, .int .i64 (t.at_ : Int)] 67)) w5.heap.size 67 #[.int .i64 t.kind, .string ⟨t.text.toArray⟩, .int .i64 t.num, .int .i64 (t.at_ : Int)]) := Whole.made _ _ _
  clear h5 b5 CS H4
  unfold tokV
  go_upto_region 12 with (fail)
  generalize w5.alloc (.cells #[.int .i64 t.kind, .string ⟨t.text.toArray⟩, .int .i64 t.num, .int .i64 (t.at_ : Int)] 67) = w6 at *
  generalize w5.heap.size = G at *
  have t3 : w6.cell? ⟨G, 3, none⟩ = some (.int .i64 (t.at_ : Int)) := X5.out.cell 3
  obtain ⟨z0, z1, z2, z3, z4, z5⟩ := zeroC (H5.out.z)
  obtain ⟨y0, y1, y2, y3, y4, y5⟩ := freeC (H5.out.z)
  go_wp2_with fail
  obtain ⟨wf, HZF, HBF, hwf⟩ := ends6 (H5.out.z) (.int .i64 24) (.string ⟨#[]⟩) (.int .i64 0) (.int .i64 (t.at_ : Int)) (.slice none 0 0) (.slice none 0 0)
  rw [hwf]
  clear hwf
  obtain ⟨g0, g1, g2, g3, g4, g5⟩ := cells6 HZF.out
  exact bodyPost_ret (v := ndV (.mk 24 [] 0 t.at_ [] []) fr0) (by simp [results, Try.results85, go_sem, ndV, Nd.kd, Nd.tx, Nd.nm, Nd.at_, Nd.ns, Nd.ks, leafN, fr0, nd0, g0, g1, g2, g3, g4, g5]) rfl (H5.out.done (f := fr0) (.leaf _ _ rfl rfl) HBF.out)
end Go.Proofs.Ytgjchgmlogbmmaa
/- The walks of layer 5, the document's: a pattern. -/
namespace Go.Proofs.Ytgjchgmlogbmmaa
open Go.RowKit
set_option linter.unusedVariables false
set_option linter.unusedSimpArgs false
attribute [local go_sem ↓] Go.wp_at_zero Go.wp_at_succ

theorem patL_ge {T : List Tok} {r : Rec} {n : Nd} {s : PS} {f : Nat} (h1 : ¬ (opF T s [95] [40] [95] = [] ∧ kdF T s ≠ 3 ∧ kdF T s ≠ 1 ∧ kdF T s ≠ 4)) (h2 : n.ks.length = 4) : patL T r (f + 1) n s = (n, failF T s 16) := by
 show (if _ then _ else if _ then _ else _) = _; rw [if_neg h1, if_pos h2]
theorem patL_out {T : List Tok} {r : Rec} {n : Nd} {s : PS} {f : Nat} (h1 : opF T s [95] [40] [95] = [] ∧ kdF T s ≠ 3 ∧ kdF T s ≠ 1 ∧ kdF T s ≠ 4) : patL T r (f + 1) n s = (n, s) := by
 show (if _ then _ else if _ then _ else _) = _; rw [if_pos h1]
theorem patL_in {T : List Tok} {r : Rec} {n : Nd} {s : PS} {f : Nat} (h1 : ¬ (opF T s [95] [40] [95] = [] ∧ kdF T s ≠ 3 ∧ kdF T s ≠ 1 ∧ kdF T s ≠ 4)) (h2 : n.ks.length ≠ 4) : patL T r (f + 1) n s = patL T r f (n.add (patomF T r s).1) (patomF T r s).2 := by
 show (if _ then _ else if _ then _ else _) = _; rw [if_neg h1, if_neg h2]
/-- A constructor's leaf has no names, no kids. -/
theorem patom_con {T : List Tok} {r : Rec} {s : PS} (h : kdF T s = 4) : (patomF T r s).1.ns = [] ∧ (patomF T r s).1.ks = [] := by
 unfold patomF; rw [if_neg (by rw [h]; decide), if_neg (by rw [h]; decide), if_pos h]; exact ⟨rfl, rfl⟩
set_option maxRecDepth 100000 in
set_option maxHeartbeats 8000000 in
theorem pat_any (w : World) (R g c : Nat) (T : List Tok) (r : Rec) (n : Nat) (s : PS) (E : Ends T) (F : Fine T r) (D : Deep R g c T r n) (hp : PAt w R g c T s) (hd : 41 ≤ s.deep + (n + 1)) :
  Calls Try.prog 84 #[.pointer (some ⟨R, 0, none⟩)] w (Gives w R g c T (patF T r s)) := by
 have H0 := Lib.hid (St.start hp)
 have CE := Lib.hid (fun wx (h : PAt wx R g c T s) => enter_any wx R g c T s h)
 have HEI := Lib.hid (fun (h : enterB T s = true) => enter_in hp.lt h)
 have HEL := Lib.hid (fun (h : enterB T s = true) => enter_lt hp.lt h)
 have HD := Lib.hid hd
 obtain ⟨q, hq⟩ : ∃ q, patF T r s = q := ⟨_, rfl⟩
 rw [hq]
 have HQ := Lib.hid hq
 clear hp hd hq
 go_enter Try.func84, Try.ntmps84
 go_upto_region 1 with (fail)
 generalize w.alloc (.cells #[.int .i64 0, .string ⟨#[]⟩, .int .i64 0, .int .i64 0, .slice none 0 0, .slice none 0 0] 25) = w1 at *
 go_wp2_with fail
 refine (CE.out w1 H0.out.p).mono ?_
 rintro e w2 ⟨rfl, h2, b2⟩
 have H2 := Lib.hid (H0.out.call h2 b2)
 clear h2 b2 H0 CE
 by_cases hb : enterB T s = true
 ·have hq : ((if decide (kdF T (enterF T s) = 4) = true then patL T r 5 (patomF T r (enterF T s)).1 (patomF T r (enterF T s)).2 else patomF T r (enterF T s)).1, up (if decide (kdF T (enterF T s) = 4) = true then patL T r 5 (patomF T r (enterF T s)).1 (patomF T r (enterF T s)).2 else patomF T r (enterF T s)).2) = q := by rw [← HQ.out]; unfold patF; rw [if_pos hb]
  obtain ⟨a1, a2, a3, _⟩ := HEI.out hb
  have hl := HEL.out hb
  have hd1 : 41 ≤ (enterF T s).deep + n := by have := HD.out; omega
  have GP := Lib.hid (goes_patom (r := r) E F hl)
  have HA := Lib.hid a2
  have HQ2 := Lib.hid hq
  have hb2 : enterB T s = true := hb
  rw [hb2]
  clear HQ HEI HEL hq hb hb2 a1 a3 hl
  generalize enterF T s = s1 at *
  have CK := Lib.hid (kind_any w2 R g c T s1 H2.out.p)
  have CP := Lib.hid (fun wx (h : PAt wx R g c T s1) => patom_any wx R g c T r n s1 E F D h hd1)
  have HNC := Lib.hid (fun (h : kdF T s1 = 4) => patom_con (r := r) h)
  obtain ⟨k, hk⟩ : ∃ k, kdF T s1 = k := ⟨_, rfl⟩
  rw [hk] at CK HNC HQ2
  generalize hx : patomF T r s1 = q1 at *
  have HX := Lib.hid hx
  clear hk hx
  obtain ⟨x, s2⟩ := q1
  dsimp only at CP GP HNC HQ2
  obtain ⟨kb, q4⟩ : ∃ kb, (k == 4) = kb := ⟨_, rfl⟩
  go_wp2_with fail
  refine CK.out.mono ?_
  rintro e w3 ⟨rfl, b3⟩
  have H3 := Lib.hid (H2.out.read b3)
  clear b3 H2 CK
  go_wp2_with fail
  refine (CP.out w3 H3.out.p).mono ?_
  rintro e w4 ⟨f, rfl, h4, n4, b4⟩
  have H4 := Lib.hid ((H3.out.call h4 b4).alloc (.cells #[.int .i64 x.kd, .string ⟨x.tx.toArray⟩, .int .i64 x.nm, .int .i64 (x.at_ : Int), .slice f.na x.ns.length f.nc, .slice f.ka x.ks.length f.kc] 25))
  have N4 := Lib.hid ((n4.gt H3.out).alloc (.cells #[.int .i64 x.kd, .string ⟨x.tx.toArray⟩, .int .i64 x.nm, .int .i64 (x.at_ : Int), .slice f.na x.ns.length f.nc, .slice f.ka x.ks.length f.kc] 25))
  have X4 : Hid (Whole (w4.alloc (.cells #[.int .i64 x.kd, .string ⟨x.tx.toArray⟩, .int .i64 x.nm, .int .i64 (x.at_ : Int), .slice f.na x.ns.length f.nc, .slice f.ka x.ks.length f.kc] 25)) w4.heap.size 25 #[.int .i64 x.kd, .string ⟨x.tx.toArray⟩, .int .i64 x.nm, .int .i64 (x.at_ : Int), .slice f.na x.ns.length f.nc, .slice f.ka x.ks.length f.kc]) := Whole.made _ _ _
  have S4 : Hid (w.heap.size < w4.heap.size) := (H3.out.call h4 b4).size
  have BXM : Hid (f = fr0 → x.ns = [] → x.ks = [] → Box (w4.alloc (.cells #[.int .i64 x.kd, .string ⟨x.tx.toArray⟩, .int .i64 x.nm, .int .i64 (x.at_ : Int), .slice f.na x.ns.length f.nc, .slice f.ka x.ks.length f.kc] 25)) w4.heap.size (w.heap.size + 1) x fr0 []) := fun hf h1 h2 => by subst hf; exact Box.made w4 (base := w.heap.size + 1) (x := x) (H3.out.call h4 b4).size h1 h2
  clear h4 n4 b4 CP H3
  unfold ndV
  go_upto_block 0 with (fail)
  generalize w4.alloc (.cells #[.int .i64 x.kd, .string ⟨x.tx.toArray⟩, .int .i64 x.nm, .int .i64 (x.at_ : Int), .slice f.na x.ns.length f.nc, .slice f.ka x.ks.length f.kc] 25) = w5 at *
  generalize w4.heap.size = G at *
  go_cut [6] (fun _ wx => ∃ z s3 f3, q = (z, up s3) ∧ St w wx R g c T s3 ∧ NodeIn wx (fun a => w.heap.size < a) z f3 ∧ Whole wx G 25 #[.int .i64 z.kd, .string ⟨z.tx.toArray⟩, .int .i64 z.nm, .int .i64 (z.at_ : Int), .slice f3.na z.ns.length f3.nc, .slice f3.ka z.ks.length f3.kc] ∧ Goes T s1 s3)
  case first =>
   rcases kb with _ | _
   rotate_left
   ·have hk : k = 4 := beq_iff_eq.1 q4
    obtain ⟨x1, x2⟩ := HNC.out hk
    have hf : f = fr0 := N4.out.nil x1 x2
    subst hf
    have hq : ((patL T r 5 x s2).1, up (patL T r 5 x s2).2) = q := by rw [← HQ2.out, if_pos (decide_eq_true hk)]
    have BX4 := Lib.hid (BXM.out rfl x1 x2)
    generalize hres : patL T r 5 x s2 = res at *
    have HRES := Lib.hid hres
    have hx0 := Lib.hid (show x.ks.length = 0 by rw [x2]; rfl)
    subst hq
    clear HQ2 HNC hk BXM x1 x2 N4 X4 hres HX
    go_wp2_with fail
    go_loopg [6] 5 (fun gk ks wr => ∃ z s3 f3 fs3, z.ks.length + gk = 5 ∧ z.ks.length ≤ 4 ∧ patL T r gk z s3 = res ∧ Box wr G (w.heap.size + 1) z f3 fs3 ∧ St w wr R g c T s3 ∧ Goes T s1 s3)
    case atStart => exact ⟨x, s2, fr0, [], by have := hx0.out; omega, by have := hx0.out; omega, HRES.out, BX4.out, H4.out, GP.out⟩
    case round =>
     obtain ⟨z, s3, f3, fs3, hz, hz4, hpl, hbx, hst, hgo⟩ := hrel
     obtain ⟨m, rfl⟩ : ∃ m, gk = m + 1 := ⟨gk - 1, by omega⟩
     have BX := Lib.hid hbx
     have HS := Lib.hid hst
     have HGO := Lib.hid hgo
     have CK3 := Lib.hid (kind_any wr R g c T s3 hst.p)
     have CO := Lib.hid (fun wx (h : PAt wx R g c T s3) => op_any wx R g c T s3 [95] [40] [95] h)
     have CP3 := Lib.hid (fun wx (h : PAt wx R g c T s3) => patom_any wx R g c T r n s3 E F D h (by rw [hgo.deep]; exact hd1))
     have GP3 := Lib.hid (goes_patom (r := r) E F hgo.lt)
     have P1 := Lib.hid (fun h => patL_out (T := T) (r := r) (n := z) (s := s3) (f := m) h)
     have P2 := Lib.hid (fun h1 h2 => patL_ge (T := T) (r := r) (n := z) (s := s3) (f := m) h1 h2)
     have P3 := Lib.hid (fun h1 h2 => patL_in (T := T) (r := r) (n := z) (s := s3) (f := m) h1 h2)
     have HPL := Lib.hid hpl
     clear hbx hst hgo HRES hpl H4 BX4
     generalize kdF T s3 = k3 at *
     generalize opF T s3 [95] [40] [95] = o at *
     generalize patomF T r s3 = q3 at *
     obtain ⟨y, s4⟩ := q3
     dsimp only at CP3 GP3 P3
     go_wp2_with fail
     refine CK3.out.mono ?_
     rintro e w6 ⟨rfl, b6⟩
     have H6 := Lib.hid (HS.out.read b6)
     have BX6 := Lib.hid (BX.out.below b6 (Nat.le_refl _))
     clear b6 CK3 HS BX
     go_wp2_with fail
     refine (CO.out w6 H6.out.p).mono ?_
     rintro e w7 ⟨rfl, b7⟩
     have H7 := Lib.hid (H6.out.read b7)
     have BX7 := Lib.hid (BX6.out.below b7 (Nat.le_refl _))
     clear b7 CO H6 BX6
     obtain ⟨bo, hbo⟩ : ∃ bo, decide (o = [] ∧ k3 ≠ 3 ∧ k3 ≠ 1 ∧ k3 ≠ 4) = bo := ⟨_, rfl⟩
     have HBO := Lib.hid hbo
     clear hbo
     go_upto_region 9 with (fail)
     go_cut [36] (fun t wx => t = .bool bo ∧ w7 = wx)
     case first =>
      rcases o with _ | ⟨a, o⟩
      ·by_cases h3 : k3 = 3
       ·subst h3
        have hbb : false = bo := by rw [← HBO.out]; exact (decide_eq_false (fun h => h.2.1 rfl)).symm
        subst hbb
        go_wp2_with fail
        go_meet
        exact ⟨rfl, rfl⟩
       ·have n3 : (k3 != 3) = true := bne_iff_ne.2 h3
        by_cases h1 : k3 = 1
        ·subst h1
         have hbb : false = bo := by rw [← HBO.out]; exact (decide_eq_false (fun h => h.2.2.1 rfl)).symm
         subst hbb
         go_wp2_with fail
         go_meet
         exact ⟨rfl, rfl⟩
        ·have n1 : (k3 != 1) = true := bne_iff_ne.2 h1
         by_cases h4 : k3 = 4
         ·subst h4
          have hbb : false = bo := by rw [← HBO.out]; exact (decide_eq_false (fun h => h.2.2.2 rfl)).symm
          subst hbb
          go_wp2_with fail
          go_meet
          exact ⟨rfl, rfl⟩
         ·have n4 : (k3 != 4) = true := bne_iff_ne.2 h4
          have hbb : true = bo := by rw [← HBO.out]; exact (decide_eq_true ⟨rfl, h3, h1, h4⟩).symm
          subst hbb
          clear h3 h1 h4 HBO
          go_wp2_with fail
          go_meet
          exact ⟨rfl, rfl⟩
      ·have hbb : false = bo := by rw [← HBO.out]; exact (decide_eq_false (fun h => by cases h.1)).symm
       subst hbb
       clear HBO
       go_wp2_with fail
       go_meet
       exact ⟨rfl, rfl⟩
     case rest =>
      obtain ⟨rfl, rfl⟩ := hcut
      by_cases hout : (o = [] ∧ k3 ≠ 3 ∧ k3 ≠ 1 ∧ k3 ≠ 4)
      ·have hr := (P1.out hout).symm.trans HPL.out
       subst hr
       have hbb : true = bo := by rw [← HBO.out]; exact (decide_eq_true hout).symm
       subst hbb
       clear HBO hout P1 P2 P3 HPL
       go_wp2_with fail
       go_meet
       exact ⟨z, s3, f3, rfl, H7.out, BX7.out.node.mono (fun a ha _ => by omega), BX7.out.box, HGO.out⟩
      ·have hbb : false = bo := by rw [← HBO.out]; exact (decide_eq_false hout).symm
       subst hbb
       clear HBO
       have c5 := BX7.out.c5
       by_cases h4 : z.ks.length = 4
       ·have q5 : ((z.ks.length : Int) == 4) = true := beq_iff_eq.2 (by omega)
        have hr := (P2.out hout h4).symm.trans HPL.out
        subst hr
        clear hout P1 P2 P3 HPL h4
        go_wp2_with fail
        refine (fail_any w7 R g c T s3 16 H7.out.p).mono ?_
        rintro e w8 ⟨rfl, h8, b8⟩
        have H8 := Lib.hid (H7.out.call h8 b8)
        have BX8 := Lib.hid (BX7.out.but b8 (Nat.le_refl _) (by have := H7.out.r; omega))
        clear h8 b8
        go_wp2_with fail
        go_meet
        exact ⟨z, failF T s3 16, f3, rfl, H8.out, BX8.out.node.mono (fun a ha _ => by omega), BX8.out.box, HGO.out.fail 16⟩
       ·have q5 : ((z.ks.length : Int) == 4) = false := beq_eq_false_iff_ne.2 (by omega)
        have HPN := Lib.hid ((P3.out hout h4).symm.trans HPL.out)
        have HG2 := Lib.hid (HGO.out.trans GP3.out)
        clear hout P1 P2 P3 HPL HGO
        go_upto_region 12 with (fail)
        clear c5
        refine region_Z (fun W => W.cell? ⟨G, 5, none⟩ = some (.slice f3.ka z.ks.length f3.kc)) (fun i => i == 7) (by kernel_rfl) BX7.out.drew.c5 (fun hHeld => ?_)
        refine tke 0 rfl (v := ?_) ?_ ?_; rotate_left
        ·(intro w hSw; (try dsimp only at hSw); go_simp; try with_reducible rfl)
        (try simp only [Act.put, sZ])
        refine tke 1 rfl (v := ?_) ?_ ?_; rotate_left
        ·(intro w hSw; (try dsimp only at hSw); go_simp; try with_reducible rfl)
        (try simp only [Act.put, sZ])
        refine tke 2 rfl (v := ?_) ?_ ?_; rotate_left
        ·(intro w hSw; (try dsimp only at hSw); go_simp; try with_reducible rfl)
        (try simp only [Act.put, sZ])
        refine stp 3 rfl (fun K hK => ?_)
        go_simp
        go_at_call 85
        refine (CP3.out _ H7.out.drew.p).mono ?_
        rintro e wc ⟨fy, rfl, hpc, ny, bc⟩
        have HC := Lib.hid (H7.out.drew.call hpc bc)
        have BC := Lib.hid (BX7.out.drew.but bc (Nat.le_refl _) (by have := H7.out.r; omega))
        have NY : Hid (NodeIn wc (fun a => w7.heap.size ≤ a) y fy) := ny
        clear hpc ny bc
        unfold ndV
        refine hK.out _ _ (fun _ => BC.out.c5) (fun hHeld2 => ?_)
        clear hK K hHeld
        (try simp only [Act.put, sZ])
        refine stp 4 rfl (fun K hK => ?_)
        go_simp
        refine hK.out _ _ (fun _ => (BC.out.alloc _).c5) (fun hHeld3 => ?_)
        clear hK K hHeld2
        (try simp only [Act.put, sZ])
        refine stp 5 rfl (fun K hK => ?_)
        refine step_app ty_nd (v := .slice f3.ka z.ks.length f3.kc) (by rfl) _ _ (by rfl) (by rfl) (BC.out.alloc _).kid wc.heap.size 1 (ndL y fy) (by rfl) (Whole.made wc 25 _) (by rfl) (by simp [ndL, Value.oneCell']) (by decide) (by omega) (by decide) (by have := HC.out.size; simp; omega) ?_
        intro gv cv wd hap
        have HD := Lib.hid ((HC.out.alloc (.cells (ndL y fy).toArray 25)).low (hap.below (BC.out.alloc (.cells (ndL y fy).toArray 25)).kid (Below.refl _ _) (Nat.le_refl _) (by have := HC.out.size; simp; omega)))
        have BN0 := Lib.hid ((BC.out.alloc (.cells (ndL y fy).toArray 25)).app (B := w7.heap.size) BX7.out.lt BX7.out.nlt BX7.out.klt (NY.out.alloc _) hap)
        have XD := Lib.hid (hap.far (BC.out.alloc (.cells (ndL y fy).toArray 25)).box (row_ne (BC.out.alloc (.cells (ndL y fy).toArray 25)).kid BC.out.kN))
        have z5 : wd.cell? ⟨G, 5, none⟩ = some (.slice f3.ka z.ks.length f3.kc) := XD.out.cell 5
        have y5 := XD.out.free 5
        refine hK.out _ _ (fun _ => z5) (fun hHeld4 => ?_)
        replace hHeld4 := hHeld4 (by decide)
        clear hK K hHeld3 hap
        (try simp only [Act.put, sZ])
        refine tke 6 rfl (v := ?_) ?_ ?_; rotate_left
        ·(intro w hSw; (try dsimp only at hSw); go_simp; try with_reducible rfl)
        (try simp only [Act.put, sZ])
        refine stp 7 rfl (fun K hK => ?_)
        go_simp
        refine hK.out _ _ (fun h => absurd h (by decide)) (fun _ => ?_)
        refine anyZ_done (by kernel_rfl) ?_ _
        have HN := Lib.hid (HD.out.own (p := ⟨G, 5, none⟩) (Nat.lt_of_succ_le BX7.out.lo) (.slice (some ⟨gv, 0, none⟩) (z.ks.length + 1) cv))
        obtain ⟨f2, fs2, BN1⟩ : ∃ f2 fs2, Box (wd.setCell ⟨G, 5, none⟩ (.slice (some ⟨gv, 0, none⟩) (z.ks.length + 1) cv)) G (w.heap.size + 1) (z.add y) f2 fs2 := ⟨_, _, BN0.out⟩
        have BN := Lib.hid BN1
        clear hK K hHeld4 z5 y5 XD BN0 BN1 HD BC HC NY
        generalize wd.setCell ⟨G, 5, none⟩ (.slice (some ⟨gv, 0, none⟩) (z.ks.length + 1) cv) = wf at *
        go_wp2_with fail
        go_roundg m
        case measure => exact Nat.lt_succ_self _
        case rel => exact ⟨z.add y, s4, f2, fs2, by rw [add_ks]; simp; omega, by rw [add_ks]; simp; omega, HPN.out, BN.out, HN.out, HG2.out⟩
   ·have hk : k ≠ 4 := beq_eq_false_iff_ne.1 q4
    have hq : (x, up s2) = q := by rw [← HQ2.out, if_neg (by rw [decide_eq_true_eq]; exact hk)]
    subst hq
    clear HQ2 HNC hk BXM
    go_wp2_with fail
    go_loopg [6] 1 (fun gk ks wr => w5 = wr)
    case atStart => exact rfl
    case round =>
     have hw := hrel
     subst hw
     go_wp2_with fail
     go_meet
     exact ⟨x, s2, f, rfl, H4.out, N4.out, X4.out, GP.out⟩
  case rest =>
   obtain ⟨z, s3, f3, hq, h5, n5, x5, g5⟩ := hcut
   subst hq
   have H5 := Lib.hid h5
   have N5 := Lib.hid n5
   have X5 := Lib.hid x5
   have HGO := Lib.hid g5
   clear HQ2 HNC h5 n5 x5 g5 H4 N4 X4 BXM
   have c2 := H5.out.p.c2
   have f2 := H5.out.p.free 2
   have d3 : s3.deep = s.deep + 1 := by rw [HGO.out.deep]; exact HA.out
   have d4 : (s3.deep : Int) - 1 = (s.deep : Int) := by omega
   have d5 : s3.deep - 1 = s.deep := by omega
   have d6 : (s3.deep : Int) ≤ 40 := by have := H5.out.p.deep; omega
   have HU : Hid (up s3 = { s3 with deep := s.deep }) := by show _ = _; unfold up; rw [d5]
   clear d5 d3
   go_upto_region 14 with (fail)
   have H6 : Hid (St w (wc.setCell ⟨R, 2, none⟩ (.int .i64 (s.deep : Int))) R g c T (up s3)) := by
    show St _ _ _ _ _ _ _
    rw [HU.out]
    exact H5.out.upd (s' := { s3 with deep := s.deep }) 2 _ rfl H5.out.p.lt (by show s.deep ≤ 40; omega)
   have N6 := Lib.hid (N5.out.upd H5.out 2 (.int .i64 (s.deep : Int)))
   have X6 := Lib.hid (X5.out.updR H5.out S4.out 2 (.int .i64 (s.deep : Int)))
   clear c2 f2 H5 N5 X5
   generalize wc.setCell ⟨R, 2, none⟩ (.int .i64 (s.deep : Int)) = w6 at *
   obtain ⟨t0, t1, t2, t3, t4, t5⟩ := nodeC (X6.out)
   obtain ⟨z0, z1, z2, z3, z4, z5⟩ := zeroC (H6.out.z)
   obtain ⟨y0, y1, y2, y3, y4, y5⟩ := freeC (H6.out.z)
   go_wp2_with fail
   obtain ⟨wf, HZF, HBF, hwf⟩ := endsN (H6.out.z) z f3
   rw [hwf]
   clear hwf
   obtain ⟨g0, g1, g2, g3, g4, g5⟩ := cells6 HZF.out
   exact bodyPost_ret (v := ndV z f3) (by simp [results, Try.results84, go_sem, ndV, Nd.kd, Nd.tx, Nd.nm, Nd.at_, Nd.ns, Nd.ks, leafN, fr0, nd0, g0, g1, g2, g3, g4, g5]) rfl (H6.out.done N6.out HBF.out)

 ·have hq : (nd0, enterF T s) = q := by rw [← HQ.out]; unfold patF; rw [if_neg hb]
  subst hq
  have hb2 : enterB T s = false := by cases h : enterB T s <;> simp_all
  rw [hb2]
  clear HQ HEI HEL hb hb2
  obtain ⟨z0, z1, z2, z3, z4, z5⟩ := zeroC (H2.out.z)
  obtain ⟨y0, y1, y2, y3, y4, y5⟩ := freeC (H2.out.z)
  go_wp2_with fail
  obtain ⟨wf, HZF, HBF, hwf⟩ := ends6 (H2.out.z) (.int .i64 0) (.string ⟨#[]⟩) (.int .i64 0) (.int .i64 0) (.slice none 0 0) (.slice none 0 0)
  rw [hwf]
  clear hwf
  obtain ⟨g0, g1, g2, g3, g4, g5⟩ := cells6 HZF.out
  exact bodyPost_ret (v := ndV nd0 fr0) (by simp [results, Try.results84, go_sem, ndV, Nd.kd, Nd.tx, Nd.nm, Nd.at_, Nd.ns, Nd.ks, leafN, fr0, nd0, g0, g1, g2, g3, g4, g5]) rfl (H2.out.done (x := nd0) (f := fr0) (.leaf _ _ rfl rfl) HBF.out)
end Go.Proofs.Ytgjchgmlogbmmaa
