/- The walks of layer 13: the document's example. -/
import Derived.Test.YtffpkmoaahkfmaaWalkK
import Derived.Laws.BytesArg
namespace Go.Proofs.Ytffpkmoaahkfmaa
open Go.RowKit
set_option linter.unusedVariables false

theorem conv_own {w : World} {base n : Nat} {v : Value} {xs : List Value} {l : List UInt8} (h : w.ownsRow base 5 1 v n xs) (hx : xs = l.map u8v) : (convert 28 9 v).run Try.prog w = .ok (.string ⟨l.toArray⟩) w := by
  subst hx
  have hl := h.1
  rw [List.length_map, Nat.mul_one] at hl
  rcases h.2 with ⟨rfl, rfl⟩ | ⟨g, cap, cur, rfl, hg, hh, hn, hc, hs, ht⟩
  · have : l = [] := List.eq_nil_of_length_eq_zero hl
    subst this
    exact run_convert_bytes_nil w 28 5 Try.underlying28 Try.underlying5 0 0 9 Try.underlying9
  · have hr := run_convert_bytes_arg w 28 5 Try.underlying28 Try.underlying5 g 0 n cap (l.map fun c => (c.toNat : Int)) (by simpa using hl) (fun i hi => by
      have h1 : w.cell? ⟨g, 0 + i, none⟩ = cur[i]? := by rw [Nat.zero_add]; exact cell_of_row w g i cur 5 (0, 0) hh
      rw [h1]
      have h2 : cur[i]? = (cur.toList.take (n * 1))[i]? := by rw [List.getElem?_take, if_pos (by omega), Array.getElem?_toList]
      rw [h2, ht, List.getElem?_map]
      simp [List.getD, List.getElem?_map, List.getElem?_eq_getElem (show i < l.length by omega), u8v]) 9 Try.underlying9
    rw [hr]
    congr 2
    unfold strOfNums
    congr 2
    rw [List.map_map]
    conv => rhs; rw [← List.map_id l]
    apply List.map_congr_left
    intro b _
    simp
def liveC : Cod := ⟨[⟨0, 1, 1, [⟨1, 0, 0⟩, ⟨15, 0, 0⟩]⟩], [5], [], 0⟩
def liveL : List UInt8 := [83, 77, 49, 0, 1, 5, 0, 0, 0, 0, 0, 0, 0, 0, 1, 0, 1, 1, 2, 0, 1, 0, 0, 0, 0, 15, 0, 0, 0, 0]
theorem live_ok : codOK liveC = true := by decide +kernel
theorem live_enc : encC liveC = liveL := by decide +kernel
def liveV (b : Nat) : Value := .agg #[.slice (some ⟨b + 1 + 1, 0, none⟩) 1 1, .slice (some ⟨b, 0, none⟩) 1 1, .slice none 0 0, .int .i64 0]
def liveW (w : World) : World := ((((w.alloc (.cells #[.int .i64 5] 3)).alloc (.cells #[.int .i64 1, .int .i64 0, .int .i64 0, .int .i64 15, .int .i64 0, .int .i64 0] 42)).alloc (.cells #[.int .i64 0, .int .i64 1, .int .i64 1, .slice (some ⟨w.heap.size + 1, 0, none⟩) 2 2] 40)).alloc
  (.cells #[.slice (some ⟨w.heap.size + 1 + 1, 0, none⟩) 1 1, .slice (some ⟨w.heap.size, 0, none⟩) 1 1, .slice none 0 0, .int .i64 0] 26))
theorem live_size (w : World) : (liveW w).heap.size = w.heap.size + 4 := by simp [liveW]
theorem live_below (w : World) : Below w.heap.size w (liveW w) := by
  unfold liveW
  exact ((((Below.refl _ _).alloc (Nat.le_refl _) _).alloc (by simp) _).alloc (by simp; omega) _).alloc (by simp; omega) _
theorem Whole.made' {w : World} {g : Nat} (h : w.heap.size = g) (t : TypeId) (cs : Array Value) : Whole (w.alloc (.cells cs t)) g t cs := by subst h; exact Whole.made _ _ _
theorem live_at (w : World) : CodAt (liveW w) (liveW w).heap.size (liveV w.heap.size) liveC := by
  have h0 : Whole (liveW w) w.heap.size 3 #[.int .i64 5] := (((Whole.made w 3 _).alloc _).alloc _).alloc _
  have h1 : Whole (liveW w) (w.heap.size + 1) 42 #[.int .i64 1, .int .i64 0, .int .i64 0, .int .i64 15, .int .i64 0, .int .i64 0] := ((Whole.made' (by simp) 42 _).alloc _).alloc _
  have h2 : Whole (liveW w) (w.heap.size + 1 + 1) 40 #[.int .i64 0, .int .i64 1, .int .i64 1, .slice (some ⟨w.heap.size + 1, 0, none⟩) 2 2] := (Whole.made' (by simp) 40 _).alloc _
  have hs := live_size w
  refine ⟨_, 1, 1, _, 1, 1, _, 0, 0, rfl, ⟨rfl, fun _ => ⟨_, 0, rfl, by omega, fun j hj => ?_⟩⟩, ⟨rfl, fun _ => ⟨_, 0, rfl, by omega, fun j hj => ?_⟩⟩, ⟨rfl, fun h => absurd h (by omega)⟩, by omega, by omega, by omega⟩
  · obtain rfl : j = 0 := by omega
    refine ⟨h2.cell 0, h2.cell 1, h2.cell 2, _, 2, 2, h2.cell 3, ⟨rfl, fun _ => ⟨_, 0, rfl, by omega, fun j hj => ?_⟩⟩, by omega⟩
    rcases (by omega : j = 0 ∨ j = 1) with rfl | rfl
    · exact ⟨h1.cell 0, h1.cell 1, h1.cell 2⟩
    · exact ⟨h1.cell 3, h1.cell 4, h1.cell 5⟩
  · obtain rfl : j = 0 := by omega
    exact h0.cell 0
theorem live_box (w : World) : Whole (liveW w) (w.heap.size + 3) 26 #[.slice (some ⟨w.heap.size + 1 + 1, 0, none⟩) 1 1, .slice (some ⟨w.heap.size, 0, none⟩) 1 1, .slice none 0 0, .int .i64 0] := Whole.made' (by simp) 26 _
set_option maxRecDepth 100000 in
set_option maxHeartbeats 4000000 in
theorem lives_any (w : World) : Calls Try.prog 15 #[] w fun e w' => e = .returned (.bool true) ∧ Below w.heap.size w w' := by
  have HB := Lib.hid (live_below w)
  have HA := Lib.hid (live_at w)
  have HX := Lib.hid (live_box w)
  have HS := Lib.hid (live_size w)
  go_enter Try.func15, Try.ntmps15
  go_wp2_with fail
  change Calls Try.prog 10 #[liveV w.heap.size] (liveW w) _
  generalize liveW w = w1 at *
  refine (encode_good w1 _ liveC HA.out live_ok).mono ?_
  rintro e w2 ⟨v2, rfl, hown, hb, hsz⟩
  rw [live_enc] at hown
  have hcv := conv_own (l := liveL) hown rfl
  have HA2 := Lib.hid ((HA.out.below hb).more hb.size)
  have HX2 := HX.out.below hb (by rw [HS.out]; omega)
  have HB2 := Lib.hid (HB.out.trans (hb.mono HB.out.size))
  have x0 : w2.cell? ⟨w.heap.size + 1 + 1 + 1, 0, none⟩ = some (.slice (some ⟨w.heap.size + 1 + 1, 0, none⟩) 1 1) := HX2.cell 0
  have x1 : w2.cell? ⟨w.heap.size + 1 + 1 + 1, 1, none⟩ = some (.slice (some ⟨w.heap.size, 0, none⟩) 1 1) := HX2.cell 1
  have x2 : w2.cell? ⟨w.heap.size + 1 + 1 + 1, 2, none⟩ = some (.slice none 0 0) := HX2.cell 2
  have x3 : w2.cell? ⟨w.heap.size + 1 + 1 + 1, 3, none⟩ = some (.int .i64 0) := HX2.cell 3
  clear hown hb hsz HX2
  go_wp2_with (go_at_call 13; refine (may_any w2 (liveV w.heap.size) liveC HA2.out).mono ?_; rintro e w3 ⟨rfl, hb3⟩; rw [live_ok])
  go_ret
  exact ⟨ret_b rfl, HB2.out.trans (hb3.mono HB2.out.size)⟩
end Go.Proofs.Ytffpkmoaahkfmaa
