/- The walks of layer 3: a text that is written, read by the program. -/
import Derived.Test.YtmocjhildphklaaWalkH
import Derived.Test.YtmocjhildphklaaPlainD
namespace Go.Proofs.Ytmocjhildphklaa
open Go.RowKit Go.Maps
set_option linter.unusedVariables false

theorem own_val {w : World} {base e n : Nat} {v : Value} {xs : List Value} (h : w.ownsRow base e 1 v n xs) : ∃ A c, v = .slice A n c := by
  rcases h.2 with ⟨rfl, rfl⟩ | ⟨g, cap, cur, rfl, _⟩
  · exact ⟨none, 0, rfl⟩
  · exact ⟨_, cap, rfl⟩
def UnqPost (l : List UInt8) (w : World) (e : Ending) (w' : World) : Prop :=
  e = .returned (.tuple #[.string ⟨(unqF l).1.toArray⟩, .int .i64 ((unqF l).2.1 : Int), .int .i64 (unqF l).2.2]) ∧ Below w.heap.size w w'
theorem unq_post {l : List UInt8} {w w' : World} {S : ByteArray} {n e : Int} {x : List UInt8} {m : Nat} (h : unqF l = (x, m, e)) (hS : S = ⟨x.toArray⟩) (hn : n = (m : Int)) (hb : Below w.heap.size w w') :
    UnqPost l w (.returned (.tuple #[.string S, .int .i64 n, .int .i64 e])) w' := by
  unfold UnqPost; rw [h, hS, hn]; exact ⟨rfl, hb⟩
def UnqRel (s : ByteArray) (w : World) (v i : Value) (wr : World) : Prop :=
  ∃ (k f : Nat) (acc : List UInt8), i = .int .i64 (k : Int) ∧ UnqAt s.data.toList k f acc ∧ wr.ownsRow w.heap.size 5 1 v acc.length (acc.map u8v) ∧ Below w.heap.size w wr
theorem rest_data (s : ByteArray) (k : Nat) : (s.extract k s.size).data.toList = s.data.toList.drop k := by
  rw [ByteArray.data_extract, Array.toList_extract]
  show (s.data.toList.drop k).take (s.size - k) = _
  rw [List.take_of_length_le (by rw [List.length_drop, size_data]; omega)]
theorem eq_u8 {c d : UInt8} (h : c = d) : ((c.toNat : Int) == (d.toNat : Int)) = true := by rw [h]; exact beq_self_eq_true _
theorem nq_u8 {c d : UInt8} (h : ¬ c = d) : ((c.toNat : Int) == (d.toNat : Int)) = false := by rw [beq_eq_false_iff_ne]; intro hh; exact h (UInt8.toNat.inj (by omega))
theorem own_keep {w w' : World} {base e n : Nat} {v : Value} {xs : List Value} (h : w.ownsRow base e 1 v n xs) (hb : Below w.heap.size w w') (_h : base ≤ w.heap.size) : w'.ownsRow base e 1 v n xs := by
  refine ⟨h.1, ?_⟩
  rcases h.2 with hh | ⟨g, cap, cur, hv, hg, hh, r⟩
  · exact .inl hh
  · refine .inr ⟨g, cap, cur, hv, hg, ?_, r⟩
    have hlt : g < w.heap.size := by
      rcases Nat.lt_or_ge g w.heap.size with h1 | h1
      · exact h1
      · rw [Array.getElem?_eq_none h1] at hh; cases hh
    rw [hb.block g hlt]; exact hh

set_option maxHeartbeats 4000000 in
theorem unquote_in (s : ByteArray) (w : World) (hs : s.size ≤ 1000) (h0 : 0 < s.size) (h34 : s[0] = 34) : Calls Try.prog 19 #[.string s] w (UnqPost s.data.toList w) := by
  have he := emp_f h0
  have he2 := emp_n h0
  have ht : ((s[0].toNat : Int) != 34) = false := by rw [h34]; rfl
  have hst : UnqAt s.data.toList 1 ((s.data.toList.drop 1).length + 1) [] := by
    have h := unq_start (r := s.data.toList.drop 1) h34
    rw [← data_cons s h0] at h
    exact h
  have HS := Lib.hid hst
  clear hst h34
  go_enter Try.func19, Try.ntmps19
  go_wp2_with fail
  go_loopw [5, 6] (UnqRel s w) (fun _ i _ => s.size + 1 - (intOf i).toNat)
  case atStart => exact ⟨1, _, [], rfl, HS.out, World.ownsRow_nil _ _ _ _, Below.refl _ _⟩
  case round =>
    obtain ⟨k, f, acc, rfl, ha, hown, hw⟩ := hrel
    clear HS
    have hkl := ha.le
    rw [size_data] at hkl
    have hfew := ha.few
    obtain ⟨A, cp, hv⟩ := own_val hown
    rw [hv] at hown ⊢
    clear hv
    by_cases hlt : k < s.size
    · have hge : ¬ (s.size : Int) ≤ k := by omega
      have hc := data_get s k hlt
      have HA := Lib.hid ha
      clear ha
      by_cases h10 : s[k] = 10
      · have t1 : ((s[k].toNat : Int) == 10) = true := eq_u8 h10
        rw [h10] at hc
        have HF := Lib.hid (HA.out.open_ hc)
        clear hc h10
        go_wp2
        go_ret3
        exact unq_post HF.out rfl rfl hw
      · have t1 : ((s[k].toNat : Int) == 10) = false := nq_u8 h10
        by_cases h34 : s[k] = 34
        · have t2 : ((s[k].toNat : Int) == 34) = true := eq_u8 h34
          rw [h34] at hc
          by_cases hl : 60 < acc.length
          · have HF := Lib.hid (HA.out.long hc hl)
            have hl' : 60 < (acc.length : Int) := by omega
            clear hc h34 h10
            go_wp2
            go_ret3
            exact unq_post HF.out rfl rfl hw
          · have HF := Lib.hid (HA.out.done hc hl)
            have hl' : ¬ 60 < (acc.length : Int) := by omega
            have hcv := conv_own hown rfl
            clear hc h34 h10
            go_wp2
            go_ret3
            exact unq_post HF.out rfl (by omega) hw
        · have t2 : ((s[k].toNat : Int) == 34) = false := nq_u8 h34
          by_cases h92 : s[k] = 92
          · have t3 : ((s[k].toNat : Int) == 92) = true := eq_u8 h92
            rw [h92] at hc
            have hd := rest_data s (k + 1)
            have hsz : (s.extract (k + 1) s.size).size ≤ 1000 := by simp; omega
            have hesc := fun W => escape_any (s.extract (k + 1) s.size) W hsz
            rw [hd] at hesc
            unfold EscPost at hesc
            have HE := Lib.hid hesc
            clear hesc hd hsz
            by_cases hz : (escF (s.data.toList.drop (k + 1))).2.2 = 0
            · obtain ⟨g, hg⟩ := HA.out.esc_ok hc hz
              have HG := Lib.hid hg
              obtain ⟨n1, n2, n3⟩ := escF_len _ hz
              rw [List.length_drop, size_data] at n2
              have HZ := Lib.hid hz
              clear hc h92 h10 h34 hz hg
              generalize escF (s.data.toList.drop (k + 1)) = r at *
              obtain ⟨rx, rn, re⟩ := r
              have hz := HZ.out
              dsimp only at hz n1 n2 n3
              subst hz
              go_wp2_with (first | (go_at_call 27; refine (HE.out _).mono ?_; rintro e w4 ⟨rfl, hb4⟩; replace hown := own_keep hown hb4 hw.size; replace hw := hw.trans (hb4.mono hw.size); clear HE) | (at_builtin; go_must (refine app_u8 rfl _ _ rfl rfl hown hw hw.size rfl rfl (by intro u hu; simp at hu; subst hu; rfl) (by omega) ?_); intro v' w' hown' hw' _))
              exact ⟨⟨k + 1 + rn, g, acc ++ [rx], by congr 1; omega, HG.out, by simpa [u8v] using hown', hw'⟩, by simp [intOf]; omega⟩
            · have HF := Lib.hid (HA.out.esc_no hc hz)
              have tz : ((escF (s.data.toList.drop (k + 1))).2.2 != 0) = true := by rw [bne_iff_ne]; exact hz
              clear hc h92 h10 h34 hz
              generalize escF (s.data.toList.drop (k + 1)) = r at *
              obtain ⟨rx, rn, re⟩ := r
              go_wp2_with (first | (go_at_call 27; refine (HE.out _).mono ?_; rintro e w4 ⟨rfl, hb4⟩; replace hw := hw.trans (hb4.mono hw.size); clear HE))
              go_ret3
              exact unq_post HF.out rfl rfl hw
          · have t3 : ((s[k].toNat : Int) == 92) = false := nq_u8 h92
            rcases hp : plainB s[k] with _ | _
            · have HF := Lib.hid (HA.out.bad hc h10 h34 h92 hp)
              clear hc h10 h34 h92
              go_wp2_with (first | (go_at_call 26; refine (plain_any _ _).mono ?_; rintro e w' ⟨rfl, rfl⟩) | (at_builtin; go_must (refine app_u8 rfl _ _ rfl rfl hown hw hw.size rfl rfl (by intro u hu; simp at hu; subst hu; rfl) (by omega) ?_); intro v' w' hown' hw' _))
              go_ret3
              exact unq_post HF.out rfl rfl hw
            · obtain ⟨g, hg⟩ := HA.out.next hc h10 hp
              have HG := Lib.hid hg
              clear hc h10 h34 h92 hg
              go_wp2_with (first | (go_at_call 26; refine (plain_any _ _).mono ?_; rintro e w' ⟨rfl, rfl⟩) | (at_builtin; go_must (refine app_u8 rfl _ _ rfl rfl hown hw hw.size rfl rfl (by intro u hu; simp at hu; subst hu; rfl) (by omega) ?_); intro v' w' hown' hw' _))
              exact ⟨⟨k + 1, g, acc ++ [s[k]], by congr 1, HG.out, by simpa [u8v] using hown', hw'⟩, by simp [intOf]; omega⟩
    · have hge : (s.size : Int) ≤ k := by omega
      have HF := Lib.hid (unq_end ha (by rw [size_data]; exact hlt))
      clear ha
      go_wp2
      go_ret3
      exact unq_post HF.out rfl rfl hw

set_option maxHeartbeats 400000 in
theorem unquote_out (s : ByteArray) (w : World) (h : ∀ h0 : 0 < s.size, s[0] ≠ 34) : Calls Try.prog 19 #[.string s] w (UnqPost s.data.toList w) := by
  by_cases h0 : 0 < s.size
  · have he := emp_f h0
    have he2 := emp_n h0
    have ht : ((s[0].toNat : Int) != 34) = true := ne_u8 (h h0)
    have HF : Hid (unqF s.data.toList = ([], 0, 14)) := by
      show unqF s.data.toList = _
      rw [data_cons s h0, unqF, if_neg (h h0)]
    clear h
    go_enter Try.func19, Try.ntmps19
    go_wp2_with fail
    go_ret3
    exact unq_post HF.out rfl rfl (Below.refl _ _)
  · have he := emp_t (by omega : s.size = 0)
    have HF : Hid (unqF s.data.toList = ([], 0, 14)) := by
      show unqF s.data.toList = _
      have e : s.data.toList = [] := List.eq_nil_of_length_eq_zero (by rw [size_data]; omega)
      rw [e]; rfl
    clear h h0
    go_enter Try.func19, Try.ntmps19
    go_wp2_with fail
    go_ret3
    exact unq_post HF.out rfl rfl (Below.refl _ _)
theorem unquote_any (s : ByteArray) (w : World) (hs : s.size ≤ 1000) : Calls Try.prog 19 #[.string s] w (UnqPost s.data.toList w) := by
  by_cases h : ∃ h0 : 0 < s.size, s[0] = 34
  · obtain ⟨h0, h1⟩ := h
    exact unquote_in s w hs h0 h1
  · exact unquote_out s w (fun h0 h1 => h ⟨h0, h1⟩)
end Go.Proofs.Ytmocjhildphklaa
