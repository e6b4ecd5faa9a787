/-
  money.May, currency; order.lines: their walks.
-/
import Derived.Test.YtdkabldhkgidjaaDoorFlat
import Derived.Test.YtdkabldhkgidjaaDoorName
import Derived.Test.YtdkabldhkgidjaaDoorSetB
import Derived.Test.YtdkabldhkgidjaaDoorShelf
import Derived.Laws.RangeAny
namespace Go.Proofs.YtdkabldhkgidjaaDoor
set_option linter.unusedVariables false
set_option linter.unusedSimpArgs false
open Go.RowKit Go.Shelf Go.Lib

/-- Is a text a currency? -/
def currB (s : ByteArray) : Bool := decide (s.size = 3) && s.data.toList.all fun b => decide (65 ≤ b.toNat ∧ b.toNat ≤ 90)
theorem idx_curr (s : ByteArray) : ∀ f pos, pos + f = s.size → (decide (0 ≤ Lib.idxFuncFrom (fun r => decide (r < 65) || decide (90 < r)) true s f pos) = !((s.data.toList.drop pos).all fun b => decide (65 ≤ b.toNat ∧ b.toNat ≤ 90)))
  | 0, pos, h => by
    have e : s.data.toList.drop pos = [] := List.drop_of_length_le (by simp; omega)
    rw [e]
    rfl
  | f + 1, pos, h => by
    have hlt : pos < s.size := by omega
    have hlt2 : pos < s.data.toList.length := by simpa using hlt
    rw [List.drop_eq_getElem_cons hlt2, List.all_cons]
    have eb : s.data.toList[pos] = s[pos]'hlt := rfl
    rw [eb]
    unfold Lib.idxFuncFrom
    rw [if_pos hlt]
    by_cases ha : (s[pos]'hlt).toNat < 128
    · rw [decode_ascii s pos hlt ha]
      by_cases hg : 65 ≤ (s[pos]'hlt).toNat ∧ (s[pos]'hlt).toNat ≤ 90
      · rw [if_neg (by simp; omega), decide_eq_true hg, Bool.true_and]
        exact idx_curr s f (pos + 1) (by omega)
      · rw [if_pos (by simp; omega), decide_eq_false hg]
        simp
    · have hd := (decode_high s pos hlt (by omega)).1
      have hg : ¬ (65 ≤ (s[pos]'hlt).toNat ∧ (s[pos]'hlt).toNat ≤ 90) := by omega
      rw [if_pos (by simp; omega), decide_eq_false hg]
      simp
theorem curr_pred (w : World) : PredAt Tryd.prog 98 #[] encR (fun r => decide (r < 65) || decide (90 < r)) w := fun W r _ => by
  unfold FnGives
  by_cases h1 : r < 65 <;> by_cases h2 : 90 < r
  all_goals
    have z1 : (r : Int) < 65 ↔ r < 65 := by omega
    have z2 : (90 : Int) < (r : Int) ↔ 90 < r := by omega
    go_enter Tryd.func98, Tryd.ntmps98
    go_wp2
    all_goals first | (exfalso; omega) | (go_ret; exact ⟨by simp [h1, h2], 0, rfl⟩)
set_option maxHeartbeats 800000 in
theorem c_currency (s : ByteArray) (w : World) (hs : s.size ≤ 9223372036854775807) : Calls Tryd.prog 89 #[.string s] w fun e w' => e = .returned (.bool (currB s)) ∧ Below w.heap.size w w' := by
  by_cases h3 : s.size = 3
  · have hC := fun (w : World) => Tryd.strings_ContainsFunc 98 #[] (enters_of Tryd.func98 (by kernel_rfl) rfl) _ s w (curr_pred w)
    have e : decide (0 ≤ Lib.idxFunc (fun r => decide (r < 65) || decide (90 < r)) true s) = !currB s := by
      unfold Lib.idxFunc currB
      rw [idx_curr s s.size 0 (by omega), decide_eq_true h3]
      simp
    rw [e] at hC
    have HC := Lib.hid hC
    clear hC e
    generalize currB s = M at *
    have h3' : (s.size : Int) = 3 := by omega
    have t1 : ((s.size : Int) == 3) = true := by simpa using h3'
    have H3 := Lib.hid h3
    clear h3 h3'
    go_enter Tryd.func89, Tryd.ntmps89
    go_wp2_with fail
    refine (HC.out _).mono ?_
    rintro e w1 ⟨rfl, hb⟩
    go_wp2_with fail
    go_ret
    exact ⟨ret_b (by cases M <;> rfl), hb⟩
  · have hn : currB s = false := by unfold currB; rw [decide_eq_false h3]; rfl
    have HN := Lib.hid hn
    have t1 : ((s.size : Int) == 3) = false := by simp; omega
    clear hn h3
    go_enter Tryd.func89, Tryd.ntmps89
    go_wp2
    go_ret
    exact ⟨ret_b HN.out.symm, Below.refl _ _⟩
set_option maxHeartbeats 400000 in
theorem c_mwithin0 (w : World) : Calls Tryd.prog 90 #[.int .i64 0] w fun e w' => e = .returned (.bool true) ∧ w = w' := by
  go_enter Tryd.func90, Tryd.ntmps90
  go_wp2
  go_ret
  exact ⟨rfl, rfl⟩
set_option maxHeartbeats 400000 in
theorem c_moneymay (s : ByteArray) (w : World) (hs : s.size ≤ 9223372036854775807) : Calls Tryd.prog 76 #[.agg #[.string s, .int .i64 0]] w fun e w' => e = .returned (.bool (currB s)) ∧ Below w.heap.size w w' := by
  have HC := Lib.hid (fun w => c_currency s w hs)
  have BK := Lib.hid (Blk.new w 109 #[.string s, .int .i64 0])
  have HB0 := Lib.hid ((Below.refl w.heap.size w).alloc (Nat.le_refl _) (.cells #[.string s, .int .i64 0] 109))
  clear hs
  generalize currB s = M at *
  cases M
  · go_enter Tryd.func76, Tryd.ntmps76
    go_wp2_with fail
    refine (HC.out _).mono ?_
    rintro e w1 ⟨rfl, hb1⟩
    have HB1 := Lib.hid (HB0.out.trans (hb1.mono HB0.out.size))
    clear hb1
    go_wp2_with fail
    go_ret
    exact ⟨rfl, HB1.out⟩
  · go_enter Tryd.func76, Tryd.ntmps76
    go_wp2_with fail
    refine (HC.out _).mono ?_
    rintro e w1 ⟨rfl, hb1⟩
    have HB1 := Lib.hid (HB0.out.trans (hb1.mono HB0.out.size))
    have j1 := (BK.out.below hb1 BK.out.lt).cell 1 rfl
    clear hb1
    go_wp2_with fail
    refine (c_mwithin0 _).mono ?_
    rintro e w2 ⟨rfl, rfl⟩
    go_wp2_with fail
    go_ret
    exact ⟨rfl, HB1.out⟩

/-- A line of an order. -/
structure Lne where
  g : ByteArray
  c : Int
  p : Int
def cN (x : Lne) : List Value := [.string x.g, .int .i64 x.c, .int .i64 x.p]
theorem cN_length (x : Lne) : (cN x).length = 3 := rfl
theorem line_at {w : World} {a : Option Addr} {L : List Lne} (h : Rd w a (flat cN L)) (k : Nat) (hk : k < L.length) :
    ∃ b o, a = some ⟨b, o, none⟩ ∧ b < w.heap.size ∧ w.cell? ⟨b, o + k * 3, none⟩ = some (.string L[k].g) ∧ w.cell? ⟨b, o + k * 3 + 1, none⟩ = some (.int .i64 L[k].c) ∧ w.cell? ⟨b, o + k * 3 + 2, none⟩ = some (.int .i64 L[k].p) := by
  obtain ⟨b, o, e, hb, hr⟩ := flat_at cN_length h (by omega) k hk
  exact ⟨b, o, e, hb, hr 0 _ rfl, hr 1 _ rfl, hr 2 _ rfl⟩
def cntB (v : Int) : Bool := decide (1 ≤ v ∧ v ≤ 1048576)
def prcB (v : Int) : Bool := decide (0 ≤ v ∧ v ≤ 1073741824)
def linesGo : List (List UInt8) → List Lne → Bool
  | _, [] => true
  | S, x :: r => nameB x.g && !(decide (x.g.data.toList ∈ S)) && cntB x.c && prcB x.p && linesGo (S ++ [x.g.data.toList]) r
/-- May the lines be? -/
def linesB (L : List Lne) : Bool := linesGo [] L && decide (1 ≤ L.length ∧ L.length ≤ 64)
def namesN (L : List Lne) : List (List UInt8) := L.map fun x => x.g.data.toList
theorem namesN_take_succ (L : List Lne) (k : Nat) (h : k < L.length) : namesN (L.take (k + 1)) = namesN (L.take k) ++ [L[k].g.data.toList] := by
  rw [List.take_succ_eq_append_getElem h]
  unfold namesN
  rw [List.map_append]
  rfl
theorem linesGo_step (L : List Lne) (k : Nat) (h : k < L.length) :
    linesGo (namesN (L.take k)) (L.drop k) = (nameB L[k].g && !(decide (L[k].g.data.toList ∈ namesN (L.take k))) && cntB L[k].c && prcB L[k].p && linesGo (namesN (L.take (k + 1))) (L.drop (k + 1))) := by
  rw [List.drop_eq_getElem_cons h, namesN_take_succ L k h]
  rfl
theorem linesGo_mem {S : List (List UInt8)} {L : List Lne} (h : linesGo S L = true) : ∀ x ∈ L, cntB x.c = true ∧ prcB x.p = true := by
  induction L generalizing S with
  | nil => intro x hx; cases hx
  | cons y r ih =>
    simp only [linesGo, Bool.and_eq_true] at h
    intro x hx
    rcases List.mem_cons.1 hx with rfl | hx
    · exact ⟨h.1.1.2, h.1.2⟩
    · exact ih h.2 x hx
theorem nameB_size {s : ByteArray} (h : nameB s = true) : 1 ≤ s.size ∧ s.size ≤ 16 := by
  unfold nameB at h
  simp only [Bool.and_eq_true, decide_eq_true_eq] at h
  exact h.1
theorem zero_bool (w : World) : (zeroValue 4).run Tryd.prog w = .ok (.bool false) w := by kernel_rfl
set_option maxHeartbeats 400000 in
theorem c_ordcount (v : Int) (w : World) : Calls Tryd.prog 91 #[.int .i64 v] w fun e w' => e = .returned (.bool (cntB v)) ∧ w = w' := by
  unfold cntB
  go_enter Tryd.func91, Tryd.ntmps91
  go_wp2
  all_goals (go_ret; exact ⟨ret_b (Bool.eq_iff_iff.2 (by simp; try omega)), rfl⟩)

set_option maxRecDepth 100000 in
set_option maxHeartbeats 3200000 in
theorem c_ordlines (a : Option Addr) (n c : Nat) (L : List Lne) (w : World) (hn : L.length = n) (hm : n ≤ 1048576) (hr : Rd w a (flat cN L)) (hs : ∀ x ∈ L, x.g.size ≤ 9223372036854775807) :
    Calls Tryd.prog 77 #[.slice a n c] w fun e w' => e = .returned (.bool (linesB L)) ∧ Below w.heap.size w w' := by
  have HR := Lib.hid hr
  have HN := Lib.hid hn
  have HSz := Lib.hid hs
  clear hr hn hs
  have hmm := @run_makeMap Tryd.prog
  go_enter Tryd.func77, Tryd.ntmps77
  go_wp2
  clear hmm
  go_loopw [9] (fun x wr => ∃ (k : Nat), x = .int .i64 k ∧ k ≤ n ∧ Hid (Seen Tryd.prog 9 4 wr w.heap.size k (namesN (L.take k))) ∧ Hid (Below w.heap.size w wr) ∧ Hid (linesGo [] L = linesGo (namesN (L.take k)) (L.drop k))) (fun x _ => n - (intOf x).toNat)
  case atStart => exact ⟨0, rfl, by omega, Seen.made w, (Below.refl _ _).alloc (Nat.le_refl _) _, by show _ = _; simp [namesN]⟩
  case round =>
    obtain ⟨k, rfl, hk, hS, hB, hG⟩ := hrel
    by_cases hlt : k < n
    · have hkz : k < L.length := by rw [HN.out]; exact hlt
      obtain ⟨b, o, rfl, hb, hc0, hc1, hc2⟩ := line_at (HR.out.below hB.out) k hkz
      have hst := linesGo_step L k hkz
      rw [← hG.out] at hst
      have hts := namesN_take_succ L k hkz
      have hsz := HSz.out L[k] (List.getElem_mem hkz)
      have hz := hB.out.size
      generalize L[k] = ln at *
      obtain ⟨s, v, p⟩ := ln
      simp only at hc0 hc1 hc2 hst hts hsz
      have HTS := Lib.hid hts
      have HST := Lib.hid hst
      clear hts hst
      have H1 := fun w => c_mname s w hsz
      have H2 := fun w => c_ordcount v w
      have HF := Lib.hid (show nameB s = false ∨ decide (s.data.toList ∈ namesN (L.take k)) = true ∨ cntB v = false ∨ prcB p = false → linesB L = false from by
        intro h
        unfold linesB
        rw [HST.out]
        rcases h with h | h | h | h <;> rw [h] <;> simp)
      cases h1 : nameB s
      · have HF1 := Lib.hid (HF.out (.inl h1))
        rw [h1] at H1
        have H1 := Lib.hid H1
        clear h1 H2
        go_wp2_with (go_at_call 56; refine (H1.out _).mono ?_; rintro e w' ⟨rfl, rfl⟩)
        go_ret
        exact ⟨ret_b HF1.out.symm, hB.out.alloc hz _⟩
      · have hs16 : s.size ≤ 16 := (nameB_size h1).2
        have hlook := (hS.out.alloc (.cells #[.string s, .int .i64 v, .int .i64 p] 44)).look (t := 122) Tryd.underlying9 Tryd.underlying122 Tryd.underlying4 (zero_bool _) (s := s) (by unfold maxLen; omega)
        cases h2 : decide (s.data.toList ∈ namesN (L.take k))
        · rw [h2] at hlook
          cases h3 : cntB v
          · have HF1 := Lib.hid (HF.out (.inr (.inr (.inl h3))))
            rw [h1] at H1
            rw [h3] at H2
            have H1 := Lib.hid H1
            have H2 := Lib.hid H2
            clear h1 h2 h3
            go_wp2_with (first | (go_at_call 56; refine (H1.out _).mono ?_; rintro e w' ⟨rfl, rfl⟩) | (go_at_call 91; refine (H2.out _).mono ?_; rintro e w' ⟨rfl, rfl⟩))
            go_ret
            exact ⟨ret_b HF1.out.symm, hB.out.alloc hz _⟩
          · by_cases h4 : 0 ≤ p
            · by_cases h5 : p ≤ 1073741824
              · have h6 : prcB p = true := decide_eq_true ⟨h4, h5⟩
                rw [h1, h2, h3, h6] at HST
                rw [h1] at H1
                rw [h3] at H2
                have H1 := Lib.hid H1
                have H2 := Lib.hid H2
                clear h1 h2 h3 h6
                go_wp2_with (first | (go_at_call 56; refine (H1.out _).mono ?_; rintro e w' ⟨rfl, rfl⟩) | (go_at_call 91; refine (H2.out _).mono ?_; rintro e w' ⟨rfl, rfl⟩) | (at_mapUpdate; refine wpList_put_seen rfl (.tmp 39) (.tmp 41) (.const (.bool true)) 122 rfl (hS.out.alloc _) Tryd.underlying9 Tryd.underlying122 Tryd.underlying4 (by unfold maxLen; omega) (s := s) (by unfold maxLen; omega) rfl rfl rfl ?_; intro w3 hS3 hg3))
                go_roundw
                case rel =>
                  refine ⟨k + 1, by go_num, by omega, ?_, ?_, ?_⟩
                  · show Seen _ _ _ _ _ _ _
                    rw [HTS.out]
                    exact hS3
                  · exact (hB.out.alloc hz _).trans (grown_below hg3 (by simp; omega) (Nat.le_refl _))
                  · show _ = _
                    rw [HST.out]; simp
                case measure => simp [intOf]; omega
              · have HF1 := Lib.hid (HF.out (.inr (.inr (.inr (decide_eq_false fun h => h5 h.2)))))
                rw [h1] at H1
                rw [h3] at H2
                have H1 := Lib.hid H1
                have H2 := Lib.hid H2
                clear h1 h2 h3
                go_wp2_with (first | (go_at_call 56; refine (H1.out _).mono ?_; rintro e w' ⟨rfl, rfl⟩) | (go_at_call 91; refine (H2.out _).mono ?_; rintro e w' ⟨rfl, rfl⟩))
                go_ret
                exact ⟨ret_b HF1.out.symm, hB.out.alloc hz _⟩
            · have HF1 := Lib.hid (HF.out (.inr (.inr (.inr (decide_eq_false fun h => h4 h.1)))))
              rw [h1] at H1
              rw [h3] at H2
              have H1 := Lib.hid H1
              have H2 := Lib.hid H2
              clear h1 h2 h3
              go_wp2_with (first | (go_at_call 56; refine (H1.out _).mono ?_; rintro e w' ⟨rfl, rfl⟩) | (go_at_call 91; refine (H2.out _).mono ?_; rintro e w' ⟨rfl, rfl⟩))
              go_ret
              exact ⟨ret_b HF1.out.symm, hB.out.alloc hz _⟩
        · have HF1 := Lib.hid (HF.out (.inr (.inl h2)))
          rw [h2] at hlook
          rw [h1] at H1
          have H1 := Lib.hid H1
          clear h1 h2 H2
          go_wp2_with (go_at_call 56; refine (H1.out _).mono ?_; rintro e w' ⟨rfl, rfl⟩)
          go_ret
          exact ⟨ret_b HF1.out.symm, hB.out.alloc hz _⟩
    · obtain rfl : k = n := by omega
      have h1 := hG.out
      rw [List.drop_of_length_le (by rw [HN.out]; exact Nat.le_refl _)] at h1
      have hmay : linesB L = decide (1 ≤ k ∧ k ≤ 64) := by unfold linesB; rw [h1, HN.out]; simp [linesGo]
      have HM := Lib.hid hmay
      clear h1 hG hmay hS
      go_wp2
      all_goals
        go_ret
        exact ⟨ret_b (HM.out.trans (Bool.eq_iff_iff.2 (by simp; try omega))).symm, hB.out⟩

end Go.Proofs.YtdkabldhkgidjaaDoor
