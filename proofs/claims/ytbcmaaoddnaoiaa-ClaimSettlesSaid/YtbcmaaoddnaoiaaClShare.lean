/-
  claim.line, within, Share: their walks.
-/
import Derived.Test.YtbcmaaoddnaoiaaPolSl
import Derived.Test.YtbcmaaoddnaoiaaApp
import Derived.Test.YtbcmaaoddnaoiaaSplit
import Derived.Test.YtbcmaaoddnaoiaaSplitLaw
import Derived.Test.YtbcmaaoddnaoiaaIntr
namespace Go.Proofs.Ytbcmaaoddnaoiaa
set_option linter.unusedVariables false
set_option linter.unusedSimpArgs false
open Go.RowKit

/-- What an insurer pays at most. -/
def Pol.line (p : Pol) : Int := p.sum * p.share / 1000
theorem Pol.may_facts {p : Pol} (h : p.may = true) : (1 ≤ p.sum ∧ p.sum ≤ 1099511627776) ∧ (0 ≤ p.own ∧ p.own ≤ p.sum) ∧ (1 ≤ p.share ∧ p.share ≤ 1000) :=
  ⟨(mayP_facts h).2.1, (mayP_facts h).2.2.1, (mayP_facts h).2.2.2.1⟩
theorem Pol.line_bd {p : Pol} (h : p.may = true) : 0 ≤ p.line ∧ p.line ≤ p.sum ∧ p.sum ≤ 1099511627776 := by
  obtain ⟨⟨s0, s1⟩, _, ⟨h0, h1⟩⟩ := Pol.may_facts h
  unfold Pol.line
  have r0 : 0 ≤ p.sum * p.share := Int.mul_nonneg (by omega) (by omega)
  have r1 : p.sum * p.share ≤ p.sum * 1000 := Int.mul_le_mul_of_nonneg_left h1 (by omega)
  omega
def linesP (L : List Pol) : List Int := L.map Pol.line
@[simp] theorem linesP_length (L : List Pol) : (linesP L).length = L.length := by simp [linesP]
theorem linesP_take_succ (L : List Pol) (k : Nat) (h : k < L.length) : linesP (L.take (k + 1)) = linesP (L.take k) ++ [L[k].line] := by
  rw [List.take_succ_eq_append_getElem h]
  unfold linesP
  rw [List.map_append]
  rfl
theorem oddP_false {L : List Pol} (h : oddP L = false) : ∀ p ∈ L, p.may = true := by
  intro p hp
  unfold oddP at h
  rw [List.any_eq_false] at h
  simpa using h p hp
theorem linesP_bd {L : List Pol} (h : oddP L = false) : ∀ x ∈ linesP L, 0 ≤ x ∧ x ≤ 1099511627776 := by
  intro x hx
  obtain ⟨p, hp, rfl⟩ := List.mem_map.1 hx
  have := Pol.line_bd (oddP_false h p hp)
  omega

set_option maxHeartbeats 400000 in
theorem c_clwithin (v : Int) (w : World) : Calls Try.prog 64 #[.int .i64 v] w fun e w' => e = .returned (.bool (amtB v)) ∧ w = w' := by
  unfold amtB
  go_enter Try.func64, Try.ntmps64
  go_wp2
  all_goals (go_ret; exact ⟨ret_b (Bool.eq_iff_iff.2 (by simp; try omega)), rfl⟩)

set_option maxHeartbeats 400000 in
theorem c_line (p : Pol) (w : World) (h : p.may = true) : Calls Try.prog 65 #[p.v] w fun e w' => e = .returned (.int .i64 p.line) ∧ Below w.heap.size w w' := by
  obtain ⟨⟨s0, s1⟩, _, ⟨h0, h1⟩⟩ := Pol.may_facts h
  clear h
  unfold Pol.line Pol.v polV
  have r0 : 0 ≤ p.sum * p.share := Int.mul_nonneg (by omega) (by omega)
  have r1 : p.sum * p.share ≤ 1099511627776 * 1000 := Int.mul_le_mul s1 h1 (by omega) (by omega)
  have e2 : IntKind.i64.wrap (p.sum * p.share) = p.sum * p.share := IntWalk.i64_in _ (by omega)
  generalize p.share = sh at *
  generalize p.sum = sm at *
  go_enter Try.func65, Try.ntmps65
  go_wp2
  go_ret
  exact ⟨rfl, (Below.refl _ _).alloc (Nat.le_refl _) _⟩

/-- What each pays of a loss. -/
def sharesP (loss : Int) (L : List Pol) : List Int := if sumL (linesP L) < loss then linesP L else partsOf loss (linesP L)
/-- Is nothing told of a loss? -/
def shareBad (loss : Int) (L : List Pol) : Bool := decide (L.length = 0) || oddP L || !amtB loss

set_option maxRecDepth 100000 in
set_option maxHeartbeats 1600000 in
theorem c_share_bad (loss : Int) (a : Option Addr) (n c : Nat) (L : List Pol) (w : World) (hn : L.length = n) (hm : n ≤ 9223372036854775807) (hr : Pols w a L) (hbad : shareBad loss L = true) :
    Calls Try.prog 29 #[.int .i64 loss, .slice a n c] w fun e w' => e = .returned (.tuple #[.slice none 0 0, .int .i64 1]) ∧ Below w.heap.size w w' := by
  have HC := Lib.hid (c_pcontains a n c L w hn hm hr)
  have HW := Lib.hid (fun w => c_clwithin loss w)
  unfold shareBad at hbad
  rw [hn] at hbad
  clear hn hr
  by_cases h0 : n = 0
  · subst h0
    clear hbad
    go_enter Try.func29, Try.ntmps29
    go_wp2
    go_ret2
    exact ⟨rfl, Below.refl _ _⟩
  · have t0 : ((n : Int) == 0) = false := by simpa using h0
    cases ho : oddP L
    · rw [ho] at hbad HC
      have ha : amtB loss = false := by simpa [h0] using hbad
      rw [ha] at HW
      clear hbad ho ha
      go_enter Try.func29, Try.ntmps29
      go_wp2_with (first | (go_at_call 63; (with_reducible refine HC.out.mono ?_); rintro e w1 ⟨rfl, hb1⟩) | (go_at_call 64; (with_reducible refine (HW.out _).mono ?_); rintro e w' ⟨rfl, rfl⟩))
      go_ret2
      exact ⟨rfl, hb1⟩
    · rw [ho] at HC
      clear hbad ho
      go_enter Try.func29, Try.ntmps29
      go_wp2_with (first | (go_at_call 63; (with_reducible refine HC.out.mono ?_); rintro e w1 ⟨rfl, hb1⟩) | (go_at_call 64; (with_reducible refine (HW.out _).mono ?_); rintro e w' ⟨rfl, rfl⟩))
      go_ret2
      exact ⟨rfl, hb1⟩

theorem errS_fits {zs : List Int} (hz : ∀ x ∈ zs, 0 ≤ x ∧ x ≤ 1099511627776) (h1 : 1 ≤ zs.length) (h2 : zs.length ≤ 4096) (T : Int) (hT : 0 ≤ T) (hp : 0 < T → ∃ x ∈ zs, 0 < x) : errS T zs = if 1099511627776 < T then 3 else 0 := by
  have b1 : (zs.any fun x => decide (x < 0)) = false := by
    simp only [List.any_eq_false, decide_eq_true_eq]
    intro x hx
    have := (hz x hx).1
    omega
  have b2 : (zs.any fun x => decide (1099511627776 < x)) = false := by
    simp only [List.any_eq_false, decide_eq_true_eq]
    intro x hx
    have := (hz x hx).2
    omega
  unfold errS errV
  rw [b1, b2, if_neg (by rintro (h | h | h) <;> first | omega | cases h)]
  by_cases h : 1099511627776 < T
  · rw [if_pos (.inl h), if_pos h]
  · rw [if_neg (by rintro (h3 | h3 | h3) <;> first | omega | cases h3), if_neg h, if_neg]
    rintro ⟨h3, h4⟩
    obtain ⟨x, hx, hx0⟩ := hp h3
    simp only [List.any_eq_false, decide_eq_true_eq] at h4
    exact h4 x hx hx0
theorem sum_posex {zs : List Int} (h : 0 < sumL zs) : ∃ x ∈ zs, 0 < x := by
  induction zs with
  | nil => simp [sumL] at h
  | cons y r ih =>
    by_cases hy : 0 < y
    · exact ⟨y, by simp, hy⟩
    · simp only [sumL] at h
      obtain ⟨x, hx, h2⟩ := ih (by omega)
      exact ⟨x, by simp [hx], h2⟩
theorem share_err {loss : Int} {L : List Pol} (h : shareBad loss L = false) (hm : L.length ≤ 4096) (hle : loss ≤ sumL (linesP L)) : errS loss (linesP L) = 0 := by
  unfold shareBad at h
  simp only [Bool.or_eq_false_iff, decide_eq_false_iff_not, Bool.not_eq_false'] at h
  obtain ⟨⟨h1, h2⟩, h3⟩ := h
  unfold amtB at h3
  simp only [decide_eq_true_eq] at h3
  rw [errS_fits (linesP_bd h2) (by rw [linesP_length]; omega) (by rw [linesP_length]; omega) loss h3.1 (fun h0 => sum_posex (by omega)), if_neg (by omega)]
/-- Share's answer. -/
def ShareOk (w : World) (zs : List Int) (n : Nat) (e : Ending) (w' : World) : Prop := ∃ A c, e = .returned (.tuple #[.slice A n c, .int .i64 0]) ∧ Rd w' A (vals .i64 zs) ∧ Below w.heap.size w w'

set_option maxRecDepth 100000 in
set_option maxHeartbeats 3200000 in
theorem c_share_ok (loss : Int) (a : Option Addr) (n c : Nat) (L : List Pol) (w : World) (hn : L.length = n) (hm : n ≤ 4096) (hr : Pols w a L) (hbad : shareBad loss L = false) :
    Calls Try.prog 29 #[.int .i64 loss, .slice a n c] w (ShareOk w (sharesP loss L) n) := by
  obtain ⟨i0, hi, hz0, hz1, hz2⟩ := info_parts info_i64v
  have HI := Lib.hid hi
  have HZ0 := Lib.hid hz0
  have HZ1 := Lib.hid hz1
  have HZ2 := Lib.hid hz2
  have HC := c_pcontains a n c L w hn (by omega) hr
  have HW := fun w => c_clwithin loss w
  have hse := fun hle => share_err hbad (by omega) hle
  have HSE := Lib.hid hse
  unfold shareBad at hbad
  simp only [Bool.or_eq_false_iff, decide_eq_false_iff_not, Bool.not_eq_false'] at hbad
  obtain ⟨⟨h1, h2⟩, h3⟩ := hbad
  rw [hn] at h1
  rw [h2] at HC
  rw [h3] at HW
  have hbd := linesP_bd h2
  have HC := Lib.hid HC
  have HW := Lib.hid HW
  have HMay := Lib.hid (oddP_false h2)
  have HBd := Lib.hid hbd
  have HR := Lib.hid hr
  have HN := Lib.hid hn
  have h3' : 0 ≤ loss ∧ loss ≤ 1099511627776 := by unfold amtB at h3; simpa using h3
  obtain ⟨l0, l1⟩ := h3'
  have t0 : ((n : Int) == 0) = false := by simpa using h1
  clear hi hz0 hz1 hz2 hn hr hse h2 h3 hbd
  go_enter Try.func29, Try.ntmps29
  go_wp2_with (first | (go_at_call 63; (with_reducible refine HC.out.mono ?_); rintro e w1 ⟨rfl, hb1⟩) | (go_at_call 64; (with_reducible refine (HW.out _).mono ?_); rintro e w' ⟨rfl, rfl⟩))
  have HR1 := Lib.hid (HR.out.below hb1)
  have HB1 := Lib.hid hb1
  clear hb1
  go_loopw [7, 8, 29] (fun y s x wr => ∃ (k : Nat) (A : Option Addr) (d : Nat) (u : Int), y = .slice A k d ∧ s = .int .i64 u ∧ x = .int .i64 k ∧ k ≤ n ∧ 0 ≤ u ∧ u ≤ 1099511627776 * k ∧ Hid (u = sumL (linesP (L.take k))) ∧ Hid (Own wr w1.heap.size 2 A k d (vals .i64 (linesP (L.take k)))) ∧ Hid (Below w1.heap.size w1 wr)) (fun _ _ x _ => n - (intOf x).toNat)
  case atStart => exact ⟨0, none, 0, 0, rfl, rfl, rfl, by omega, by omega, by omega, rfl, by show Own _ _ _ _ _ _ _; simpa [vals, linesP] using Own.nil w1 2 w1.heap.size, Below.refl _ _⟩
  case round =>
    obtain ⟨k, A, d, u, rfl, rfl, rfl, hk, u0, u1, hu, hO, hB⟩ := hrel
    by_cases hlt : k < n
    · have hkL : k < L.length := by rw [HN.out]; exact hlt
      have hr1 := HR1.out.below hB.out
      obtain ⟨b, o, rfl, hb, c0, c1, c2, c3, c4, c5, c6, c7, c8⟩ := hr1.at k hkL
      have hmay := HMay.out _ (List.getElem_mem hkL)
      have hline := fun w => c_line L[k] w hmay
      obtain ⟨p0, p1, p2⟩ := Pol.line_bd hmay
      have p3 : L[k].line ≤ 1099511627776 := by omega
      have hts := linesP_take_succ L k hkL
      have hsum : u + L[k].line = sumL (linesP (L.take (k + 1))) := by
        rw [hts, hu.out]
        have : ∀ (xs : List Int) (y : Int), sumL (xs ++ [y]) = sumL xs + y := by
          intro xs y
          induction xs with
          | nil => simp [sumL]
          | cons x r ih => simp only [List.cons_append, sumL, ih]; omega
        rw [this]
      have HTs := Lib.hid hts
      have HSum := Lib.hid hsum
      have hz := hB.out.size
      clear hts hsum hmay hr1
      generalize L[k] = p at *
      have e9 : IntKind.i64.wrap (u + p.line) = u + p.line := IntWalk.i64_in _ (by omega)
      generalize p.line = ln at *
      unfold Pol.v polV at hline
      have HL := Lib.hid hline
      have hne : some wr.heap.size ≠ (Value.slice A k d).ownBlock := by
        rcases hO.out.form with ⟨rfl, _⟩ | ⟨g, rfl, _, hgl, _⟩
        · simp [Value.ownBlock]
        · simp [Value.ownBlock]; omega
      have HNe := Lib.hid hne
      clear hline p1 p2 hne
      go_wp2_with fail
      refine (HL.out _).mono ?_
      rintro e w2 ⟨rfl, hb2⟩
      have HS2 := Lib.hid ((Blk.new wr 57 #[.string p.i, .string p.f, .string p.t, .int .i64 p.sum, .int .i64 p.own, .slice p.ca p.cn p.cc, .int .i64 p.first, .int .i64 p.last, .int .i64 p.share]).below hb2 (by simp))
      have HO2 := Lib.hid ((hO.out.alloc _).keep hb2)
      have HB2 := Lib.hid ((hB.out.alloc hz _).trans (hb2.mono (by simp; omega)))
      have hz2 := HB2.out.size
      clear hb2
      go_wp2_with (at_builtin; refine wpList_app _ rfl (.tmp 33) (.tmp 36) _ rfl w1.heap.size 2 i0 _ 8 Try.underlying23 HI.out HZ0.out HZ1.out HZ2.out rfl A k d _ rfl (HO2.out.alloc _) (some ⟨w2.heap.size, 0, none⟩) 1 1 (vals .i64 [ln]) rfl rfl (Rd.blk' (t := 2) (Blk.at _ _ _ (by simp))) (one_vals _ _) (by unfold maxLen; omega) (by omega) (by simp; omega) ?_; intro A' c' w3 hown hg3 hb3; have HS3 := Lib.hid ((HS2.out.alloc _).grown hg3 HNe.out); have HO3 := Lib.hid hown; have HB3 := Lib.hid ((HB2.out.alloc hz2 _).trans hb3); have g0 := HS3.out.cell 0 rfl; have g1 := HS3.out.cell 1 rfl; have g2 := HS3.out.cell 2 rfl; have g3 := HS3.out.cell 3 rfl; have g4 := HS3.out.cell 4 rfl; have g5 := HS3.out.cell 5 rfl; have g6 := HS3.out.cell 6 rfl; have g7 := HS3.out.cell 7 rfl; have g8 := HS3.out.cell 8 rfl; clear hown hg3 hb3)
      refine (HL.out _).mono ?_
      rintro e w4 ⟨rfl, hb4⟩
      clear g0 g1 g2 g3 g4 g5 g6 g7 g8
      have HO4 := Lib.hid (HO3.out.keep hb4)
      have HB4 := Lib.hid (HB3.out.trans (hb4.mono HB3.out.size))
      clear hb4
      go_wp2_with fail
      go_roundw
      case rel =>
        refine ⟨k + 1, A', c', u + ln, rfl, rfl, by go_num, by omega, by omega, by omega, HSum.out, ?_, HB4.out⟩
        show Own _ _ _ _ _ _ _
        rw [HTs.out, ← vals_append]
        exact HO4.out
      case measure => simp [intOf]; omega
    · obtain rfl : k = n := by omega
      have h1' := hO.out
      have h2' := hu.out
      rw [List.take_of_length_le (by rw [HN.out]; exact Nat.le_refl _)] at h1' h2'
      have HO1 := Lib.hid h1'
      have HBr := Lib.hid (HB1.out.trans (hB.out.mono HB1.out.size))
      have HU := Lib.hid h2'
      clear h1' h2' hO hu hB
      by_cases hgt : u < loss
      · have hres := Lib.hid (show sharesP loss L = linesP L by unfold sharesP; rw [if_pos (by rw [← HU.out]; exact hgt)])
        go_wp2
        go_ret2
        exact ⟨A, d, rfl, by rw [hres.out]; exact HO1.out.rd, HBr.out⟩
      · have hres := Lib.hid (show sharesP loss L = partsOf loss (linesP L) by unfold sharesP; rw [if_neg (by rw [← HU.out]; exact hgt)])
        have HSp := Lib.hid (c_split loss A k d (linesP L) wr (by rw [linesP_length, HN.out]) HO1.out.rd (HSE.out (by rw [← HU.out]; omega)))
        go_wp2_with fail
        refine HSp.out.mono ?_
        rintro e w5 ⟨b5, t5, rfl, hl5, hb5, hP5⟩
        have HP5 := Lib.hid (Rd.blk' hP5)
        have HB5 := Lib.hid (HBr.out.trans (hb5.mono HBr.out.size))
        clear hl5 hb5 hP5
        go_wp2_with fail
        go_ret2
        exact ⟨_, _, rfl, by rw [hres.out]; exact HP5.out, HB5.out⟩

end Go.Proofs.Ytbcmaaoddnaoiaa
