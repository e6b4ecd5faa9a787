/-
  The references' Is, Cost (layer 18), may, Wrong, Sum, Of, Same (layer 20): their walks.
-/
import Derived.Test.YtdkabldhkgidjaaDoorCost3
import Derived.Test.YtdkabldhkgidjaaDoorRName
import Derived.Deep.RegionHeld3
namespace Go.Proofs.YtdkabldhkgidjaaDoor
set_option linter.unusedVariables false
set_option linter.unusedSimpArgs false
open Go.RowKit

set_option maxHeartbeats 400000 in
theorem c_rtermis (t : Int) (w : World) : Calls Tryd.prog 30 #[.int .i64 t] w fun e w' => e = .returned (.bool (termB t)) ∧ w = w' := by
  unfold termB
  go_enter Tryd.func30, Tryd.ntmps30
  go_wp2
  all_goals (go_ret; exact ⟨ret_b (Bool.eq_iff_iff.2 (by simp; try omega)), rfl⟩)
set_option maxHeartbeats 800000 in
theorem c_rtermcost (t : Int) (w : World) (h : termB t = true) : Calls Tryd.prog 24 #[.int .i64 t] w fun e w' => e = .returned (.int .i64 (tcost t)) ∧ Below w.heap.size w w' := by
  unfold termB at h
  simp only [decide_eq_true_eq] at h
  obtain ⟨k, rfl⟩ : ∃ k : Nat, t = k := ⟨t.toNat, by omega⟩
  have hk : k < 8 := by omega
  have hki : (k : Int) < 8 := by omega
  have hc : (w.alloc (.cells #[.int .i64 1, .int .i64 2, .int .i64 3, .int .i64 5, .int .i64 5, .int .i64 5, .int .i64 6, .int .i64 7] 3)).cell? ⟨w.heap.size, k, none⟩ = some (.int .i64 (tcost k)) := by
    refine (Blk.new w _ _).cell k ?_
    unfold tcost
    rw [Int.toNat_natCast]
    have e : ∀ k : Fin 8, (#[Value.int .i64 1, .int .i64 2, .int .i64 3, .int .i64 5, .int .i64 5, .int .i64 5, .int .i64 6, .int .i64 7] : Array Value)[k.val]? = some (.int .i64 (tcosts.getD k.val 0)) := by
      intro k
      match k with
      | 0 => rfl
      | 1 => rfl
      | 2 => rfl
      | 3 => rfl
      | 4 => rfl
      | 5 => rfl
      | 6 => rfl
      | 7 => rfl
    exact e ⟨k, hk⟩
  clear h
  generalize tcost k = co at *
  go_enter Tryd.func24, Tryd.ntmps24
  go_wp2
  go_ret
  exact ⟨rfl, by go_grown⟩
set_option maxHeartbeats 800000 in
theorem c_rcmay (x : Cst) (w : World) (hx : CstOk x) : Calls Tryd.prog 31 #[x.v] w fun e w' => e = .returned (.bool (costB x)) ∧ Below w.heap.size w w' := by
  obtain ⟨n, st, am⟩ := x
  have HN := fun w => c_rname n w hx
  unfold costB Cst.v
  clear hx
  simp only
  generalize nameB n = M at *
  cases M
  · have HN := Lib.hid HN
    go_enter Tryd.func31, Tryd.ntmps31
    go_wp2_with (go_at_call 43; (with_reducible refine (HN.out _).mono ?_); rintro e w' ⟨rfl, rfl⟩)
    go_ret
    exact ⟨rfl, by go_grown⟩
  · have HN := Lib.hid HN
    go_enter Tryd.func31, Tryd.ntmps31
    go_wp2_with (go_at_call 43; (with_reducible refine (HN.out _).mono ?_); rintro e w' ⟨rfl, rfl⟩)
    all_goals
      go_ret
      exact ⟨ret_b (Bool.eq_iff_iff.2 (by simp; try omega)), by go_grown⟩
set_option maxRecDepth 100000 in
set_option maxHeartbeats 1600000 in
theorem c_rcwrong (t : Int) (a : Option Addr) (n c : Nat) (L : List Cst) (w : World) (hn : L.length = n) (hm : n ≤ 9223372036854775807) (hr : Rd w a (flat cC L)) (hok : ∀ x ∈ L, CstOk x) :
    Calls Tryd.prog 13 #[.int .i64 t, .slice a n c] w fun e w' => e = .returned (.int .i64 (splitE t L)) ∧ Below w.heap.size w w' := by
  have HI := fun w => c_rtermis t w
  have HR := Lib.hid hr
  have HN := Lib.hid hn
  have HOk := Lib.hid hok
  obtain ⟨E, hE⟩ : ∃ E, E = splitE t L := ⟨_, rfl⟩
  rw [← hE]
  unfold splitE at hE
  clear hr hn hok
  cases htm : termB t
  · rw [htm] at hE HI
    rw [if_neg (by decide)] at hE
    subst hE
    have HI := Lib.hid HI
    clear htm
    go_enter Tryd.func13, Tryd.ntmps13
    go_wp2_with fail
    refine (HI.out _).mono ?_
    rintro e w1 ⟨rfl, rfl⟩
    go_wp2_with fail
    go_ret
    exact ⟨rfl, Below.refl _ _⟩
  · rw [htm] at hE HI
    rw [if_pos rfl] at hE
    have HI := Lib.hid HI
    have HE := Lib.hid hE
    have HM := Lib.hid (fun x w h => c_rcmay x w h)
    unfold Cst.v at HM
    clear htm hE
    go_enter Tryd.func13, Tryd.ntmps13
    go_wp2_with fail
    refine (HI.out _).mono ?_
    rintro e w1 ⟨rfl, rfl⟩
    go_wp2_with fail
    go_loopw [5] (fun x wr => ∃ k : Nat, x = .int .i64 k ∧ k ≤ n ∧ Hid (oddC (L.take k) = false) ∧ Hid (Below w.heap.size w wr)) (fun x _ => n - (intOf x).toNat)
    case atStart => exact ⟨0, rfl, by omega, rfl, Below.refl _ _⟩
    case round =>
      obtain ⟨k, rfl, hk, hO, hB⟩ := hrel
      by_cases hlt : k < n
      · have hkL : k < L.length := by rw [HN.out]; exact hlt
        obtain ⟨b, o, rfl, hb, c0, c1, c2⟩ := cost_at (HR.out.below hB.out) k hkL
        have hts := oddC_take_succ L k hkL
        rw [hO.out, Bool.false_or] at hts
        have hmy := HM.out L[k] wr (HOk.out _ (List.getElem_mem hkL))
        have hfull := Lib.hid (fun h => oddC_take_true (L := L) (k := k + 1) h)
        have hz := hB.out.size
        have HTs := Lib.hid hts
        clear hts hO
        generalize L[k] = p at *
        cases hm : costB p
        · rw [hm] at hmy
          have HF := Lib.hid (show E = 1 from by
            have : oddC L = true := hfull.out (by rw [HTs.out, hm]; rfl)
            rw [HE.out]; unfold wrongC; rw [if_pos this])
          have HMy := Lib.hid hmy
          clear hmy hm
          go_wp2_with (go_at_call 31; (with_reducible refine HMy.out.mono ?_); rintro e w1 ⟨rfl, hb1⟩; have HB := Lib.hid (hB.out.trans (hb1.mono hz)); clear hb1)
          go_ret
          exact ⟨ret_i HF.out.symm, HB.out⟩
        · rw [hm] at hmy
          have HT := Lib.hid (show oddC (L.take (k + 1)) = false by rw [HTs.out, hm]; rfl)
          have HMy := Lib.hid hmy
          clear hmy hm
          go_wp2_with (go_at_call 31; (with_reducible refine HMy.out.mono ?_); rintro e w1 ⟨rfl, hb1⟩; have HB := Lib.hid (hB.out.trans (hb1.mono hz)); clear hb1)
          go_roundw
          case rel => exact ⟨k + 1, by go_num, by omega, HT.out, HB.out⟩
          case measure => simp [intOf]; omega
      · obtain rfl : k = n := by omega
        have h1 := hO.out
        rw [List.take_of_length_le (by rw [HN.out]; exact Nat.le_refl _)] at h1
        have h2 := HE.out
        unfold wrongC at h2
        rw [h1, if_neg (by decide), HN.out] at h2
        by_cases hbig : 4096 < k
        · have HF := Lib.hid (show E = 7 by rw [h2, if_pos hbig])
          clear h1 h2 hO
          go_wp2
          go_ret
          exact ⟨ret_i HF.out.symm, hB.out⟩
        · have HF := Lib.hid (show E = 0 by rw [h2, if_neg hbig])
          clear h1 h2 hO
          go_wp2
          go_ret
          exact ⟨ret_i HF.out.symm, hB.out⟩
set_option maxRecDepth 100000 in
set_option maxHeartbeats 1600000 in
theorem c_rcsum (a : Option Addr) (n c : Nat) (L : List Cst) (w : World) (hn : L.length = n) (hm : n ≤ 4096) (hr : Rd w a (flat cC L)) (hb : ∀ x ∈ L, 0 ≤ x.am ∧ x.am ≤ 1099511627776) :
    Calls Tryd.prog 21 #[.slice a n c] w fun e w' => e = .returned (.int .i64 (sumC L)) ∧ w = w' := by
  have HR := Lib.hid hr
  have HN := Lib.hid hn
  have HBd := Lib.hid (fun k => sumC_bd (L := L.take k) (fun x hx => hb x (List.mem_of_mem_take hx)))
  clear hr hn hb
  go_enter Tryd.func21, Tryd.ntmps21
  go_wp2
  go_loop [3, 4] (fun s x => ∃ (k : Nat) (u : Int), s = .int .i64 u ∧ x = .int .i64 k ∧ k ≤ n ∧ 0 ≤ u ∧ u ≤ 4503599627370496 ∧ Hid (u = sumC (L.take k))) (fun _ x => n - (intOf x).toNat)
  case atStart => exact ⟨0, 0, rfl, rfl, by omega, by omega, by omega, rfl⟩
  case round =>
    obtain ⟨k, u, rfl, rfl, hk, u0, u1, hu⟩ := hrel
    by_cases hlt : k < n
    · have hkL : k < L.length := by rw [HN.out]; exact hlt
      obtain ⟨b, o, rfl, hb, c0, c1, c2⟩ := cost_at HR.out k hkL
      have hts := sumC_take_succ L k hkL
      have hbd := HBd.out (k + 1)
      rw [List.length_take] at hbd
      have HS := Lib.hid (show u + L[k].am = sumC (L.take (k + 1)) by rw [hts, hu.out])
      have hle : 0 ≤ u + L[k].am ∧ u + L[k].am ≤ 4503599627370496 := by rw [HS.out]; omega
      obtain ⟨l0, l1⟩ := hle
      clear hts hbd
      generalize L[k] = p at *
      obtain ⟨pn, ps, pa⟩ := p
      simp only at c0 c1 c2 l0 l1 HS
      have e1 : IntKind.i64.wrap (u + pa) = u + pa := IntWalk.i64_in _ (by omega)
      go_wp2
      go_round
      case rel => exact ⟨k + 1, u + pa, rfl, by go_num, by omega, by omega, by omega, HS.out⟩
      case measure => simp [intOf]; omega
    · obtain rfl : k = n := by omega
      have h1 := hu.out
      rw [List.take_of_length_le (by rw [HN.out]; exact Nat.le_refl _)] at h1
      have H1 := Lib.hid h1
      clear h1 hu
      go_wp2
      go_ret
      exact ⟨ret_i H1.out, rfl⟩
set_option maxRecDepth 100000 in
set_option maxHeartbeats 1600000 in
theorem c_rcsame (a b : Option Addr) (n c d : Nat) (L : List Cst) (w : World) (hn : L.length = n) (hm : n ≤ 9223372036854775807) (ha : Rd w a (flat cC L)) (hb : Rd w b (flat cC L)) :
    Calls Tryd.prog 12 #[.slice a n c, .slice b n d] w fun e w' => e = .returned (.bool true) ∧ Below w.heap.size w w' := by
  have HA := Lib.hid ha
  have HBb := Lib.hid hb
  have HN := Lib.hid hn
  clear ha hb hn
  go_enter Tryd.func12, Tryd.ntmps12
  go_wp2
  go_loopw [5] (fun x wr => ∃ k : Nat, x = .int .i64 k ∧ k ≤ n ∧ ∃ q, wr = w.drewN q) (fun x _ => n - (intOf x).toNat)
  case atStart => exact ⟨0, rfl, by omega, 0, rfl⟩
  case round =>
    obtain ⟨k, rfl, hk, q, rfl⟩ := hrel
    by_cases hlt : k < n
    · have hkL : k < L.length := by rw [HN.out]; exact hlt
      obtain ⟨g, o, rfl, hb, c0, c1, c2⟩ := cost_at (HA.out.drewN q) k hkL
      obtain ⟨g2, o2, rfl, hb2, d0, d1, d2⟩ := cost_at (HBb.out.drewN q) k hkL
      have HWr := Lib.hid (fun nq => World.drewN_drewN w q nq)
      generalize L[k] = p at *
      obtain ⟨pn, ps, pa⟩ := p
      simp only at c0 c1 c2 d0 d1 d2
      generalize w.drewN q = wr at *
      go_wp2
      go_quiet (fail)
      go_wp2
      go_roundw
      case rel => exact ⟨k + 1, by go_num, by omega, _, HWr.out _⟩
      case measure => simp [intOf]; omega
    · obtain rfl : k = n := by omega
      go_wp2
      go_ret
      exact ⟨rfl, below_drewN (Below.refl _ _) _⟩

end Go.Proofs.YtdkabldhkgidjaaDoor
