/-
  share.Most and the law ShareMost: their walks.
-/
import Derived.Test.YtagdibogjlmgmaaAwake4
import Derived.Test.YtagdibogjlmgmaaRSplitNum
namespace Go.Proofs.Ytagdibogjlmgmaa
set_option linter.unusedVariables false
set_option linter.unusedSimpArgs false
open Go.RowKit

/-- The place of the greatest, or none. -/
def IsMost (zs : List Int) (e : Ending) : Prop := (zs = [] ∧ e = .returned (.int .i64 (-1))) ∨ ∃ p : Nat, e = .returned (.int .i64 p) ∧ Mst zs zs.length p

set_option maxHeartbeats 800000 in
theorem c_most (a : Option Addr) (n c : Nat) (zs : List Int) (w : World) (hn : zs.length = n) (hm : n ≤ 9223372036854775807) (hr : Rd w a (vals .i64 zs)) :
    Calls Try.prog 28 #[.slice a n c] w fun e w' => IsMost zs e ∧ w = w' := by
  have HR := Lib.hid hr
  have HN := Lib.hid hn
  clear hr hn
  go_enter Try.func28, Try.ntmps28
  go_wp2
  go_loop [3, 8] (fun x y => ∃ (k : Nat) (b : Int), y = .int .i64 k ∧ x = .int .i64 b ∧ k ≤ n ∧ ((k = 0 ∧ b = -1) ∨ ∃ p : Nat, b = p ∧ p < k ∧ Hid (Mst zs k p))) (fun _ y => n - (intOf y).toNat)
  case atStart => exact ⟨0, -1, rfl, rfl, by omega, .inl ⟨rfl, rfl⟩⟩
  case round =>
    obtain ⟨k, b, rfl, rfl, hk, hb⟩ := hrel
    by_cases hlt : k < n
    · have hkz : k < zs.length := by rw [HN.out]; exact hlt
      obtain ⟨g, o, rfl, hg, hall, hc⟩ := HR.out.at k (by simpa using hkz)
      rw [vals_get .i64 zs k hkz] at hc
      rcases hb with ⟨rfl, rfl⟩ | ⟨p, rfl, hp, hM⟩
      · clear hall
        rw [Nat.add_zero] at hc
        generalize zs[0] = x at *
        go_wp2
        go_round
        case rel => exact ⟨1, 0, by go_num, rfl, by omega, .inr ⟨0, rfl, by omega, Mst.one _⟩⟩
        case measure => simp [intOf]; omega
      · have hpz : p < zs.length := by omega
        have hd := hall p (.int .i64 zs[p]) (by simp [vals, hpz])
        clear hall
        have m1 := Lib.hid (fun h => hM.out.more h)
        have m2 := Lib.hid (fun h => hM.out.less h)
        have e1 : zs.getD k 0 = zs[k] := by simp [hkz]
        have e2 : zs.getD p 0 = zs[p] := by simp [hpz]
        rw [e1, e2] at m1 m2
        clear e1 e2
        have hpn : (p : Int) < n := by omega
        generalize zs[k] = x at *
        generalize zs[p] = y at *
        by_cases hx : y < x
        · go_wp2
          go_round
          case rel => exact ⟨k + 1, k, by go_num, rfl, by omega, .inr ⟨k, rfl, by omega, m1.out hx⟩⟩
          case measure => simp [intOf]; omega
        · go_wp2
          go_round
          case rel => exact ⟨k + 1, p, by go_num, rfl, by omega, .inr ⟨p, rfl, by omega, m2.out hx⟩⟩
          case measure => simp [intOf]; omega
    · obtain rfl : k = n := by omega
      have hfin : Hid (IsMost zs (.returned (.int .i64 b))) := by
        rcases hb with ⟨h1, h2⟩ | ⟨p, h1, hp, hM⟩
        · exact .inl ⟨List.eq_nil_of_length_eq_zero (HN.out.trans h1), by rw [h2]⟩
        · exact .inr ⟨p, by rw [h1], by rw [HN.out]; exact hM.out⟩
      clear hb
      go_wp2
      go_ret
      exact ⟨hfin.out, rfl⟩

set_option maxHeartbeats 800000 in
theorem l_most_many (a : Option Addr) (n c : Nat) (w : World) (hm : n ≤ 9223372036854775807) (h : 200 < n) :
    Calls Try.prog 10 #[.slice a n c] w fun e w' => e = .returned (.bool true) ∧ Below w.heap.size w w' := by
  go_enter Try.func10, Try.ntmps10
  go_wp2_with fail
  refine (c_awake04 _).mono ?_
  rintro e w1 ⟨rfl, hb1⟩
  go_wp2_with fail
  refine (c_awake04 _).mono ?_
  rintro e w2 ⟨rfl, hb2⟩
  go_wp2_with fail
  go_ret
  exact ⟨rfl, hb1.trans (hb2.mono hb1.size)⟩

set_option maxHeartbeats 800000 in
theorem l_most_few (a : Option Addr) (n c : Nat) (zs : List Int) (w : World) (hn : zs.length = n) (hr : Rd w a (vals .i64 zs)) (h : n ≤ 200) :
    Calls Try.prog 10 #[.slice a n c] w fun e w' => e = .returned (.bool true) ∧ Below w.heap.size w w' := by
  have HR := Lib.hid hr
  have HN := Lib.hid hn
  clear hr hn
  go_enter Try.func10, Try.ntmps10
  go_wp2_with fail
  refine (c_awake04 _).mono ?_
  rintro e w1 ⟨rfl, hb1⟩
  have hR1 := Lib.hid (HR.out.below hb1)
  have hB := Lib.hid hb1
  clear hb1
  go_wp2_with fail
  refine (c_most a n c zs _ HN.out (by omega) hR1.out).mono ?_
  rintro e w2 ⟨hM, rfl⟩
  rcases hM with ⟨h0, rfl⟩ | ⟨p, rfl, hM⟩
  · have hn0 : n = 0 := by rw [← HN.out, h0]; rfl
    subst hn0
    clear h0
    go_wp2
    go_ret
    exact ⟨rfl, hB.out⟩
  · have hp0 := hM.1
    rw [HN.out] at hp0
    have hM := Lib.hid hM.2
    have tn : ((n : Int) == 0) = false := by simp; omega
    go_wp2
    go_loop [31] (fun y => ∃ (k : Nat), y = .int .i64 k ∧ k ≤ n) (fun y => n - (intOf y).toNat)
    case atStart => exact ⟨0, rfl, by omega⟩
    case round =>
      obtain ⟨k, rfl, hk⟩ := hrel
      by_cases hlt : k < n
      · have hkz : k < zs.length := by rw [HN.out]; exact hlt
        have hpz : p < zs.length := by rw [HN.out]; exact hp0
        obtain ⟨g, o, rfl, hg, hall, hc⟩ := hR1.out.at k (by simpa using hkz)
        rw [vals_get .i64 zs k hkz] at hc
        have hd := hall p (.int .i64 zs[p]) (by simp [vals, hpz])
        clear hall
        have hm := hM.out k hkz
        have e1 : zs.getD k 0 = zs[k] := by simp [hkz]
        have e2 : zs.getD p 0 = zs[p] := by simp [hpz]
        rw [e1, e2] at hm
        clear e1 e2
        have hpn : (p : Int) < n := by omega
        by_cases hpk : p = k
        · subst hpk
          clear hd
          generalize zs[p] = x at *
          have t1 : decide (x < x) = false := by simp
          have t2 : decide ((p : Int) < p) = false := by simp
          clear hm
          go_wp2
          go_round
          case rel => exact ⟨p + 1, by go_num, by omega⟩
          case measure => simp [intOf]; omega
        · generalize zs[k] = x at *
          generalize zs[p] = y at *
          rcases hm with hm | ⟨hm, hm2⟩
          · have t1 : decide (y < x) = false := by simp; omega
            have t2 : (x == y) = false := by simp; omega
            go_wp2
            go_round
            case rel => exact ⟨k + 1, by go_num, by omega⟩
            case measure => simp [intOf]; omega
          · subst hm
            have t1 : decide (x < x) = false := by simp
            have t3 : (x == x) = true := by simp
            have t2 : decide ((k : Int) < p) = false := by simp; omega
            go_wp2
            go_round
            case rel => exact ⟨k + 1, by go_num, by omega⟩
            case measure => simp [intOf]; omega
      · obtain rfl : k = n := by omega
        go_wp2
        go_ret
        exact ⟨rfl, hB.out⟩

theorem l_most (a : Option Addr) (n c : Nat) (zs : List Int) (w : World) (hn : zs.length = n) (hm : n ≤ 9223372036854775807) (hr : Rd w a (vals .i64 zs)) (hz : ∀ x ∈ zs, (Lit.int .i64 x).wf = true) :
    Calls Try.prog 10 #[.slice a n c] w fun e w' => e = .returned (.bool true) ∧ Below w.heap.size w w' := by
  by_cases h : n ≤ 200
  · exact l_most_few a n c zs w hn hr h
  · exact l_most_many a n c w hm (by omega)

end Go.Proofs.Ytagdibogjlmgmaa
