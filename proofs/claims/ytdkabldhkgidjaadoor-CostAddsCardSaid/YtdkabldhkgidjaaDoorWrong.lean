/-
  share.wrong: its walk, by slices.ContainsFunc's.
-/
import Derived.Test.YtdkabldhkgidjaaDoorRow
import Derived.Test.YtdkabldhkgidjaaDoorRows
import Derived.Shelf.Abstract
namespace Go.Proofs.YtdkabldhkgidjaaDoor
set_option linter.unusedVariables false
set_option linter.unusedSimpArgs false
open Go.RowKit

/-- A predicate of one integer, as a function of the program. -/
def PredIs (g : Nat) (p : Int → Bool) : Prop := ∀ x w, Calls Tryd.prog g #[.int .i64 x] w fun e w' => e = .returned (.bool (p x)) ∧ w = w'
def EntersIs (g : Nat) : Prop := ∀ args w, (callFunc g args).run Tryd.prog w = .ok (.enter g args) w

set_option maxHeartbeats 800000 in
theorem c_indexFunc (g : Nat) (p : Int → Bool) (eg0 : EntersIs g) (hp : PredIs g p) (a : Option Addr) (n c : Nat) (zs : List Int) (w : World) (hn : zs.length = n) (hm : n ≤ 9223372036854775807) (hr : Rd w a (vals .i64 zs)) :
    Calls Tryd.prog 78 #[.slice a n c, .func (.func g) #[] #[]] w fun e w' => (∃ i : Int, e = .returned (.int .i64 i) ∧ (zs.any p = decide (0 ≤ i))) ∧ w = w' := by
  have eg : ∀ args w, (callFunc g args).run Tryd.prog w = .ok (.enter g args) w := eg0
  have HP := Lib.hid hp
  have HR := Lib.hid hr
  have HN := Lib.hid hn
  clear hp hr hn
  go_enter Tryd.func78, Tryd.ntmps78
  go_wp2
  go_loop [8] (fun i => ∃ k : Nat, i = .int .i64 k ∧ k ≤ n ∧ Hid ((zs.take k).any p = false)) (fun i => n - (intOf i).toNat)
  case atStart => exact ⟨0, rfl, by omega, by show _ = _; simp⟩
  case round =>
    obtain ⟨k, rfl, hk, hf⟩ := hrel
    by_cases hlt : k < n
    · have hkz : k < zs.length := by rw [HN.out]; exact hlt
      obtain ⟨b, o, rfl, hb, hall, hc⟩ := HR.out.at k (by simpa using hkz)
      clear hall
      rw [vals_get .i64 zs k hkz] at hc
      have hs := any_take_succ p zs k hkz
      have ht := HP.out zs[k]
      generalize zs[k] = x at *
      cases hx : p x
      all_goals
        rw [hx] at ht hs
        have HT := Lib.hid ht
        have HS := Lib.hid hs
        clear ht hs hx
        go_wp2_with (go_at_fn g; refine (HT.out _).mono ?_; rintro e w' ⟨rfl, rfl⟩)
      · go_round
        case rel => exact ⟨k + 1, by go_num, by omega, by have h1 := HS.out; have h2 := hf.out; show _ = _; rw [h1, h2]; rfl⟩
        case measure => simp [intOf]; omega
      · go_ret
        refine ⟨⟨k, rfl, ?_⟩, rfl⟩
        have h1 := HS.out
        have h3 : zs.any p = true := by
          rw [← List.take_append_drop (k + 1) zs, List.any_append, h1]
          simp
        rw [h3]
        simp
    · obtain rfl : k = n := by omega
      go_wp2
      go_ret
      refine ⟨⟨-1, rfl, ?_⟩, rfl⟩
      have h1 := hf.out
      rw [List.take_of_length_le (by rw [HN.out]; exact Nat.le_refl _)] at h1
      rw [h1]
      rfl

set_option maxHeartbeats 400000 in
theorem c_containsFunc (g : Nat) (p : Int → Bool) (eg : EntersIs g) (hp : PredIs g p) (a : Option Addr) (n c : Nat) (zs : List Int) (w : World) (hn : zs.length = n) (hm : n ≤ 9223372036854775807) (hr : Rd w a (vals .i64 zs)) :
    Calls Tryd.prog 66 #[.slice a n c, .func (.func g) #[] #[]] w fun e w' => e = .returned (.bool (zs.any p)) ∧ w = w' := by
  have hi := fun w hr => c_indexFunc g p eg hp a n c zs w hn hm hr
  have HI := Lib.hid hi
  have HR := Lib.hid hr
  clear hi hr hn eg hp
  go_enter Tryd.func66, Tryd.ntmps66
  go_wp2_with (go_at_call 78; refine (HI.out _ HR.out).mono ?_; rintro e w' ⟨⟨i, rfl, hany⟩, rfl⟩; have HA := Lib.hid hany; clear hany)
  go_ret
  exact ⟨ret_b HA.out.symm, rfl⟩

set_option maxHeartbeats 400000 in
theorem p_wrong1 : PredIs 63 (fun x => decide (x < 0)) := fun x w => by
  go_enter Tryd.func63, Tryd.ntmps63
  go_wp2
  go_ret
  exact ⟨rfl, rfl⟩
theorem e_wrong1 : EntersIs 63 := enters_of Tryd.func63 (by kernel_rfl) rfl
set_option maxHeartbeats 400000 in
theorem p_wrong2 : PredIs 64 (fun x => decide (1099511627776 < x)) := fun x w => by
  go_enter Tryd.func64, Tryd.ntmps64
  go_wp2
  go_ret
  exact ⟨rfl, rfl⟩
theorem e_wrong2 : EntersIs 64 := enters_of Tryd.func64 (by kernel_rfl) rfl
set_option maxHeartbeats 400000 in
theorem p_wrong3 : PredIs 65 (fun x => decide (0 < x)) := fun x w => by
  go_enter Tryd.func65, Tryd.ntmps65
  go_wp2
  go_ret
  exact ⟨rfl, rfl⟩
theorem e_wrong3 : EntersIs 65 := enters_of Tryd.func65 (by kernel_rfl) rfl

/-- What is wrong with a total and weights, by three questions of the weights. -/
def errV (T : Int) (n : Nat) (b1 b2 b3 : Bool) : Int :=
  if T < 0 ∨ n = 0 ∨ b1 = true then 1 else if 1099511627776 < T ∨ b2 = true ∨ 4096 < n then 3 else if 0 < T ∧ b3 = false then 4 else 0
def errS (T : Int) (zs : List Int) : Int := errV T zs.length (zs.any fun x => decide (x < 0)) (zs.any fun x => decide (1099511627776 < x)) (zs.any fun x => decide (0 < x))

set_option maxHeartbeats 1600000 in
theorem c_wrong0 (T : Int) (a : Option Addr) (n c : Nat) (zs : List Int) (w : World) (hn : zs.length = n) (hm : n ≤ 9223372036854775807) (hr : Rd w a (vals .i64 zs)) (b1 b2 b3 : Bool)
    (h1 : (zs.any fun x => decide (x < 0)) = b1) (h2 : (zs.any fun x => decide (1099511627776 < x)) = b2) (h3 : (zs.any fun x => decide (0 < x)) = b3) :
    Calls Tryd.prog 47 #[.int .i64 T, .slice a n c] w fun e w' => e = .returned (.int .i64 (errV T n b1 b2 b3)) ∧ w = w' := by
  have k1 := fun w hr => c_containsFunc _ _ e_wrong1 p_wrong1 a n c zs w hn hm hr
  have k2 := fun w hr => c_containsFunc _ _ e_wrong2 p_wrong2 a n c zs w hn hm hr
  have k3 := fun w hr => c_containsFunc _ _ e_wrong3 p_wrong3 a n c zs w hn hm hr
  rw [h1] at k1
  rw [h2] at k2
  rw [h3] at k3
  have K1 := Lib.hid k1
  have K2 := Lib.hid k2
  have K3 := Lib.hid k3
  have HR := Lib.hid hr
  clear k1 k2 k3 hr h1 h2 h3 hn
  have tk1 : True := trivial
  have tk2 : True := trivial
  have tk3 : True := trivial
  cases b1 <;> cases b2 <;> cases b3
  all_goals
    go_enter Tryd.func47, Tryd.ntmps47
    go_wp2_with (first | (have _tk := tk1; go_at_call 66; refine (K1.out _ HR.out).mono ?_; rintro e w' ⟨rfl, rfl⟩; clear _tk tk1) | (have _tk := tk2; go_at_call 66; refine (K2.out _ HR.out).mono ?_; rintro e w' ⟨rfl, rfl⟩; clear _tk tk2) | (have _tk := tk3; go_at_call 66; refine (K3.out _ HR.out).mono ?_; rintro e w' ⟨rfl, rfl⟩; clear _tk tk3))
    all_goals
      go_ret
      refine ⟨ret_i ?_, rfl⟩
      unfold errV
      first | (simp at *; done) | (simp at *; omega) | (simp at *; simp [*]; done)

end Go.Proofs.YtdkabldhkgidjaaDoor
