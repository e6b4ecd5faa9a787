/-
  The law DiscountAdds: its walk.
-/
import Derived.Test.YtagdibogjlmgmaaA5
import Derived.Test.YtagdibogjlmgmaaAdd2
namespace Go.Proofs.Ytagdibogjlmgmaa
set_option linter.unusedVariables false
set_option linter.unusedSimpArgs false
open Go.RowKit

@[simp] theorem iN_false (s n d t base : Int) : iN false s n d t base = 0 := rfl
@[simp] theorem iD_false (s n d t base : Int) : iD false s n d t base = 0 := rfl

/-- A fraction that may be, or the empty one. -/
def FracOr (n d : Int) : Prop := (n = 0 ∧ d = 0) ∨ (0 ≤ n ∧ n ≤ 9223372036854775807 ∧ 1 ≤ d ∧ d ≤ 9223372036854775807)
theorem c_add_any (an ad bn bd : Int) (w : World) (h1 : FracOr an ad) (h2 : FracOr bn bd) :
    Calls Try.prog 21 #[.agg #[.int .i64 an, .int .i64 ad], .agg #[.int .i64 bn, .int .i64 bd]] w (AddPost an ad bn bd w) := by
  rcases h1 with ⟨rfl, rfl⟩ | ⟨a1, a2, a3, a4⟩
  · exact (c_add_fa bn bd w).mono fun e w' h => ⟨_, _, _, h, fun h => by cases h⟩
  · rcases h2 with ⟨rfl, rfl⟩ | ⟨b1, b2, b3, b4⟩
    · exact (c_add_fb an ad w a1 a3).mono fun e w' h => ⟨_, _, _, h, fun h => by cases h⟩
    · exact c_add an ad bn bd w a1 a2 a3 a4 b1 b2 b3 b4
theorem frac_of (b : Bool) (s n d t base : Int) (h : intB s n d t base = b) : FracOr (iN b s n d t base) (iD b s n d t base) := by
  cases b
  · exact .inl ⟨rfl, rfl⟩
  · obtain ⟨_, _, h1, h2, h3, h4⟩ := int_facts h
    exact .inr ⟨h1, h2, h3, by show intD s n d t base ≤ _; omega⟩

/-- Two interests add up to that of the sums. -/
theorem adds_eq {s n t s' n' t' s2 n2 t2 d base sn sd : Int} (h1 : intB s n d t base = true) (h2 : intB s' n' d t' base = true) (h3 : intB s2 n2 d t2 base = true)
    (hsum : s2 * n2 * t2 = s * n * t + s' * n' * t')
    (he : sn * (intD s n d t base * intD s' n' d t' base) = (intN s n d t base * intD s' n' d t' base + intN s' n' d t' base * intD s n d t base) * sd) :
    sgn (sn * intD s2 n2 d t2 base) (intN s2 n2 d t2 base * sd) = 0 := by
  have e1 := int_eq (intB_valid h1)
  have e2 := int_eq (intB_valid h2)
  have e3 := int_eq (intB_valid h3)
  have hQ := valid_D (intB_valid h1)
  obtain ⟨_, _, _, _, p1, _⟩ := int_facts h1
  obtain ⟨_, _, _, _, p2, _⟩ := int_facts h2
  have hp : 0 < d * base * (intD s n d t base * intD s' n' d t' base) := Int.mul_pos (by omega) (Int.mul_pos (by omega) (by omega))
  generalize intN s n d t base = N1 at *
  generalize intD s n d t base = D1 at *
  generalize intN s' n' d t' base = N2 at *
  generalize intD s' n' d t' base = D2 at *
  generalize intN s2 n2 d t2 base = N3 at *
  generalize intD s2 n2 d t2 base = D3 at *
  generalize s * n * t = P1 at *
  generalize s' * n' * t' = P2 at *
  generalize s2 * n2 * t2 = P3 at *
  generalize d * base = Q at *
  have k : sn * D3 * (Q * (D1 * D2)) = N3 * sd * (Q * (D1 * D2)) := by grind
  have k2 := Int.eq_of_mul_eq_mul_right (by omega) k
  unfold sgn
  rw [k2, if_neg (by omega), if_neg (by omega)]

set_option maxHeartbeats 12800000 in
theorem l_adds_00 (a b n dd t m base : Int) (w : World) (a1 : 0 ≤ a) (a2 : 0 ≤ b) (a3 : a ≤ 274877906944) (a4 : b ≤ 274877906944) (a5 : 0 ≤ t) (a6 : 0 ≤ m) (a7 : t ≤ 262144) (a8 : m ≤ 262144) (p q c : Bool)
    (hp : intB a n dd t base = p) (hq : intB b n dd t base = q) (hr : intB (a + b) n dd t base = false) (hc : intB a n dd m base = c) (hd : intB a n dd (t + m) base = false) :
    Calls Try.prog 6 #[.int .i64 a, .int .i64 b, .agg #[.int .i64 n, .int .i64 dd], .int .i64 t, .int .i64 m, .int .i64 base] w fun e w' => e = .returned (.bool true) ∧ Below w.heap.size w w' := by
  have tk1 : True := trivial
  have tk2 : True := trivial
  have tk3 : True := trivial
  have tk4 : True := trivial
  have tk5 : True := trivial
  have tk6 : True := trivial
  have tk7 : True := trivial
  have tk8 : True := trivial
  have tk9 : True := trivial
  have F1 := frac_of p a n dd t base hp
  have F2 := frac_of q b n dd t base hq
  have F4 := frac_of c a n dd m base hc
  have H1 := Lib.hid hp
  have H2 := Lib.hid hq
  have H3 := Lib.hid hr
  have H4 := Lib.hid hc
  have H5 := Lib.hid hd
  clear hp hq hr hc hd
  go_enter Try.func6, Try.ntmps6
  go_wp2_with (first | (go_at_call 14; refine (c_awake39 _).mono ?_; rintro e w1 ⟨rfl, hb⟩; obtain ⟨hc, hf⟩ := bcell hb; have hBw1 : Below w.heap.size w w1 := Below.trans (by go_grown) (hb.mono (by go_size)); have hzw1 := hBw1.size; have hsw10 : w.heap.size < w1.heap.size := (by have := hb.size; (try simp at this); omega)) | (have _tk := tk1; go_at_call 16; refine (c_interest _ _ _ _ _ _ _ H1.out).mono ?_; rintro e w2 ⟨rfl, hb⟩; obtain ⟨hc, hf⟩ := bcell hb; have hBw2 : Below w.heap.size w w2 := Below.trans (by go_grown) (hb.mono (by go_size)); have hzw2 := hBw2.size; have hsw20 : w.heap.size < w2.heap.size := (by have := hb.size; (try simp at this); omega); clear _tk tk1) | (have _tk := tk2; go_at_call 16; refine (c_interest _ _ _ _ _ _ _ H2.out).mono ?_; rintro e w3 ⟨rfl, hb⟩; obtain ⟨hc, hf⟩ := bcell hb; have hBw3 : Below w.heap.size w w3 := Below.trans (by go_grown) (hb.mono (by go_size)); have hzw3 := hBw3.size; have hsw30 : w.heap.size < w3.heap.size := (by have := hb.size; (try simp at this); omega); have hsw31 : w2.heap.size < w3.heap.size := (by have := hb.size; (try simp at this); omega); clear _tk tk2) | (have _tk := tk3; go_at_call 16; refine (c_interest _ _ _ _ _ _ _ H3.out).mono ?_; rintro e w4 ⟨rfl, hb⟩; obtain ⟨hc, hf⟩ := bcell hb; have hBw4 : Below w.heap.size w w4 := Below.trans (by go_grown) (hb.mono (by go_size)); have hzw4 := hBw4.size; have hsw40 : w.heap.size < w4.heap.size := (by have := hb.size; (try simp at this); omega); have hsw41 : w2.heap.size < w4.heap.size := (by have := hb.size; (try simp at this); omega); have hsw42 : w3.heap.size < w4.heap.size := (by have := hb.size; (try simp at this); omega); clear _tk tk3) | (have _tk := tk4; go_at_call 21; refine (c_add_any _ _ _ _ _ F1 F2).mono ?_; rintro e w5 ⟨sn, sd, ob, ⟨rfl, hb⟩, hok⟩; obtain ⟨hc, hf⟩ := bcell hb; have hBw5 : Below w.heap.size w w5 := Below.trans (by go_grown) (hb.mono (by go_size)); have hzw5 := hBw5.size; have hsw50 : w.heap.size < w5.heap.size := (by have := hb.size; (try simp at this); omega); have hsw51 : w2.heap.size < w5.heap.size := (by have := hb.size; (try simp at this); omega); have hsw52 : w3.heap.size < w5.heap.size := (by have := hb.size; (try simp at this); omega); have hsw53 : w4.heap.size < w5.heap.size := (by have := hb.size; (try simp at this); omega); clear _tk tk4; rcases ob with _ | _; rotate_left; (obtain ⟨⟨x1, x2⟩, x3, x4, x5, x6, x7⟩ := hok rfl; obtain rfl : p = true := (by cases p; (· simp at x1); rfl); obtain rfl : q = true := (by cases q; (· simp at x2); rfl); rotate_left)) | (have _tk := tk8; go_at_call 17; refine (c_compare _ _ _ _ _ (by omega) (by omega) (by omega) (by omega) (by omega) (by omega) (by omega) (by omega)).mono ?_; rintro e w6 ⟨rfl, hb⟩; obtain ⟨hc, hf⟩ := bcell hb; have hBw6 : Below w.heap.size w w6 := Below.trans (by go_grown) (hb.mono (by go_size)); have hzw6 := hBw6.size; have hsw60 : w.heap.size < w6.heap.size := (by have := hb.size; (try simp at this); omega); have hsw61 : w2.heap.size < w6.heap.size := (by have := hb.size; (try simp at this); omega); have hsw62 : w3.heap.size < w6.heap.size := (by have := hb.size; (try simp at this); omega); have hsw63 : w4.heap.size < w6.heap.size := (by have := hb.size; (try simp at this); omega); have hsw64 : w5.heap.size < w6.heap.size := (by have := hb.size; (try simp at this); omega); clear _tk tk8) | (have _tk := tk5; go_at_call 16; refine (c_interest _ _ _ _ _ _ _ H4.out).mono ?_; rintro e w7 ⟨rfl, hb⟩; obtain ⟨hc, hf⟩ := bcell hb; have hBw7 : Below w.heap.size w w7 := Below.trans (by go_grown) (hb.mono (by go_size)); have hzw7 := hBw7.size; have hsw70 : w.heap.size < w7.heap.size := (by have := hb.size; (try simp at this); omega); have hsw71 : w2.heap.size < w7.heap.size := (by have := hb.size; (try simp at this); omega); have hsw72 : w3.heap.size < w7.heap.size := (by have := hb.size; (try simp at this); omega); have hsw73 : w4.heap.size < w7.heap.size := (by have := hb.size; (try simp at this); omega); clear _tk tk5) | (have _tk := tk6; go_at_call 16; refine (c_interest _ _ _ _ _ _ _ H5.out).mono ?_; rintro e w8 ⟨rfl, hb⟩; obtain ⟨hc, hf⟩ := bcell hb; have hBw8 : Below w.heap.size w w8 := Below.trans (by go_grown) (hb.mono (by go_size)); have hzw8 := hBw8.size; have hsw80 : w.heap.size < w8.heap.size := (by have := hb.size; (try simp at this); omega); have hsw81 : w2.heap.size < w8.heap.size := (by have := hb.size; (try simp at this); omega); have hsw82 : w7.heap.size < w8.heap.size := (by have := hb.size; (try simp at this); omega); clear _tk tk6) | (have _tk := tk7; go_at_call 21; refine (c_add_any _ _ _ _ _ F1 F4).mono ?_; rintro e w9 ⟨sn, sd, ob, ⟨rfl, hb⟩, hok⟩; obtain ⟨hc, hf⟩ := bcell hb; have hBw9 : Below w.heap.size w w9 := Below.trans (by go_grown) (hb.mono (by go_size)); have hzw9 := hBw9.size; have hsw90 : w.heap.size < w9.heap.size := (by have := hb.size; (try simp at this); omega); have hsw91 : w2.heap.size < w9.heap.size := (by have := hb.size; (try simp at this); omega); have hsw92 : w7.heap.size < w9.heap.size := (by have := hb.size; (try simp at this); omega); have hsw93 : w8.heap.size < w9.heap.size := (by have := hb.size; (try simp at this); omega); clear _tk tk7; rcases ob with _ | _; rotate_left; (obtain ⟨⟨z1, z2⟩, z3, z4, z5, z6, z7⟩ := hok rfl; (try (obtain rfl : p = true := (by cases p; (· simp at z1); rfl))); obtain rfl : c = true := (by cases c; (· simp at z2); rfl); rotate_left)) | (have _tk := tk9; go_at_call 17; refine (c_compare _ _ _ _ _ (by omega) (by omega) (by omega) (by omega) (by omega) (by omega) (by omega) (by omega)).mono ?_; rintro e w10 ⟨rfl, hb⟩; obtain ⟨hc, hf⟩ := bcell hb; have hBw10 : Below w.heap.size w w10 := Below.trans (by go_grown) (hb.mono (by go_size)); have hzw10 := hBw10.size; have hsw100 : w.heap.size < w10.heap.size := (by have := hb.size; (try simp at this); omega); have hsw101 : w2.heap.size < w10.heap.size := (by have := hb.size; (try simp at this); omega); clear _tk tk9))
  all_goals
    go_ret
    refine ⟨rfl, ?_⟩
    repeat' (first | (with_reducible exact Below.refl _ _) | (with_reducible assumption) | (with_reducible refine below_drewN ?_ _) | (with_reducible refine Below.drew ?_) | (with_reducible refine Below.alloc ?_ ?_ _) | (with_reducible refine Below.setCell ?_ ?_ _) | go_size)

set_option maxHeartbeats 12800000 in
theorem l_adds_01 (a b n dd t m base : Int) (w : World) (a1 : 0 ≤ a) (a2 : 0 ≤ b) (a3 : a ≤ 274877906944) (a4 : b ≤ 274877906944) (a5 : 0 ≤ t) (a6 : 0 ≤ m) (a7 : t ≤ 262144) (a8 : m ≤ 262144) (p q c : Bool)
    (hp : intB a n dd t base = p) (hq : intB b n dd t base = q) (hr : intB (a + b) n dd t base = false) (hc : intB a n dd m base = c) (hd : intB a n dd (t + m) base = true) :
    Calls Try.prog 6 #[.int .i64 a, .int .i64 b, .agg #[.int .i64 n, .int .i64 dd], .int .i64 t, .int .i64 m, .int .i64 base] w fun e w' => e = .returned (.bool true) ∧ Below w.heap.size w w' := by
  have tk1 : True := trivial
  have tk2 : True := trivial
  have tk3 : True := trivial
  have tk4 : True := trivial
  have tk5 : True := trivial
  have tk6 : True := trivial
  have tk7 : True := trivial
  have tk8 : True := trivial
  have tk9 : True := trivial
  have F1 := frac_of p a n dd t base hp
  have F2 := frac_of q b n dd t base hq
  have F4 := frac_of c a n dd m base hc
  have Y2 := int_facts hd
  obtain ⟨_, _, v1, v2, v3, v4⟩ := Y2
  have H1 := Lib.hid hp
  have H2 := Lib.hid hq
  have H3 := Lib.hid hr
  have H4 := Lib.hid hc
  have H5 := Lib.hid hd
  clear hp hq hr hc hd
  go_enter Try.func6, Try.ntmps6
  go_wp2_with (first | (go_at_call 14; refine (c_awake39 _).mono ?_; rintro e w1 ⟨rfl, hb⟩; obtain ⟨hc, hf⟩ := bcell hb; have hBw1 : Below w.heap.size w w1 := Below.trans (by go_grown) (hb.mono (by go_size)); have hzw1 := hBw1.size; have hsw10 : w.heap.size < w1.heap.size := (by have := hb.size; (try simp at this); omega)) | (have _tk := tk1; go_at_call 16; refine (c_interest _ _ _ _ _ _ _ H1.out).mono ?_; rintro e w2 ⟨rfl, hb⟩; obtain ⟨hc, hf⟩ := bcell hb; have hBw2 : Below w.heap.size w w2 := Below.trans (by go_grown) (hb.mono (by go_size)); have hzw2 := hBw2.size; have hsw20 : w.heap.size < w2.heap.size := (by have := hb.size; (try simp at this); omega); clear _tk tk1) | (have _tk := tk2; go_at_call 16; refine (c_interest _ _ _ _ _ _ _ H2.out).mono ?_; rintro e w3 ⟨rfl, hb⟩; obtain ⟨hc, hf⟩ := bcell hb; have hBw3 : Below w.heap.size w w3 := Below.trans (by go_grown) (hb.mono (by go_size)); have hzw3 := hBw3.size; have hsw30 : w.heap.size < w3.heap.size := (by have := hb.size; (try simp at this); omega); have hsw31 : w2.heap.size < w3.heap.size := (by have := hb.size; (try simp at this); omega); clear _tk tk2) | (have _tk := tk3; go_at_call 16; refine (c_interest _ _ _ _ _ _ _ H3.out).mono ?_; rintro e w4 ⟨rfl, hb⟩; obtain ⟨hc, hf⟩ := bcell hb; have hBw4 : Below w.heap.size w w4 := Below.trans (by go_grown) (hb.mono (by go_size)); have hzw4 := hBw4.size; have hsw40 : w.heap.size < w4.heap.size := (by have := hb.size; (try simp at this); omega); have hsw41 : w2.heap.size < w4.heap.size := (by have := hb.size; (try simp at this); omega); have hsw42 : w3.heap.size < w4.heap.size := (by have := hb.size; (try simp at this); omega); clear _tk tk3) | (have _tk := tk4; go_at_call 21; refine (c_add_any _ _ _ _ _ F1 F2).mono ?_; rintro e w5 ⟨sn, sd, ob, ⟨rfl, hb⟩, hok⟩; obtain ⟨hc, hf⟩ := bcell hb; have hBw5 : Below w.heap.size w w5 := Below.trans (by go_grown) (hb.mono (by go_size)); have hzw5 := hBw5.size; have hsw50 : w.heap.size < w5.heap.size := (by have := hb.size; (try simp at this); omega); have hsw51 : w2.heap.size < w5.heap.size := (by have := hb.size; (try simp at this); omega); have hsw52 : w3.heap.size < w5.heap.size := (by have := hb.size; (try simp at this); omega); have hsw53 : w4.heap.size < w5.heap.size := (by have := hb.size; (try simp at this); omega); clear _tk tk4; rcases ob with _ | _; rotate_left; (obtain ⟨⟨x1, x2⟩, x3, x4, x5, x6, x7⟩ := hok rfl; obtain rfl : p = true := (by cases p; (· simp at x1); rfl); obtain rfl : q = true := (by cases q; (· simp at x2); rfl); rotate_left)) | (have _tk := tk8; go_at_call 17; refine (c_compare _ _ _ _ _ (by omega) (by omega) (by omega) (by omega) (by omega) (by omega) (by omega) (by omega)).mono ?_; rintro e w6 ⟨rfl, hb⟩; obtain ⟨hc, hf⟩ := bcell hb; have hBw6 : Below w.heap.size w w6 := Below.trans (by go_grown) (hb.mono (by go_size)); have hzw6 := hBw6.size; have hsw60 : w.heap.size < w6.heap.size := (by have := hb.size; (try simp at this); omega); have hsw61 : w2.heap.size < w6.heap.size := (by have := hb.size; (try simp at this); omega); have hsw62 : w3.heap.size < w6.heap.size := (by have := hb.size; (try simp at this); omega); have hsw63 : w4.heap.size < w6.heap.size := (by have := hb.size; (try simp at this); omega); have hsw64 : w5.heap.size < w6.heap.size := (by have := hb.size; (try simp at this); omega); clear _tk tk8) | (have _tk := tk5; go_at_call 16; refine (c_interest _ _ _ _ _ _ _ H4.out).mono ?_; rintro e w7 ⟨rfl, hb⟩; obtain ⟨hc, hf⟩ := bcell hb; have hBw7 : Below w.heap.size w w7 := Below.trans (by go_grown) (hb.mono (by go_size)); have hzw7 := hBw7.size; have hsw70 : w.heap.size < w7.heap.size := (by have := hb.size; (try simp at this); omega); have hsw71 : w2.heap.size < w7.heap.size := (by have := hb.size; (try simp at this); omega); have hsw72 : w3.heap.size < w7.heap.size := (by have := hb.size; (try simp at this); omega); have hsw73 : w4.heap.size < w7.heap.size := (by have := hb.size; (try simp at this); omega); clear _tk tk5) | (have _tk := tk6; go_at_call 16; refine (c_interest _ _ _ _ _ _ _ H5.out).mono ?_; rintro e w8 ⟨rfl, hb⟩; obtain ⟨hc, hf⟩ := bcell hb; have hBw8 : Below w.heap.size w w8 := Below.trans (by go_grown) (hb.mono (by go_size)); have hzw8 := hBw8.size; have hsw80 : w.heap.size < w8.heap.size := (by have := hb.size; (try simp at this); omega); have hsw81 : w2.heap.size < w8.heap.size := (by have := hb.size; (try simp at this); omega); have hsw82 : w7.heap.size < w8.heap.size := (by have := hb.size; (try simp at this); omega); clear _tk tk6) | (have _tk := tk7; go_at_call 21; refine (c_add_any _ _ _ _ _ F1 F4).mono ?_; rintro e w9 ⟨sn, sd, ob, ⟨rfl, hb⟩, hok⟩; obtain ⟨hc, hf⟩ := bcell hb; have hBw9 : Below w.heap.size w w9 := Below.trans (by go_grown) (hb.mono (by go_size)); have hzw9 := hBw9.size; have hsw90 : w.heap.size < w9.heap.size := (by have := hb.size; (try simp at this); omega); have hsw91 : w2.heap.size < w9.heap.size := (by have := hb.size; (try simp at this); omega); have hsw92 : w7.heap.size < w9.heap.size := (by have := hb.size; (try simp at this); omega); have hsw93 : w8.heap.size < w9.heap.size := (by have := hb.size; (try simp at this); omega); clear _tk tk7; rcases ob with _ | _; rotate_left; (obtain ⟨⟨z1, z2⟩, z3, z4, z5, z6, z7⟩ := hok rfl; (try (obtain rfl : p = true := (by cases p; (· simp at z1); rfl))); obtain rfl : c = true := (by cases c; (· simp at z2); rfl); have hS2 := adds_eq H1.out H4.out H5.out (by grind) z7; rotate_left)) | (have _tk := tk9; go_at_call 17; refine (c_compare _ _ _ _ _ (by omega) (by omega) (by omega) (by omega) (by omega) (by omega) (by omega) (by omega)).mono ?_; rintro e w10 ⟨rfl, hb⟩; obtain ⟨hc, hf⟩ := bcell hb; have hBw10 : Below w.heap.size w w10 := Below.trans (by go_grown) (hb.mono (by go_size)); have hzw10 := hBw10.size; have hsw100 : w.heap.size < w10.heap.size := (by have := hb.size; (try simp at this); omega); have hsw101 : w2.heap.size < w10.heap.size := (by have := hb.size; (try simp at this); omega); clear _tk tk9))
  all_goals
    go_ret
    refine ⟨rfl, ?_⟩
    repeat' (first | (with_reducible exact Below.refl _ _) | (with_reducible assumption) | (with_reducible refine below_drewN ?_ _) | (with_reducible refine Below.drew ?_) | (with_reducible refine Below.alloc ?_ ?_ _) | (with_reducible refine Below.setCell ?_ ?_ _) | go_size)

set_option maxHeartbeats 12800000 in
theorem l_adds_10 (a b n dd t m base : Int) (w : World) (a1 : 0 ≤ a) (a2 : 0 ≤ b) (a3 : a ≤ 274877906944) (a4 : b ≤ 274877906944) (a5 : 0 ≤ t) (a6 : 0 ≤ m) (a7 : t ≤ 262144) (a8 : m ≤ 262144) (p q c : Bool)
    (hp : intB a n dd t base = p) (hq : intB b n dd t base = q) (hr : intB (a + b) n dd t base = true) (hc : intB a n dd m base = c) (hd : intB a n dd (t + m) base = false) :
    Calls Try.prog 6 #[.int .i64 a, .int .i64 b, .agg #[.int .i64 n, .int .i64 dd], .int .i64 t, .int .i64 m, .int .i64 base] w fun e w' => e = .returned (.bool true) ∧ Below w.heap.size w w' := by
  have tk1 : True := trivial
  have tk2 : True := trivial
  have tk3 : True := trivial
  have tk4 : True := trivial
  have tk5 : True := trivial
  have tk6 : True := trivial
  have tk7 : True := trivial
  have tk8 : True := trivial
  have tk9 : True := trivial
  have F1 := frac_of p a n dd t base hp
  have F2 := frac_of q b n dd t base hq
  have F4 := frac_of c a n dd m base hc
  have Y1 := int_facts hr
  obtain ⟨_, _, y1, y2, y3, y4⟩ := Y1
  have H1 := Lib.hid hp
  have H2 := Lib.hid hq
  have H3 := Lib.hid hr
  have H4 := Lib.hid hc
  have H5 := Lib.hid hd
  clear hp hq hr hc hd
  go_enter Try.func6, Try.ntmps6
  go_wp2_with (first | (go_at_call 14; refine (c_awake39 _).mono ?_; rintro e w1 ⟨rfl, hb⟩; obtain ⟨hc, hf⟩ := bcell hb; have hBw1 : Below w.heap.size w w1 := Below.trans (by go_grown) (hb.mono (by go_size)); have hzw1 := hBw1.size; have hsw10 : w.heap.size < w1.heap.size := (by have := hb.size; (try simp at this); omega)) | (have _tk := tk1; go_at_call 16; refine (c_interest _ _ _ _ _ _ _ H1.out).mono ?_; rintro e w2 ⟨rfl, hb⟩; obtain ⟨hc, hf⟩ := bcell hb; have hBw2 : Below w.heap.size w w2 := Below.trans (by go_grown) (hb.mono (by go_size)); have hzw2 := hBw2.size; have hsw20 : w.heap.size < w2.heap.size := (by have := hb.size; (try simp at this); omega); clear _tk tk1) | (have _tk := tk2; go_at_call 16; refine (c_interest _ _ _ _ _ _ _ H2.out).mono ?_; rintro e w3 ⟨rfl, hb⟩; obtain ⟨hc, hf⟩ := bcell hb; have hBw3 : Below w.heap.size w w3 := Below.trans (by go_grown) (hb.mono (by go_size)); have hzw3 := hBw3.size; have hsw30 : w.heap.size < w3.heap.size := (by have := hb.size; (try simp at this); omega); have hsw31 : w2.heap.size < w3.heap.size := (by have := hb.size; (try simp at this); omega); clear _tk tk2) | (have _tk := tk3; go_at_call 16; refine (c_interest _ _ _ _ _ _ _ H3.out).mono ?_; rintro e w4 ⟨rfl, hb⟩; obtain ⟨hc, hf⟩ := bcell hb; have hBw4 : Below w.heap.size w w4 := Below.trans (by go_grown) (hb.mono (by go_size)); have hzw4 := hBw4.size; have hsw40 : w.heap.size < w4.heap.size := (by have := hb.size; (try simp at this); omega); have hsw41 : w2.heap.size < w4.heap.size := (by have := hb.size; (try simp at this); omega); have hsw42 : w3.heap.size < w4.heap.size := (by have := hb.size; (try simp at this); omega); clear _tk tk3) | (have _tk := tk4; go_at_call 21; refine (c_add_any _ _ _ _ _ F1 F2).mono ?_; rintro e w5 ⟨sn, sd, ob, ⟨rfl, hb⟩, hok⟩; obtain ⟨hc, hf⟩ := bcell hb; have hBw5 : Below w.heap.size w w5 := Below.trans (by go_grown) (hb.mono (by go_size)); have hzw5 := hBw5.size; have hsw50 : w.heap.size < w5.heap.size := (by have := hb.size; (try simp at this); omega); have hsw51 : w2.heap.size < w5.heap.size := (by have := hb.size; (try simp at this); omega); have hsw52 : w3.heap.size < w5.heap.size := (by have := hb.size; (try simp at this); omega); have hsw53 : w4.heap.size < w5.heap.size := (by have := hb.size; (try simp at this); omega); clear _tk tk4; rcases ob with _ | _; rotate_left; (obtain ⟨⟨x1, x2⟩, x3, x4, x5, x6, x7⟩ := hok rfl; obtain rfl : p = true := (by cases p; (· simp at x1); rfl); obtain rfl : q = true := (by cases q; (· simp at x2); rfl); have hS := adds_eq H1.out H2.out H3.out (by grind) x7; rotate_left)) | (have _tk := tk8; go_at_call 17; refine (c_compare _ _ _ _ _ (by omega) (by omega) (by omega) (by omega) (by omega) (by omega) (by omega) (by omega)).mono ?_; rintro e w6 ⟨rfl, hb⟩; obtain ⟨hc, hf⟩ := bcell hb; have hBw6 : Below w.heap.size w w6 := Below.trans (by go_grown) (hb.mono (by go_size)); have hzw6 := hBw6.size; have hsw60 : w.heap.size < w6.heap.size := (by have := hb.size; (try simp at this); omega); have hsw61 : w2.heap.size < w6.heap.size := (by have := hb.size; (try simp at this); omega); have hsw62 : w3.heap.size < w6.heap.size := (by have := hb.size; (try simp at this); omega); have hsw63 : w4.heap.size < w6.heap.size := (by have := hb.size; (try simp at this); omega); have hsw64 : w5.heap.size < w6.heap.size := (by have := hb.size; (try simp at this); omega); clear _tk tk8) | (have _tk := tk5; go_at_call 16; refine (c_interest _ _ _ _ _ _ _ H4.out).mono ?_; rintro e w7 ⟨rfl, hb⟩; obtain ⟨hc, hf⟩ := bcell hb; have hBw7 : Below w.heap.size w w7 := Below.trans (by go_grown) (hb.mono (by go_size)); have hzw7 := hBw7.size; have hsw70 : w.heap.size < w7.heap.size := (by have := hb.size; (try simp at this); omega); have hsw71 : w2.heap.size < w7.heap.size := (by have := hb.size; (try simp at this); omega); have hsw72 : w3.heap.size < w7.heap.size := (by have := hb.size; (try simp at this); omega); have hsw73 : w4.heap.size < w7.heap.size := (by have := hb.size; (try simp at this); omega); clear _tk tk5) | (have _tk := tk6; go_at_call 16; refine (c_interest _ _ _ _ _ _ _ H5.out).mono ?_; rintro e w8 ⟨rfl, hb⟩; obtain ⟨hc, hf⟩ := bcell hb; have hBw8 : Below w.heap.size w w8 := Below.trans (by go_grown) (hb.mono (by go_size)); have hzw8 := hBw8.size; have hsw80 : w.heap.size < w8.heap.size := (by have := hb.size; (try simp at this); omega); have hsw81 : w2.heap.size < w8.heap.size := (by have := hb.size; (try simp at this); omega); have hsw82 : w7.heap.size < w8.heap.size := (by have := hb.size; (try simp at this); omega); clear _tk tk6) | (have _tk := tk7; go_at_call 21; refine (c_add_any _ _ _ _ _ F1 F4).mono ?_; rintro e w9 ⟨sn, sd, ob, ⟨rfl, hb⟩, hok⟩; obtain ⟨hc, hf⟩ := bcell hb; have hBw9 : Below w.heap.size w w9 := Below.trans (by go_grown) (hb.mono (by go_size)); have hzw9 := hBw9.size; have hsw90 : w.heap.size < w9.heap.size := (by have := hb.size; (try simp at this); omega); have hsw91 : w2.heap.size < w9.heap.size := (by have := hb.size; (try simp at this); omega); have hsw92 : w7.heap.size < w9.heap.size := (by have := hb.size; (try simp at this); omega); have hsw93 : w8.heap.size < w9.heap.size := (by have := hb.size; (try simp at this); omega); clear _tk tk7; rcases ob with _ | _; rotate_left; (obtain ⟨⟨z1, z2⟩, z3, z4, z5, z6, z7⟩ := hok rfl; (try (obtain rfl : p = true := (by cases p; (· simp at z1); rfl))); obtain rfl : c = true := (by cases c; (· simp at z2); rfl); rotate_left)) | (have _tk := tk9; go_at_call 17; refine (c_compare _ _ _ _ _ (by omega) (by omega) (by omega) (by omega) (by omega) (by omega) (by omega) (by omega)).mono ?_; rintro e w10 ⟨rfl, hb⟩; obtain ⟨hc, hf⟩ := bcell hb; have hBw10 : Below w.heap.size w w10 := Below.trans (by go_grown) (hb.mono (by go_size)); have hzw10 := hBw10.size; have hsw100 : w.heap.size < w10.heap.size := (by have := hb.size; (try simp at this); omega); have hsw101 : w2.heap.size < w10.heap.size := (by have := hb.size; (try simp at this); omega); clear _tk tk9))
  all_goals
    go_ret
    refine ⟨rfl, ?_⟩
    repeat' (first | (with_reducible exact Below.refl _ _) | (with_reducible assumption) | (with_reducible refine below_drewN ?_ _) | (with_reducible refine Below.drew ?_) | (with_reducible refine Below.alloc ?_ ?_ _) | (with_reducible refine Below.setCell ?_ ?_ _) | go_size)

set_option maxHeartbeats 12800000 in
theorem l_adds_11 (a b n dd t m base : Int) (w : World) (a1 : 0 ≤ a) (a2 : 0 ≤ b) (a3 : a ≤ 274877906944) (a4 : b ≤ 274877906944) (a5 : 0 ≤ t) (a6 : 0 ≤ m) (a7 : t ≤ 262144) (a8 : m ≤ 262144) (p q c : Bool)
    (hp : intB a n dd t base = p) (hq : intB b n dd t base = q) (hr : intB (a + b) n dd t base = true) (hc : intB a n dd m base = c) (hd : intB a n dd (t + m) base = true) :
    Calls Try.prog 6 #[.int .i64 a, .int .i64 b, .agg #[.int .i64 n, .int .i64 dd], .int .i64 t, .int .i64 m, .int .i64 base] w fun e w' => e = .returned (.bool true) ∧ Below w.heap.size w w' := by
  have tk1 : True := trivial
  have tk2 : True := trivial
  have tk3 : True := trivial
  have tk4 : True := trivial
  have tk5 : True := trivial
  have tk6 : True := trivial
  have tk7 : True := trivial
  have tk8 : True := trivial
  have tk9 : True := trivial
  have F1 := frac_of p a n dd t base hp
  have F2 := frac_of q b n dd t base hq
  have F4 := frac_of c a n dd m base hc
  have Y1 := int_facts hr
  obtain ⟨_, _, y1, y2, y3, y4⟩ := Y1
  have Y2 := int_facts hd
  obtain ⟨_, _, v1, v2, v3, v4⟩ := Y2
  have H1 := Lib.hid hp
  have H2 := Lib.hid hq
  have H3 := Lib.hid hr
  have H4 := Lib.hid hc
  have H5 := Lib.hid hd
  clear hp hq hr hc hd
  go_enter Try.func6, Try.ntmps6
  go_wp2_with (first | (go_at_call 14; refine (c_awake39 _).mono ?_; rintro e w1 ⟨rfl, hb⟩; obtain ⟨hc, hf⟩ := bcell hb; have hBw1 : Below w.heap.size w w1 := Below.trans (by go_grown) (hb.mono (by go_size)); have hzw1 := hBw1.size; have hsw10 : w.heap.size < w1.heap.size := (by have := hb.size; (try simp at this); omega)) | (have _tk := tk1; go_at_call 16; refine (c_interest _ _ _ _ _ _ _ H1.out).mono ?_; rintro e w2 ⟨rfl, hb⟩; obtain ⟨hc, hf⟩ := bcell hb; have hBw2 : Below w.heap.size w w2 := Below.trans (by go_grown) (hb.mono (by go_size)); have hzw2 := hBw2.size; have hsw20 : w.heap.size < w2.heap.size := (by have := hb.size; (try simp at this); omega); clear _tk tk1) | (have _tk := tk2; go_at_call 16; refine (c_interest _ _ _ _ _ _ _ H2.out).mono ?_; rintro e w3 ⟨rfl, hb⟩; obtain ⟨hc, hf⟩ := bcell hb; have hBw3 : Below w.heap.size w w3 := Below.trans (by go_grown) (hb.mono (by go_size)); have hzw3 := hBw3.size; have hsw30 : w.heap.size < w3.heap.size := (by have := hb.size; (try simp at this); omega); have hsw31 : w2.heap.size < w3.heap.size := (by have := hb.size; (try simp at this); omega); clear _tk tk2) | (have _tk := tk3; go_at_call 16; refine (c_interest _ _ _ _ _ _ _ H3.out).mono ?_; rintro e w4 ⟨rfl, hb⟩; obtain ⟨hc, hf⟩ := bcell hb; have hBw4 : Below w.heap.size w w4 := Below.trans (by go_grown) (hb.mono (by go_size)); have hzw4 := hBw4.size; have hsw40 : w.heap.size < w4.heap.size := (by have := hb.size; (try simp at this); omega); have hsw41 : w2.heap.size < w4.heap.size := (by have := hb.size; (try simp at this); omega); have hsw42 : w3.heap.size < w4.heap.size := (by have := hb.size; (try simp at this); omega); clear _tk tk3) | (have _tk := tk4; go_at_call 21; refine (c_add_any _ _ _ _ _ F1 F2).mono ?_; rintro e w5 ⟨sn, sd, ob, ⟨rfl, hb⟩, hok⟩; obtain ⟨hc, hf⟩ := bcell hb; have hBw5 : Below w.heap.size w w5 := Below.trans (by go_grown) (hb.mono (by go_size)); have hzw5 := hBw5.size; have hsw50 : w.heap.size < w5.heap.size := (by have := hb.size; (try simp at this); omega); have hsw51 : w2.heap.size < w5.heap.size := (by have := hb.size; (try simp at this); omega); have hsw52 : w3.heap.size < w5.heap.size := (by have := hb.size; (try simp at this); omega); have hsw53 : w4.heap.size < w5.heap.size := (by have := hb.size; (try simp at this); omega); clear _tk tk4; rcases ob with _ | _; rotate_left; (obtain ⟨⟨x1, x2⟩, x3, x4, x5, x6, x7⟩ := hok rfl; obtain rfl : p = true := (by cases p; (· simp at x1); rfl); obtain rfl : q = true := (by cases q; (· simp at x2); rfl); have hS := adds_eq H1.out H2.out H3.out (by grind) x7; rotate_left)) | (have _tk := tk8; go_at_call 17; refine (c_compare _ _ _ _ _ (by omega) (by omega) (by omega) (by omega) (by omega) (by omega) (by omega) (by omega)).mono ?_; rintro e w6 ⟨rfl, hb⟩; obtain ⟨hc, hf⟩ := bcell hb; have hBw6 : Below w.heap.size w w6 := Below.trans (by go_grown) (hb.mono (by go_size)); have hzw6 := hBw6.size; have hsw60 : w.heap.size < w6.heap.size := (by have := hb.size; (try simp at this); omega); have hsw61 : w2.heap.size < w6.heap.size := (by have := hb.size; (try simp at this); omega); have hsw62 : w3.heap.size < w6.heap.size := (by have := hb.size; (try simp at this); omega); have hsw63 : w4.heap.size < w6.heap.size := (by have := hb.size; (try simp at this); omega); have hsw64 : w5.heap.size < w6.heap.size := (by have := hb.size; (try simp at this); omega); clear _tk tk8) | (have _tk := tk5; go_at_call 16; refine (c_interest _ _ _ _ _ _ _ H4.out).mono ?_; rintro e w7 ⟨rfl, hb⟩; obtain ⟨hc, hf⟩ := bcell hb; have hBw7 : Below w.heap.size w w7 := Below.trans (by go_grown) (hb.mono (by go_size)); have hzw7 := hBw7.size; have hsw70 : w.heap.size < w7.heap.size := (by have := hb.size; (try simp at this); omega); have hsw71 : w2.heap.size < w7.heap.size := (by have := hb.size; (try simp at this); omega); have hsw72 : w3.heap.size < w7.heap.size := (by have := hb.size; (try simp at this); omega); have hsw73 : w4.heap.size < w7.heap.size := (by have := hb.size; (try simp at this); omega); clear _tk tk5) | (have _tk := tk6; go_at_call 16; refine (c_interest _ _ _ _ _ _ _ H5.out).mono ?_; rintro e w8 ⟨rfl, hb⟩; obtain ⟨hc, hf⟩ := bcell hb; have hBw8 : Below w.heap.size w w8 := Below.trans (by go_grown) (hb.mono (by go_size)); have hzw8 := hBw8.size; have hsw80 : w.heap.size < w8.heap.size := (by have := hb.size; (try simp at this); omega); have hsw81 : w2.heap.size < w8.heap.size := (by have := hb.size; (try simp at this); omega); have hsw82 : w7.heap.size < w8.heap.size := (by have := hb.size; (try simp at this); omega); clear _tk tk6) | (have _tk := tk7; go_at_call 21; refine (c_add_any _ _ _ _ _ F1 F4).mono ?_; rintro e w9 ⟨sn, sd, ob, ⟨rfl, hb⟩, hok⟩; obtain ⟨hc, hf⟩ := bcell hb; have hBw9 : Below w.heap.size w w9 := Below.trans (by go_grown) (hb.mono (by go_size)); have hzw9 := hBw9.size; have hsw90 : w.heap.size < w9.heap.size := (by have := hb.size; (try simp at this); omega); have hsw91 : w2.heap.size < w9.heap.size := (by have := hb.size; (try simp at this); omega); have hsw92 : w7.heap.size < w9.heap.size := (by have := hb.size; (try simp at this); omega); have hsw93 : w8.heap.size < w9.heap.size := (by have := hb.size; (try simp at this); omega); clear _tk tk7; rcases ob with _ | _; rotate_left; (obtain ⟨⟨z1, z2⟩, z3, z4, z5, z6, z7⟩ := hok rfl; (try (obtain rfl : p = true := (by cases p; (· simp at z1); rfl))); obtain rfl : c = true := (by cases c; (· simp at z2); rfl); have hS2 := adds_eq H1.out H4.out H5.out (by grind) z7; rotate_left)) | (have _tk := tk9; go_at_call 17; refine (c_compare _ _ _ _ _ (by omega) (by omega) (by omega) (by omega) (by omega) (by omega) (by omega) (by omega)).mono ?_; rintro e w10 ⟨rfl, hb⟩; obtain ⟨hc, hf⟩ := bcell hb; have hBw10 : Below w.heap.size w w10 := Below.trans (by go_grown) (hb.mono (by go_size)); have hzw10 := hBw10.size; have hsw100 : w.heap.size < w10.heap.size := (by have := hb.size; (try simp at this); omega); have hsw101 : w2.heap.size < w10.heap.size := (by have := hb.size; (try simp at this); omega); clear _tk tk9))
  all_goals
    go_ret
    refine ⟨rfl, ?_⟩
    repeat' (first | (with_reducible exact Below.refl _ _) | (with_reducible assumption) | (with_reducible refine below_drewN ?_ _) | (with_reducible refine Below.drew ?_) | (with_reducible refine Below.alloc ?_ ?_ _) | (with_reducible refine Below.setCell ?_ ?_ _) | go_size)

end Go.Proofs.Ytagdibogjlmgmaa
