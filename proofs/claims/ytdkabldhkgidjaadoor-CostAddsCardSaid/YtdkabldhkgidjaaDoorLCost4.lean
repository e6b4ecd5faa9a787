/-
  The law CostAdds: its walk.
-/
import Derived.Test.YtdkabldhkgidjaaDoorLCost2
namespace Go.Proofs.YtdkabldhkgidjaaDoor
set_option linter.unusedVariables false
set_option linter.unusedSimpArgs false
open Go.RowKit

theorem add_div (X Y c : Int) (hc : 1 ≤ c) : (X + Y) / c = X / c + Y / c + (if c ≤ X % c + Y % c then 1 else 0) := by
  have h1 := Int.mul_ediv_add_emod X c
  have h2 := Int.emod_nonneg X (show c ≠ 0 by omega)
  have h3 := Int.emod_lt_of_pos X (show 0 < c by omega)
  have g1 := Int.mul_ediv_add_emod Y c
  have g2 := Int.emod_nonneg Y (show c ≠ 0 by omega)
  have g3 := Int.emod_lt_of_pos Y (show 0 < c by omega)
  generalize X / c = q at *
  generalize X % c = r at *
  generalize Y / c = p at *
  generalize Y % c = t at *
  subst h1 g1
  split
  · have e : c * q + r + (c * p + t) = (q + p + 1) * c + (r + t - c) := by grind
    rw [e, Int.add_comm, Int.add_mul_ediv_right _ _ (by omega), Int.ediv_eq_zero_of_lt (by omega) (by omega)]; omega
  · have e : c * q + r + (c * p + t) = (q + p) * c + (r + t) := by grind
    rw [e, Int.add_comm, Int.add_mul_ediv_right _ _ (by omega), Int.ediv_eq_zero_of_lt (by omega) (by omega)]; omega


theorem near_two (C1 C2 : Int) (zs : List Int) (hS : 0 < sumL zs) (i : Nat) (h : i < zs.length) :
    -2 ≤ (partsOf (C1 + C2) zs).getD i 0 - (partsOf C1 zs).getD i 0 - (partsOf C2 zs).getD i 0 ∧ (partsOf (C1 + C2) zs).getD i 0 - (partsOf C1 zs).getD i 0 - (partsOf C2 zs).getD i 0 ≤ 2 := by
  have h0 := parts_near (C1 + C2) zs hS i h
  have h1 := parts_near C1 zs hS i h
  have h2 := parts_near C2 zs hS i h
  have h3 := add_div (C1 * zs[i]) (C2 * zs[i]) (sumL zs) hS
  rw [← Int.add_mul] at h3
  have h4 : (if sumL zs ≤ C1 * zs[i] % sumL zs + C2 * zs[i] % sumL zs then (1 : Int) else 0) = 0 ∨ (if sumL zs ≤ C1 * zs[i] % sumL zs + C2 * zs[i] % sumL zs then (1 : Int) else 0) = 1 := by
    by_cases hc : sumL zs ≤ C1 * zs[i] % sumL zs + C2 * zs[i] % sumL zs
    · rw [if_pos hc]; exact .inr rfl
    · rw [if_neg hc]; exact .inl rfl
  generalize (if sumL zs ≤ C1 * zs[i] % sumL zs + C2 * zs[i] % sumL zs then (1 : Int) else 0) = d at *
  generalize (C1 + C2) * zs[i] / sumL zs = q at *
  generalize C1 * zs[i] / sumL zs = q1 at *
  generalize C2 * zs[i] / sumL zs = q2 at *
  rcases h0 with h0 | ⟨h0, -⟩ <;> rcases h1 with h1 | ⟨h1, -⟩ <;> rcases h2 with h2 | ⟨h2, -⟩ <;> omega
theorem ofC_append (t : Int) (b : Bool) (A B : List Cst) : ofC t b (A ++ B) = ofC t b A ++ ofC t b B := by unfold ofC; exact List.filter_append ..
theorem sumC_append (A B : List Cst) : sumC (A ++ B) = sumC A + sumC B := by
  induction A with
  | nil => simp [sumC]
  | cons x r ih => simp only [List.cons_append, sumC, ih]; omega
theorem splitE_part {t : Int} {A B : List Cst} (h : splitE t (A ++ B) = 0) : splitE t A = 0 ∧ splitE t B = 0 := by
  obtain ⟨htm, hod, hl⟩ := splitE_zero h
  rw [List.length_append] at hl
  have ho : ∀ x ∈ A ++ B, costB x = true := oddC_false hod
  have odd : ∀ X : List Cst, (∀ x ∈ X, x ∈ A ++ B) → oddC X = false := fun X hX => by
    unfold oddC
    rw [List.any_eq_false]
    intro x hx
    simpa using ho x (hX x hx)
  have fin : ∀ X : List Cst, (∀ x ∈ X, x ∈ A ++ B) → X.length ≤ 4096 → splitE t X = 0 := fun X hX hl => by
    unfold splitE wrongC
    rw [if_pos htm, odd X hX, if_neg (by decide), if_neg (by omega)]
  exact ⟨fin A (fun x hx => List.mem_append_left _ hx) (by omega), fin B (fun x hx => List.mem_append_right _ hx) (by omega)⟩
theorem land_app {o : Ord} {A B : List Cst} (h : landE o (A ++ B) = 0) : landE o A = 0 ∧ landE o B = 0 ∧ landC o (A ++ B) = landC o A + landC o B ∧ landT o (A ++ B) = totN o ∧ landT o A = totN o ∧ landT o B = totN o := by
  obtain ⟨h1, h2, hT, hC, c0, c1⟩ := landE_zero h
  obtain ⟨a2, b2⟩ := splitE_part h2
  have hs : buyS o (A ++ B) = buyS o A + buyS o B := by unfold buyS; rw [ofC_append, sumC_append]
  have pa : 0 ≤ buyS o A := (sumC_bd (ofC_am (t := o.term) (b := true) (splitE_zero a2).2.1)).1
  have pb : 0 ≤ buyS o B := (sumC_bd (ofC_am (t := o.term) (b := true) (splitE_zero b2).2.1)).1
  have hbig : ¬ 1099511627776 < totN o + buyS o (A ++ B) := by
    unfold landE at h
    rw [if_pos h1, if_pos h2] at h
    intro hb
    rw [if_pos hb] at h; cases h
  have ea : landE o A = 0 := by unfold landE; rw [if_pos h1, if_pos a2, if_neg (by omega)]
  have eb : landE o B = 0 := by unfold landE; rw [if_pos h1, if_pos b2, if_neg (by omega)]
  refine ⟨ea, eb, ?_, hT, (landE_zero ea).2.2.1, (landE_zero eb).2.2.1⟩
  rw [hC, hs, (landE_zero ea).2.2.2.1, (landE_zero eb).2.2.2.1]
theorem land_nil {o : Ord} (h : totE o = 0) : landE o [] = 0 ∧ landT o [] = totN o ∧ landC o [] = 0 := by
  obtain ⟨hm, t0, t1, t2⟩ := totE_zero h
  have hs : splitE o.term [] = 0 := by
    unfold splitE
    rw [if_pos (show termB o.term = true from decide_eq_true (Ord.may_term hm))]
    rfl
  have hE : landE o [] = 0 := by unfold landE; rw [if_pos h, if_pos hs, if_neg (by rw [t1]; show ¬ _ < sumW o.L + 0; omega)]
  exact ⟨hE, (landE_zero hE).2.2.1, by rw [(landE_zero hE).2.2.2.1]; rfl⟩
theorem each_get {o : Ord} {L : List Cst} (h : landE o L = 0) (k : Nat) (hk : k < o.L.length) : (eachP o L).getD k 0 = (partsOf (landC o L) (o.L.map (wgtO o))).getD k 0 + (o.L.map worth).getD k 0 := by
  have hl : (partsOf (landC o L) (o.L.map (wgtO o))).length = o.L.length := by rw [parts_length, List.length_map]
  rw [show eachP o L = (List.range (partsOf (landC o L) (o.L.map (wgtO o))).length).map fun i => (partsOf (landC o L) (o.L.map (wgtO o))).getD i 0 + (o.L.map worth).getD i 0 from mixE_full _ _ _ hl]
  simp [List.getD_eq_getElem?_getD, hl, hk]
/-- What lines get apart. -/
theorem each_two {o : Ord} {A B : List Cst} (h : landE o (A ++ B) = 0) (k : Nat) (hk : k < o.L.length) :
    -2 ≤ (eachP o (A ++ B)).getD k 0 - (o.L.map worth).getD k 0 - ((eachP o A).getD k 0 - (o.L.map worth).getD k 0) - ((eachP o B).getD k 0 - (o.L.map worth).getD k 0) ∧
      (eachP o (A ++ B)).getD k 0 - (o.L.map worth).getD k 0 - ((eachP o A).getD k 0 - (o.L.map worth).getD k 0) - ((eachP o B).getD k 0 - (o.L.map worth).getD k 0) ≤ 2 := by
  obtain ⟨ea, eb, hc, -⟩ := land_app h
  obtain ⟨h1, -⟩ := landE_zero h
  obtain ⟨-, hS, -⟩ := wgt_facts h1
  rw [each_get h k hk, each_get ea k hk, each_get eb k hk, hc]
  have := near_two (landC o A) (landC o B) (o.L.map (wgtO o)) hS k (by rw [List.length_map]; exact hk)
  omega
/-- The rest of a slice. -/
theorem rd_drop {w : World} {a : Option Addr} {L : List Cst} {n c k : Nat} (h : Rd w a (flat cC L)) (hn : L.length = n) (hc : n ≤ c) (hk : k ≤ n) : Rd w (if c = k then a else a.map (·.add (k * 3))) (flat cC (L.drop k)) := by
  intro hne
  have hlt : k < n := by
    rcases Nat.lt_or_ge k n with h1 | h1
    · exact h1
    · rw [List.drop_of_length_le (by omega)] at hne
      exact absurd rfl hne
  rw [if_neg (by omega)]
  obtain ⟨b, o, e, hb, hr⟩ := h (by
    intro e
    have := flat_length cC_length L
    rw [e] at this
    simp at this
    omega)
  subst e
  refine ⟨b, o + k * 3, by simp [add_none], hb, fun j v hv => ?_⟩
  have := hr (k * 3 + j) v (by
    rw [← List.take_append_drop k L, flat_append]
    have hl : (flat cC (L.take k)).length = k * 3 := by rw [flat_length cC_length, List.length_take]; omega
    rw [List.getElem?_append_right (by omega), hl, Nat.add_sub_cancel_left]
    exact hv)
  rw [Nat.add_assoc]
  exact this
theorem rd_take {w : World} {a : Option Addr} {L : List Cst} {k : Nat} (h : Rd w a (flat cC L)) : Rd w a (flat cC (L.take k)) := by
  intro hne
  obtain ⟨b', o', e', hb', hr'⟩ := h (fun e => hne (by
    have h1 := flat_length cC_length L
    rw [e] at h1
    simp at h1
    have : L = [] := List.eq_nil_of_length_eq_zero (by omega)
    rw [this]; simp [flat]))
  refine ⟨b', o', e', hb', fun j v hv => hr' j v ?_⟩
  rw [← List.take_append_drop k L, flat_append]
  rw [List.getElem?_append_left (List.getElem?_eq_some_iff.1 hv).1]
  exact hv

set_option maxRecDepth 100000 in
set_option maxHeartbeats 6400000 in
theorem l_cadds_long (o : Ord) (a : Option Addr) (n c : Nat) (L : List Cst) (q : Int) (w : World) (ho : o.ln ≤ 1048576 → OrdOk w o) (hn : L.length = n) (hm : n ≤ 9223372036854775807) (hr : Rd w a (flat cC L)) (hok : ∀ x ∈ L, CstOk x) (hT : Tab w) (hlong : 60 < n) :
    Calls Tryd.prog 6 #[o.v, .slice a n c, .int .u8 q] w fun e w' => e = .returned (.bool true) ∧ Below w.heap.size w w' := by
  have HR := Lib.hid hr
  have HT := Lib.hid hT
  have BK := Lib.hid (Blk.new w 33 #[.string o.nu, .string o.se, .string o.bu, .string o.cu, .string o.fr, .string o.tt, .int .i64 o.term, .slice o.la o.ln o.lc])
  have HB0 := Lib.hid ((Below.refl w.heap.size w).alloc (Nat.le_refl _) (.cells #[.string o.nu, .string o.se, .string o.bu, .string o.cu, .string o.fr, .string o.tt, .int .i64 o.term, .slice o.la o.ln o.lc] 33))
  clear hr hT hok hn ho
  unfold Ord.v
  go_enter Tryd.func6, Tryd.ntmps6
  go_wp2_with fail
  refine (c_awake20 _ (HT.out.below HB0.out)).mono ?_
  rintro e w1 ⟨rfl, hbx⟩
  have HB1 := Lib.hid (HB0.out.trans (hbx.mono HB0.out.size))
  have BK1 := Lib.hid (BK.out.below hbx BK.out.lt)
  clear hbx
  have k7 := BK1.out.cell 7 rfl
  go_wp2_with fail
  clear k7
  refine (c_awake20 _ (HT.out.below HB1.out)).mono ?_
  rintro e w2 ⟨rfl, hbx⟩
  have HB2 := Lib.hid (HB1.out.trans (hbx.mono HB1.out.size))
  clear hbx
  go_wp2_with fail
  go_ret
  exact ⟨rfl, HB2.out⟩

set_option maxRecDepth 100000 in
set_option maxHeartbeats 6400000 in
theorem l_cadds_many (o : Ord) (a : Option Addr) (n c : Nat) (L : List Cst) (q : Int) (w : World) (ho : o.ln ≤ 1048576 → OrdOk w o) (hn : L.length = n) (hm : n ≤ 9223372036854775807) (hr : Rd w a (flat cC L)) (hok : ∀ x ∈ L, CstOk x) (hT : Tab w) (hs : n ≤ 60) (hmany : 70 < o.ln) (hom : o.ln ≤ 9223372036854775807) :
    Calls Tryd.prog 6 #[o.v, .slice a n c, .int .u8 q] w fun e w' => e = .returned (.bool true) ∧ Below w.heap.size w w' := by
  have HR := Lib.hid hr
  have HT := Lib.hid hT
  have BK := Lib.hid (Blk.new w 33 #[.string o.nu, .string o.se, .string o.bu, .string o.cu, .string o.fr, .string o.tt, .int .i64 o.term, .slice o.la o.ln o.lc])
  have HB0 := Lib.hid ((Below.refl w.heap.size w).alloc (Nat.le_refl _) (.cells #[.string o.nu, .string o.se, .string o.bu, .string o.cu, .string o.fr, .string o.tt, .int .i64 o.term, .slice o.la o.ln o.lc] 33))
  have hmi : (70 : Int) < o.ln := by omega
  clear hr hT hok hn ho
  unfold Ord.v
  go_enter Tryd.func6, Tryd.ntmps6
  go_wp2_with fail
  refine (c_awake20 _ (HT.out.below HB0.out)).mono ?_
  rintro e w1 ⟨rfl, hbx⟩
  have HB1 := Lib.hid (HB0.out.trans (hbx.mono HB0.out.size))
  have BK1 := Lib.hid (BK.out.below hbx BK.out.lt)
  clear hbx
  have k7 := BK1.out.cell 7 rfl
  go_wp2_with fail
  clear k7
  refine (c_awake20 _ (HT.out.below HB1.out)).mono ?_
  rintro e w2 ⟨rfl, hbx⟩
  have HB2 := Lib.hid (HB1.out.trans (hbx.mono HB1.out.size))
  clear hbx
  go_wp2_with fail
  go_ret
  exact ⟨rfl, HB2.out⟩

set_option maxRecDepth 100000 in
set_option maxHeartbeats 6400000 in
theorem l_cadds_bad (o : Ord) (a : Option Addr) (n c : Nat) (L : List Cst) (q : Int) (w : World) (ho : o.ln ≤ 1048576 → OrdOk w o) (hn : L.length = n) (hm : n ≤ 9223372036854775807) (hr : Rd w a (flat cC L)) (hok : ∀ x ∈ L, CstOk x) (hT : Tab w) (hcap : n ≤ c) (hq0 : 0 ≤ q) (hq1 : q ≤ 255) (hs : n ≤ 60) (hfew : o.ln ≤ 70) (he : landE o L ≠ 0) :
    Calls Tryd.prog 6 #[o.v, .slice a n c, .int .u8 q] w fun e w' => e = .returned (.bool true) ∧ Below w.heap.size w w' := by
  have hO : OrdOk w o := ho (by omega)
  have hlni : (o.ln : Int) ≤ 70 := by omega
  obtain ⟨k, hk⟩ : ∃ k : Nat, q % ((n : Int) + 1) = k := ⟨(q % ((n : Int) + 1)).toNat, by have := Int.emod_nonneg q (show ((n : Int) + 1) ≠ 0 by omega); omega⟩
  have hkn : k ≤ n := by have := Int.emod_lt_of_pos q (show (0 : Int) < (n : Int) + 1 by omega); omega
  have hkt : Int.tmod q ((n : Int) + 1) = k := by rw [Int.tmod_eq_emod_of_nonneg hq0]; exact hk
  have e9 : IntKind.i64.wrap ((n : Int) + 1) = (n : Int) + 1 := IntWalk.i64_in _ (by omega)
  have hkc : k ≤ c := by omega
  have hkci : (k : Int) ≤ c := by omega
  have hkni : (k : Int) ≤ n := by omega
  have hl1 : (L.take k).length = k := by rw [List.length_take]; omega
  have hl2 : (L.drop k).length = n - k := by rw [List.length_drop, hn]
  have hk1 : ∀ x ∈ L.take k, CstOk x := fun x hx => hok x (List.mem_of_mem_take hx)
  have hk2 : ∀ x ∈ L.drop k, CstOk x := fun x hx => hok x (List.mem_of_mem_drop hx)
  have HL0 := fun w ho hT => c_landed o none 0 0 [] w ho rfl (by omega) (Rd.nil _ _) (fun x hx => by cases hx) hT
  have HL := fun w ho hr hT => c_landed o a n c L w ho hn hm hr hok hT
  have HL1 := fun w ho hr hT => c_landed o a k c (L.take k) w ho hl1 (by omega) hr hk1 hT
  have HL2 := fun A w ho hr hT => c_landed o A (n - k) (c - k) (L.drop k) w ho hl2 (by omega) hr hk2 hT
  have hz : landT o L + landC o L = 0 := by unfold landT landC; rw [if_neg he, if_neg he]; rfl
  rw [hz] at HL
  have HR := Lib.hid hr
  have HT := Lib.hid hT
  have BK := Lib.hid (Blk.new w 33 #[.string o.nu, .string o.se, .string o.bu, .string o.cu, .string o.fr, .string o.tt, .int .i64 o.term, .slice o.la o.ln o.lc])
  have HB0 := Lib.hid ((Below.refl w.heap.size w).alloc (Nat.le_refl _) (.cells #[.string o.nu, .string o.se, .string o.bu, .string o.cu, .string o.fr, .string o.tt, .int .i64 o.term, .slice o.la o.ln o.lc] 33))
  have HR1 := Lib.hid (rd_take (k := k) hr)
  have HR2 := Lib.hid (rd_drop hr hn hcap hkn)
  have HO := Lib.hid hO
  clear hr hT hok hn ho hO hz hl1 hl2 hk1 hk2 hkn
  unfold Ord.v at HL0 HL HL1 HL2 ⊢
  generalize landT o [] + landC o [] = N0 at *
  generalize landE o [] = E0 at *
  generalize landT o (L.take k) + landC o (L.take k) = N1 at *
  generalize landE o (L.take k) = E1 at *
  generalize landT o (L.drop k) + landC o (L.drop k) = N2 at *
  generalize landE o (L.drop k) = E2 at *
  generalize landE o L = E at *
  have t4 : (E != 0) = true := by simpa using he
  have HEe := Lib.hid he
  clear he
  have HL0 := Lib.hid HL0
  have HL := Lib.hid HL
  have HL1 := Lib.hid HL1
  have HL2 := Lib.hid HL2
  by_cases hck : c = k
  · obtain rfl : n = k := by omega
    obtain rfl : n = c := by omega
    rw [if_pos rfl] at HR2
    have h2 := HL2.out
    simp only [Nat.sub_self] at h2
    have HL2 := Lib.hid h2
    clear h2 hck
    go_enter Tryd.func6, Tryd.ntmps6
    go_wp2_with fail
    refine (c_awake20 _ (HT.out.below HB0.out)).mono ?_
    rintro e w1 ⟨rfl, hbx⟩
    have HB1 := Lib.hid (HB0.out.trans (hbx.mono HB0.out.size))
    have BK1 := Lib.hid (BK.out.below hbx BK.out.lt)
    clear hbx
    have k0 := BK1.out.cell 0 rfl
    have k1 := BK1.out.cell 1 rfl
    have k2 := BK1.out.cell 2 rfl
    have k3 := BK1.out.cell 3 rfl
    have k4 := BK1.out.cell 4 rfl
    have k5 := BK1.out.cell 5 rfl
    have k6 := BK1.out.cell 6 rfl
    have k7 := BK1.out.cell 7 rfl
    go_wp2_with fail
    refine (HL0.out _ (HO.out.below HB1.out) (HT.out.below HB1.out)).mono ?_
    rintro e w2 ⟨rfl, hbx⟩
    have HB2 := Lib.hid (HB1.out.trans (hbx.mono HB1.out.size))
    have BK2 := Lib.hid (BK1.out.below hbx BK1.out.lt)
    clear hbx
    clear k0 k1 k2 k3 k4 k5 k6 k7
    have k0 := BK2.out.cell 0 rfl
    have k1 := BK2.out.cell 1 rfl
    have k2 := BK2.out.cell 2 rfl
    have k3 := BK2.out.cell 3 rfl
    have k4 := BK2.out.cell 4 rfl
    have k5 := BK2.out.cell 5 rfl
    have k6 := BK2.out.cell 6 rfl
    have k7 := BK2.out.cell 7 rfl
    go_wp2_with fail
    refine (HL.out _ (HO.out.below HB2.out) (HR.out.below HB2.out) (HT.out.below HB2.out)).mono ?_
    rintro e w3 ⟨rfl, hbx⟩
    have HB3 := Lib.hid (HB2.out.trans (hbx.mono HB2.out.size))
    have BK3 := Lib.hid (BK2.out.below hbx BK2.out.lt)
    clear hbx
    clear k0 k1 k2 k3 k4 k5 k6 k7
    have k0 := BK3.out.cell 0 rfl
    have k1 := BK3.out.cell 1 rfl
    have k2 := BK3.out.cell 2 rfl
    have k3 := BK3.out.cell 3 rfl
    have k4 := BK3.out.cell 4 rfl
    have k5 := BK3.out.cell 5 rfl
    have k6 := BK3.out.cell 6 rfl
    have k7 := BK3.out.cell 7 rfl
    go_wp2
    go_region_held3 (fun wx => wx.cell? ⟨w.heap.size, 0, none⟩ = some (.string o.nu) ∧ wx.cell? ⟨w.heap.size, 1, none⟩ = some (.string o.se) ∧ wx.cell? ⟨w.heap.size, 2, none⟩ = some (.string o.bu) ∧ wx.cell? ⟨w.heap.size, 3, none⟩ = some (.string o.cu) ∧ wx.cell? ⟨w.heap.size, 4, none⟩ = some (.string o.fr) ∧ wx.cell? ⟨w.heap.size, 5, none⟩ = some (.string o.tt) ∧ wx.cell? ⟨w.heap.size, 6, none⟩ = some (.int .i64 o.term) ∧ wx.cell? ⟨w.heap.size, 7, none⟩ = some (.slice o.la o.ln o.lc)) (go_keep) ((go_at_call 15; (with_reducible refine (HL1.out _ (HO.out.below HB3.out.drew) (HR1.out.below HB3.out.drew) (HT.out.below HB3.out.drew)).mono ?_); rintro e w4 ⟨rfl, hbx⟩; have HB4 := Lib.hid (HB3.out.drew.trans (hbx.mono HB3.out.drew.size)); have BK4 := Lib.hid (BK3.out.drew.below hbx BK3.out.drew.lt); have j0 := BK4.out.cell 0 rfl; have j1 := BK4.out.cell 1 rfl; have j2 := BK4.out.cell 2 rfl; have j3 := BK4.out.cell 3 rfl; have j4 := BK4.out.cell 4 rfl; have j5 := BK4.out.cell 5 rfl; have j6 := BK4.out.cell 6 rfl; have j7 := BK4.out.cell 7 rfl; clear hbx))
    clear k0 k1 k2 k3 k4 k5 k6 k7
    have k0 := j0
    have k1 := j1
    have k2 := j2
    have k3 := j3
    have k4 := j4
    have k5 := j5
    have k6 := j6
    have k7 := j7
    clear j0 j1 j2 j3 j4 j5 j6 j7
    go_wp2
    go_region_held3 (fun wx => wx.cell? ⟨w.heap.size, 0, none⟩ = some (.string o.nu) ∧ wx.cell? ⟨w.heap.size, 1, none⟩ = some (.string o.se) ∧ wx.cell? ⟨w.heap.size, 2, none⟩ = some (.string o.bu) ∧ wx.cell? ⟨w.heap.size, 3, none⟩ = some (.string o.cu) ∧ wx.cell? ⟨w.heap.size, 4, none⟩ = some (.string o.fr) ∧ wx.cell? ⟨w.heap.size, 5, none⟩ = some (.string o.tt) ∧ wx.cell? ⟨w.heap.size, 6, none⟩ = some (.int .i64 o.term) ∧ wx.cell? ⟨w.heap.size, 7, none⟩ = some (.slice o.la o.ln o.lc)) (go_keep) ((go_at_call 15; (with_reducible refine (HL2.out _ _ (HO.out.below HB4.out.drew) (HR2.out.below HB4.out.drew) (HT.out.below HB4.out.drew)).mono ?_); rintro e w5 ⟨rfl, hbx⟩; have HB5 := Lib.hid (HB4.out.drew.trans (hbx.mono HB4.out.drew.size)); have BK5 := Lib.hid (BK4.out.drew.below hbx BK4.out.drew.lt); have j0 := BK5.out.cell 0 rfl; have j1 := BK5.out.cell 1 rfl; have j2 := BK5.out.cell 2 rfl; have j3 := BK5.out.cell 3 rfl; have j4 := BK5.out.cell 4 rfl; have j5 := BK5.out.cell 5 rfl; have j6 := BK5.out.cell 6 rfl; have j7 := BK5.out.cell 7 rfl; clear hbx))
    clear k0 k1 k2 k3 k4 k5 k6 k7
    have k0 := j0
    have k1 := j1
    have k2 := j2
    have k3 := j3
    have k4 := j4
    have k5 := j5
    have k6 := j6
    have k7 := j7
    clear j0 j1 j2 j3 j4 j5 j6 j7
    go_wp2
    all_goals
      go_ret
      exact ⟨rfl, HB5.out⟩
  · rw [if_neg hck] at HR2
    go_enter Tryd.func6, Tryd.ntmps6
    go_wp2_with fail
    refine (c_awake20 _ (HT.out.below HB0.out)).mono ?_
    rintro e w1 ⟨rfl, hbx⟩
    have HB1 := Lib.hid (HB0.out.trans (hbx.mono HB0.out.size))
    have BK1 := Lib.hid (BK.out.below hbx BK.out.lt)
    clear hbx
    have k0 := BK1.out.cell 0 rfl
    have k1 := BK1.out.cell 1 rfl
    have k2 := BK1.out.cell 2 rfl
    have k3 := BK1.out.cell 3 rfl
    have k4 := BK1.out.cell 4 rfl
    have k5 := BK1.out.cell 5 rfl
    have k6 := BK1.out.cell 6 rfl
    have k7 := BK1.out.cell 7 rfl
    go_wp2_with fail
    refine (HL0.out _ (HO.out.below HB1.out) (HT.out.below HB1.out)).mono ?_
    rintro e w2 ⟨rfl, hbx⟩
    have HB2 := Lib.hid (HB1.out.trans (hbx.mono HB1.out.size))
    have BK2 := Lib.hid (BK1.out.below hbx BK1.out.lt)
    clear hbx
    clear k0 k1 k2 k3 k4 k5 k6 k7
    have k0 := BK2.out.cell 0 rfl
    have k1 := BK2.out.cell 1 rfl
    have k2 := BK2.out.cell 2 rfl
    have k3 := BK2.out.cell 3 rfl
    have k4 := BK2.out.cell 4 rfl
    have k5 := BK2.out.cell 5 rfl
    have k6 := BK2.out.cell 6 rfl
    have k7 := BK2.out.cell 7 rfl
    go_wp2_with fail
    refine (HL.out _ (HO.out.below HB2.out) (HR.out.below HB2.out) (HT.out.below HB2.out)).mono ?_
    rintro e w3 ⟨rfl, hbx⟩
    have HB3 := Lib.hid (HB2.out.trans (hbx.mono HB2.out.size))
    have BK3 := Lib.hid (BK2.out.below hbx BK2.out.lt)
    clear hbx
    clear k0 k1 k2 k3 k4 k5 k6 k7
    have k0 := BK3.out.cell 0 rfl
    have k1 := BK3.out.cell 1 rfl
    have k2 := BK3.out.cell 2 rfl
    have k3 := BK3.out.cell 3 rfl
    have k4 := BK3.out.cell 4 rfl
    have k5 := BK3.out.cell 5 rfl
    have k6 := BK3.out.cell 6 rfl
    have k7 := BK3.out.cell 7 rfl
    go_wp2
    go_region_held3 (fun wx => wx.cell? ⟨w.heap.size, 0, none⟩ = some (.string o.nu) ∧ wx.cell? ⟨w.heap.size, 1, none⟩ = some (.string o.se) ∧ wx.cell? ⟨w.heap.size, 2, none⟩ = some (.string o.bu) ∧ wx.cell? ⟨w.heap.size, 3, none⟩ = some (.string o.cu) ∧ wx.cell? ⟨w.heap.size, 4, none⟩ = some (.string o.fr) ∧ wx.cell? ⟨w.heap.size, 5, none⟩ = some (.string o.tt) ∧ wx.cell? ⟨w.heap.size, 6, none⟩ = some (.int .i64 o.term) ∧ wx.cell? ⟨w.heap.size, 7, none⟩ = some (.slice o.la o.ln o.lc)) (go_keep) ((go_at_call 15; (with_reducible refine (HL1.out _ (HO.out.below HB3.out.drew) (HR1.out.below HB3.out.drew) (HT.out.below HB3.out.drew)).mono ?_); rintro e w4 ⟨rfl, hbx⟩; have HB4 := Lib.hid (HB3.out.drew.trans (hbx.mono HB3.out.drew.size)); have BK4 := Lib.hid (BK3.out.drew.below hbx BK3.out.drew.lt); have j0 := BK4.out.cell 0 rfl; have j1 := BK4.out.cell 1 rfl; have j2 := BK4.out.cell 2 rfl; have j3 := BK4.out.cell 3 rfl; have j4 := BK4.out.cell 4 rfl; have j5 := BK4.out.cell 5 rfl; have j6 := BK4.out.cell 6 rfl; have j7 := BK4.out.cell 7 rfl; clear hbx))
    clear k0 k1 k2 k3 k4 k5 k6 k7
    have k0 := j0
    have k1 := j1
    have k2 := j2
    have k3 := j3
    have k4 := j4
    have k5 := j5
    have k6 := j6
    have k7 := j7
    clear j0 j1 j2 j3 j4 j5 j6 j7
    go_wp2
    go_region_held3 (fun wx => wx.cell? ⟨w.heap.size, 0, none⟩ = some (.string o.nu) ∧ wx.cell? ⟨w.heap.size, 1, none⟩ = some (.string o.se) ∧ wx.cell? ⟨w.heap.size, 2, none⟩ = some (.string o.bu) ∧ wx.cell? ⟨w.heap.size, 3, none⟩ = some (.string o.cu) ∧ wx.cell? ⟨w.heap.size, 4, none⟩ = some (.string o.fr) ∧ wx.cell? ⟨w.heap.size, 5, none⟩ = some (.string o.tt) ∧ wx.cell? ⟨w.heap.size, 6, none⟩ = some (.int .i64 o.term) ∧ wx.cell? ⟨w.heap.size, 7, none⟩ = some (.slice o.la o.ln o.lc)) (go_keep) ((go_at_call 15; (with_reducible refine (HL2.out _ _ (HO.out.below HB4.out.drew) (HR2.out.below HB4.out.drew) (HT.out.below HB4.out.drew)).mono ?_); rintro e w5 ⟨rfl, hbx⟩; have HB5 := Lib.hid (HB4.out.drew.trans (hbx.mono HB4.out.drew.size)); have BK5 := Lib.hid (BK4.out.drew.below hbx BK4.out.drew.lt); have j0 := BK5.out.cell 0 rfl; have j1 := BK5.out.cell 1 rfl; have j2 := BK5.out.cell 2 rfl; have j3 := BK5.out.cell 3 rfl; have j4 := BK5.out.cell 4 rfl; have j5 := BK5.out.cell 5 rfl; have j6 := BK5.out.cell 6 rfl; have j7 := BK5.out.cell 7 rfl; clear hbx))
    clear k0 k1 k2 k3 k4 k5 k6 k7
    have k0 := j0
    have k1 := j1
    have k2 := j2
    have k3 := j3
    have k4 := j4
    have k5 := j5
    have k6 := j6
    have k7 := j7
    clear j0 j1 j2 j3 j4 j5 j6 j7
    go_wp2
    all_goals
      go_ret
      exact ⟨rfl, HB5.out⟩

set_option maxRecDepth 100000 in
set_option maxHeartbeats 6400000 in
theorem l_cadds_ok (o : Ord) (a : Option Addr) (n c : Nat) (L : List Cst) (q : Int) (w : World) (ho : o.ln ≤ 1048576 → OrdOk w o) (hn : L.length = n) (hm : n ≤ 9223372036854775807) (hr : Rd w a (flat cC L)) (hok : ∀ x ∈ L, CstOk x) (hT : Tab w) (hcap : n ≤ c) (hq0 : 0 ≤ q) (hq1 : q ≤ 255) (hs : n ≤ 60) (hfew : o.ln ≤ 70) (he : landE o L = 0) :
    Calls Tryd.prog 6 #[o.v, .slice a n c, .int .u8 q] w fun e w' => e = .returned (.bool true) ∧ Below w.heap.size w w' := by
  have hO : OrdOk w o := ho (by omega)
  have hlni : (o.ln : Int) ≤ 70 := by omega
  obtain ⟨k, hk⟩ : ∃ k : Nat, q % ((n : Int) + 1) = k := ⟨(q % ((n : Int) + 1)).toNat, by have := Int.emod_nonneg q (show ((n : Int) + 1) ≠ 0 by omega); omega⟩
  have hkn : k ≤ n := by have := Int.emod_lt_of_pos q (show (0 : Int) < (n : Int) + 1 by omega); omega
  have hkt : Int.tmod q ((n : Int) + 1) = k := by rw [Int.tmod_eq_emod_of_nonneg hq0]; exact hk
  have e9 : IntKind.i64.wrap ((n : Int) + 1) = (n : Int) + 1 := IntWalk.i64_in _ (by omega)
  have hkc : k ≤ c := by omega
  have hkci : (k : Int) ≤ c := by omega
  have hkni : (k : Int) ≤ n := by omega
  have hl1 : (L.take k).length = k := by rw [List.length_take]; omega
  have hl2 : (L.drop k).length = n - k := by rw [List.length_drop, hn]
  have hk1 : ∀ x ∈ L.take k, CstOk x := fun x hx => hok x (List.mem_of_mem_take hx)
  have hk2 : ∀ x ∈ L.drop k, CstOk x := fun x hx => hok x (List.mem_of_mem_drop hx)
  have HL0 := fun w ho hT => c_landed o none 0 0 [] w ho rfl (by omega) (Rd.nil _ _) (fun x hx => by cases hx) hT
  have HL := fun w ho hr hT => c_landed o a n c L w ho hn hm hr hok hT
  have HL1 := fun w ho hr hT => c_landed o a k c (L.take k) w ho hl1 (by omega) hr hk1 hT
  have HL2 := fun A w ho hr hT => c_landed o A (n - k) (c - k) (L.drop k) w ho hl2 (by omega) hr hk2 hT
  have hE := he
  rw [← List.take_append_drop k L] at hE
  obtain ⟨ea, eb, hcc, ht0, ht1, ht2⟩ := land_app hE
  have htwo := fun j (hj : j < o.L.length) => each_two hE j hj
  rw [List.take_append_drop] at hcc ht0 htwo
  obtain ⟨z1, z2, z3⟩ := land_nil (landE_zero he).1
  rw [z1, z2, z3] at HL0
  rw [he, ht0, hcc] at HL
  rw [ea, ht1] at HL1
  rw [eb, ht2] at HL2
  have HE0 := fun w ho hr hT => c_each o a n c L w ho hn hm hr hok hT he
  have HE1 := fun w ho hr hT => c_each o a k c (L.take k) w ho hl1 (by omega) hr hk1 hT ea
  have HE2 := fun A w ho hr hT => c_each o A (n - k) (c - k) (L.drop k) w ho hl2 (by omega) hr hk2 hT eb
  unfold EachOk at HE0 HE1 HE2
  obtain ⟨xl, -, xk⟩ := each_facts he
  obtain ⟨yl, -, yk⟩ := each_facts ea
  obtain ⟨zl, -, zk⟩ := each_facts eb
  obtain ⟨-, -, -, -, c0a, c1a⟩ := landE_zero ea
  obtain ⟨-, -, -, -, c0b, c1b⟩ := landE_zero eb
  obtain ⟨hmy, t0, t1, t2⟩ := totE_zero (landE_zero he).1
  obtain ⟨hf, -, -⟩ := linesB_facts (Ord.may_lines hmy)
  have t3 : 0 ≤ totN o ∧ totN o ≤ 1099511627776 := by omega
  obtain ⟨t3a, t3b⟩ := t3
  rw [hO.hl] at xl yl zl xk yk zk htwo
  have HR := Lib.hid hr
  have HT := Lib.hid hT
  have BK := Lib.hid (Blk.new w 33 #[.string o.nu, .string o.se, .string o.bu, .string o.cu, .string o.fr, .string o.tt, .int .i64 o.term, .slice o.la o.ln o.lc])
  have HB0 := Lib.hid ((Below.refl w.heap.size w).alloc (Nat.le_refl _) (.cells #[.string o.nu, .string o.se, .string o.bu, .string o.cu, .string o.fr, .string o.tt, .int .i64 o.term, .slice o.la o.ln o.lc] 33))
  have HR1 := Lib.hid (rd_take (k := k) hr)
  have HR2 := Lib.hid (rd_drop hr hn hcap hkn)
  have HO := Lib.hid hO
  have HF := Lib.hid hf
  have HLn := Lib.hid hO.hl
  clear hr hT hok hn ho hO hl1 hl2 hk1 hk2 he hE ea eb z1 z2 z3 ht0 ht1 ht2 hcc hmy t0 t1 t2 hf
  unfold Ord.v at HL0 HL HL1 HL2 HE0 HE1 HE2 ⊢
  generalize eachP o L = X at *
  generalize eachP o (L.take k) = Y at *
  generalize eachP o (L.drop k) = Z at *
  generalize landC o (L.take k) = C1 at *
  generalize landC o (L.drop k) = C2 at *
  generalize totN o = T at *
  have w1' : IntKind.i64.wrap (T + (C1 + C2) - T) = C1 + C2 := by rw [show T + (C1 + C2) - T = C1 + C2 by omega]; exact IntWalk.i64_in _ (by omega)
  have w2' : IntKind.i64.wrap (T + C1 - T) = C1 := by rw [show T + C1 - T = C1 by omega]; exact IntWalk.i64_in _ (by omega)
  have w3' : IntKind.i64.wrap (C1 + (T + C2)) = C1 + (T + C2) := IntWalk.i64_in _ (by omega)
  have w4' : IntKind.i64.wrap (C1 + (T + C2) - T) = C1 + C2 := by rw [show C1 + (T + C2) - T = C1 + C2 by omega]; exact IntWalk.i64_in _ (by omega)
  have w0' : T + 0 = T := by omega
  rw [w0'] at HL0
  have HXl := Lib.hid xl
  have HYl := Lib.hid yl
  have HZl := Lib.hid zl
  have HXk := Lib.hid xk
  have HYk := Lib.hid yk
  have HZk := Lib.hid zk
  have HTwo := Lib.hid htwo
  clear xl yl zl xk yk zk htwo w0'
  have HL0 := Lib.hid HL0
  have HL := Lib.hid HL
  have HL1 := Lib.hid HL1
  have HL2 := Lib.hid HL2
  have HE0 := Lib.hid HE0
  have HE1 := Lib.hid HE1
  have HE2 := Lib.hid HE2
  by_cases hck : c = k
  · obtain rfl : n = k := by omega
    obtain rfl : n = c := by omega
    rw [if_pos rfl] at HR2
    have h2 := HL2.out
    simp only [Nat.sub_self] at h2
    have HL2 := Lib.hid h2
    clear h2 hck
    have h2 := HE2.out
    simp only [Nat.sub_self] at h2
    have HE2 := Lib.hid h2
    clear h2
    go_enter Tryd.func6, Tryd.ntmps6
    go_wp2_with fail
    refine (c_awake20 _ (HT.out.below HB0.out)).mono ?_
    rintro e w1 ⟨rfl, hbx⟩
    have HB1 := Lib.hid (HB0.out.trans (hbx.mono HB0.out.size))
    have BK1 := Lib.hid (BK.out.below hbx BK.out.lt)
    clear hbx
    have k0 := BK1.out.cell 0 rfl
    have k1 := BK1.out.cell 1 rfl
    have k2 := BK1.out.cell 2 rfl
    have k3 := BK1.out.cell 3 rfl
    have k4 := BK1.out.cell 4 rfl
    have k5 := BK1.out.cell 5 rfl
    have k6 := BK1.out.cell 6 rfl
    have k7 := BK1.out.cell 7 rfl
    go_wp2_with fail
    refine (HL0.out _ (HO.out.below HB1.out) (HT.out.below HB1.out)).mono ?_
    rintro e w2 ⟨rfl, hbx⟩
    have HB2 := Lib.hid (HB1.out.trans (hbx.mono HB1.out.size))
    have BK2 := Lib.hid (BK1.out.below hbx BK1.out.lt)
    clear hbx
    clear k0 k1 k2 k3 k4 k5 k6 k7
    have k0 := BK2.out.cell 0 rfl
    have k1 := BK2.out.cell 1 rfl
    have k2 := BK2.out.cell 2 rfl
    have k3 := BK2.out.cell 3 rfl
    have k4 := BK2.out.cell 4 rfl
    have k5 := BK2.out.cell 5 rfl
    have k6 := BK2.out.cell 6 rfl
    have k7 := BK2.out.cell 7 rfl
    go_wp2_with fail
    refine (HL.out _ (HO.out.below HB2.out) (HR.out.below HB2.out) (HT.out.below HB2.out)).mono ?_
    rintro e w3 ⟨rfl, hbx⟩
    have HB3 := Lib.hid (HB2.out.trans (hbx.mono HB2.out.size))
    have BK3 := Lib.hid (BK2.out.below hbx BK2.out.lt)
    clear hbx
    clear k0 k1 k2 k3 k4 k5 k6 k7
    have k0 := BK3.out.cell 0 rfl
    have k1 := BK3.out.cell 1 rfl
    have k2 := BK3.out.cell 2 rfl
    have k3 := BK3.out.cell 3 rfl
    have k4 := BK3.out.cell 4 rfl
    have k5 := BK3.out.cell 5 rfl
    have k6 := BK3.out.cell 6 rfl
    have k7 := BK3.out.cell 7 rfl
    go_wp2
    go_region_held3 (fun wx => wx.cell? ⟨w.heap.size, 0, none⟩ = some (.string o.nu) ∧ wx.cell? ⟨w.heap.size, 1, none⟩ = some (.string o.se) ∧ wx.cell? ⟨w.heap.size, 2, none⟩ = some (.string o.bu) ∧ wx.cell? ⟨w.heap.size, 3, none⟩ = some (.string o.cu) ∧ wx.cell? ⟨w.heap.size, 4, none⟩ = some (.string o.fr) ∧ wx.cell? ⟨w.heap.size, 5, none⟩ = some (.string o.tt) ∧ wx.cell? ⟨w.heap.size, 6, none⟩ = some (.int .i64 o.term) ∧ wx.cell? ⟨w.heap.size, 7, none⟩ = some (.slice o.la o.ln o.lc)) (go_keep) ((go_at_call 15; (with_reducible refine (HL1.out _ (HO.out.below HB3.out.drew) (HR1.out.below HB3.out.drew) (HT.out.below HB3.out.drew)).mono ?_); rintro e w4 ⟨rfl, hbx⟩; have HB4 := Lib.hid (HB3.out.drew.trans (hbx.mono HB3.out.drew.size)); have BK4 := Lib.hid (BK3.out.drew.below hbx BK3.out.drew.lt); have j0 := BK4.out.cell 0 rfl; have j1 := BK4.out.cell 1 rfl; have j2 := BK4.out.cell 2 rfl; have j3 := BK4.out.cell 3 rfl; have j4 := BK4.out.cell 4 rfl; have j5 := BK4.out.cell 5 rfl; have j6 := BK4.out.cell 6 rfl; have j7 := BK4.out.cell 7 rfl; clear hbx))
    clear k0 k1 k2 k3 k4 k5 k6 k7
    have k0 := j0
    have k1 := j1
    have k2 := j2
    have k3 := j3
    have k4 := j4
    have k5 := j5
    have k6 := j6
    have k7 := j7
    clear j0 j1 j2 j3 j4 j5 j6 j7
    go_wp2
    go_region_held3 (fun wx => wx.cell? ⟨w.heap.size, 0, none⟩ = some (.string o.nu) ∧ wx.cell? ⟨w.heap.size, 1, none⟩ = some (.string o.se) ∧ wx.cell? ⟨w.heap.size, 2, none⟩ = some (.string o.bu) ∧ wx.cell? ⟨w.heap.size, 3, none⟩ = some (.string o.cu) ∧ wx.cell? ⟨w.heap.size, 4, none⟩ = some (.string o.fr) ∧ wx.cell? ⟨w.heap.size, 5, none⟩ = some (.string o.tt) ∧ wx.cell? ⟨w.heap.size, 6, none⟩ = some (.int .i64 o.term) ∧ wx.cell? ⟨w.heap.size, 7, none⟩ = some (.slice o.la o.ln o.lc)) (go_keep) ((go_at_call 15; (with_reducible refine (HL2.out _ _ (HO.out.below HB4.out.drew) (HR2.out.below HB4.out.drew) (HT.out.below HB4.out.drew)).mono ?_); rintro e w5 ⟨rfl, hbx⟩; have HB5 := Lib.hid (HB4.out.drew.trans (hbx.mono HB4.out.drew.size)); have BK5 := Lib.hid (BK4.out.drew.below hbx BK4.out.drew.lt); have j0 := BK5.out.cell 0 rfl; have j1 := BK5.out.cell 1 rfl; have j2 := BK5.out.cell 2 rfl; have j3 := BK5.out.cell 3 rfl; have j4 := BK5.out.cell 4 rfl; have j5 := BK5.out.cell 5 rfl; have j6 := BK5.out.cell 6 rfl; have j7 := BK5.out.cell 7 rfl; clear hbx))
    clear k0 k1 k2 k3 k4 k5 k6 k7
    have k0 := j0
    have k1 := j1
    have k2 := j2
    have k3 := j3
    have k4 := j4
    have k5 := j5
    have k6 := j6
    have k7 := j7
    clear j0 j1 j2 j3 j4 j5 j6 j7
    go_wp2_with fail
    refine (HE0.out _ (HO.out.below HB5.out) (HR.out.below HB5.out) (HT.out.below HB5.out)).mono ?_
    rintro e w6 ⟨b0, t0, rfl, hl0, hbx, hblk⟩
    have HB6 := Lib.hid (HB5.out.trans (hbx.mono HB5.out.size))
    have BK6 := Lib.hid (BK5.out.below hbx BK5.out.lt)
    have BX := Lib.hid hblk
    clear hbx hblk hl0
    clear k0 k1 k2 k3 k4 k5 k6 k7
    have k0 := BK6.out.cell 0 rfl
    have k1 := BK6.out.cell 1 rfl
    have k2 := BK6.out.cell 2 rfl
    have k3 := BK6.out.cell 3 rfl
    have k4 := BK6.out.cell 4 rfl
    have k5 := BK6.out.cell 5 rfl
    have k6 := BK6.out.cell 6 rfl
    have k7 := BK6.out.cell 7 rfl
    go_wp2
    go_region_held3 (fun wx => wx.cell? ⟨w.heap.size, 0, none⟩ = some (.string o.nu) ∧ wx.cell? ⟨w.heap.size, 1, none⟩ = some (.string o.se) ∧ wx.cell? ⟨w.heap.size, 2, none⟩ = some (.string o.bu) ∧ wx.cell? ⟨w.heap.size, 3, none⟩ = some (.string o.cu) ∧ wx.cell? ⟨w.heap.size, 4, none⟩ = some (.string o.fr) ∧ wx.cell? ⟨w.heap.size, 5, none⟩ = some (.string o.tt) ∧ wx.cell? ⟨w.heap.size, 6, none⟩ = some (.int .i64 o.term) ∧ wx.cell? ⟨w.heap.size, 7, none⟩ = some (.slice o.la o.ln o.lc)) (go_keep) ((go_at_call 17; (with_reducible refine (HE1.out _ (HO.out.below HB6.out.drew) (HR1.out.below HB6.out.drew) (HT.out.below HB6.out.drew)).mono ?_); rintro e w7 ⟨b1, t1, rfl, hl1, hbx, hblk⟩; have HB7 := Lib.hid (HB6.out.drew.trans (hbx.mono HB6.out.drew.size)); have BK7 := Lib.hid (BK6.out.drew.below hbx BK6.out.drew.lt); have j0 := BK7.out.cell 0 rfl; have j1 := BK7.out.cell 1 rfl; have j2 := BK7.out.cell 2 rfl; have j3 := BK7.out.cell 3 rfl; have j4 := BK7.out.cell 4 rfl; have j5 := BK7.out.cell 5 rfl; have j6 := BK7.out.cell 6 rfl; have j7 := BK7.out.cell 7 rfl; have BX7 := Lib.hid (BX.out.drew.below hbx BX.out.drew.lt); have BY := Lib.hid hblk; clear hblk hl1; clear hbx))
    clear k0 k1 k2 k3 k4 k5 k6 k7
    have k0 := j0
    have k1 := j1
    have k2 := j2
    have k3 := j3
    have k4 := j4
    have k5 := j5
    have k6 := j6
    have k7 := j7
    clear j0 j1 j2 j3 j4 j5 j6 j7
    go_wp2
    go_region_held3 (fun wx => wx.cell? ⟨w.heap.size, 0, none⟩ = some (.string o.nu) ∧ wx.cell? ⟨w.heap.size, 1, none⟩ = some (.string o.se) ∧ wx.cell? ⟨w.heap.size, 2, none⟩ = some (.string o.bu) ∧ wx.cell? ⟨w.heap.size, 3, none⟩ = some (.string o.cu) ∧ wx.cell? ⟨w.heap.size, 4, none⟩ = some (.string o.fr) ∧ wx.cell? ⟨w.heap.size, 5, none⟩ = some (.string o.tt) ∧ wx.cell? ⟨w.heap.size, 6, none⟩ = some (.int .i64 o.term) ∧ wx.cell? ⟨w.heap.size, 7, none⟩ = some (.slice o.la o.ln o.lc)) (go_keep) ((go_at_call 17; (with_reducible refine (HE2.out _ _ (HO.out.below HB7.out.drew) (HR2.out.below HB7.out.drew) (HT.out.below HB7.out.drew)).mono ?_); rintro e w8 ⟨b2, t2, rfl, hl2, hbx, hblk⟩; have HB8 := Lib.hid (HB7.out.drew.trans (hbx.mono HB7.out.drew.size)); have BK8 := Lib.hid (BK7.out.drew.below hbx BK7.out.drew.lt); have j0 := BK8.out.cell 0 rfl; have j1 := BK8.out.cell 1 rfl; have j2 := BK8.out.cell 2 rfl; have j3 := BK8.out.cell 3 rfl; have j4 := BK8.out.cell 4 rfl; have j5 := BK8.out.cell 5 rfl; have j6 := BK8.out.cell 6 rfl; have j7 := BK8.out.cell 7 rfl; have BX8 := Lib.hid (BX7.out.drew.below hbx BX7.out.drew.lt); have BY8 := Lib.hid (BY.out.drew.below hbx BY.out.drew.lt); have BZ := Lib.hid hblk; clear hblk hl2; clear hbx))
    clear k0 k1 k2 k3 k4 k5 k6 k7
    have k0 := j0
    have k1 := j1
    have k2 := j2
    have k3 := j3
    have k4 := j4
    have k5 := j5
    have k6 := j6
    have k7 := j7
    clear j0 j1 j2 j3 j4 j5 j6 j7
    have HRl := Lib.hid (HO.out.hr.below HB8.out)
    clear k0 k1 k2 k3 k4 k5 k6 k7
    go_wp2
    go_loopw [144] (fun x wr => ∃ k : Nat, x = .int .i64 k ∧ k ≤ o.ln ∧ ∃ q, wr = w8.drewN q) (fun x _ => o.ln - (intOf x).toNat)
    case atStart => exact ⟨0, rfl, by omega, 0, rfl⟩
    case round =>
      obtain ⟨i, rfl, hi, q', rfl⟩ := hrel
      have k7 := (BK8.out.drewN q').cell 7 rfl
      have HWr := Lib.hid (fun nq => World.drewN_drewN w8 q' nq)
      have HBq := Lib.hid (below_drewN HB8.out q')
      by_cases hlt : i < o.ln
      · have hiL : i < o.L.length := by rw [HLn.out]; exact hlt
        obtain ⟨g1, off, hla, hg1, d0, d1, d2⟩ := line_at (HRl.out.drewN q') i hiL
        rw [hla] at k7
        clear hla
        have px := (BX8.out.drewN q').cell i (rowI_get .i64 X i (by rw [HXl.out]; exact hlt))
        have py := (BY8.out.drewN q').cell i (rowI_get .i64 Y i (by rw [HYl.out]; exact hlt))
        have pz := (BZ.out.drewN q').cell i (rowI_get .i64 Z i (by rw [HZl.out]; exact hlt))
        obtain ⟨r0, r1, r2⟩ := HXk.out i hlt
        obtain ⟨-, s1, s2⟩ := HYk.out i hlt
        obtain ⟨-, u1, u2⟩ := HZk.out i hlt
        obtain ⟨v1, v2⟩ := HTwo.out i hlt
        have ew : (o.L.map worth).getD i 0 = worth o.L[i] := by simp [List.getD_eq_getElem?_getD, hiL]
        rw [ew] at r0 r1 s1 u1 v1 v2
        obtain ⟨-, -, x0, x1⟩ := HF.out _ (List.getElem_mem hiL)
        clear ew
        generalize X.getD i 0 = xx at *
        generalize Y.getD i 0 = yy at *
        generalize Z.getD i 0 = zz at *
        generalize o.L[i] = p at *
        generalize w8.drewN q' = wr at *
        obtain ⟨pg, pn, pp⟩ := p
        unfold worth at r0 r1 s1 u1 v1 v2 x0 x1
        simp only at d0 d1 d2 r0 r1 s1 u1 v1 v2 x0 x1
        have hii : (i : Int) < o.ln := by omega
        have f0 : IntKind.i64.wrap (pn * pp) = pn * pp := IntWalk.i64_in _ (by omega)
        have f1 : IntKind.i64.wrap (xx - pn * pp) = xx - pn * pp := IntWalk.i64_in _ (by omega)
        have f2 : IntKind.i64.wrap (yy - pn * pp) = yy - pn * pp := IntWalk.i64_in _ (by omega)
        have f3 : IntKind.i64.wrap (zz - pn * pp) = zz - pn * pp := IntWalk.i64_in _ (by omega)
        have f4 : IntKind.i64.wrap (xx - pn * pp - (yy - pn * pp)) = xx - pn * pp - (yy - pn * pp) := IntWalk.i64_in _ (by omega)
        have f5 : IntKind.i64.wrap (xx - pn * pp - (yy - pn * pp) - (zz - pn * pp)) = xx - pn * pp - (yy - pn * pp) - (zz - pn * pp) := IntWalk.i64_in _ (by omega)
        have f6 : decide (xx - pn * pp - (yy - pn * pp) - (zz - pn * pp) < -2) = false := decide_eq_false (by omega)
        have f7 : decide (2 < xx - pn * pp - (yy - pn * pp) - (zz - pn * pp)) = false := decide_eq_false (by omega)
        go_wp2
        go_quiet (fail)
        go_wp2
        go_quiet (fail)
        go_wp2
        go_roundw
        case rel => exact ⟨i + 1, by go_num, by omega, _, (HWr.out _)⟩
        case measure => simp [intOf]; omega
      · obtain rfl : i = o.ln := by omega
        go_wp2
        go_ret
        exact ⟨rfl, HBq.out⟩
  · rw [if_neg hck] at HR2
    go_enter Tryd.func6, Tryd.ntmps6
    go_wp2_with fail
    refine (c_awake20 _ (HT.out.below HB0.out)).mono ?_
    rintro e w1 ⟨rfl, hbx⟩
    have HB1 := Lib.hid (HB0.out.trans (hbx.mono HB0.out.size))
    have BK1 := Lib.hid (BK.out.below hbx BK.out.lt)
    clear hbx
    have k0 := BK1.out.cell 0 rfl
    have k1 := BK1.out.cell 1 rfl
    have k2 := BK1.out.cell 2 rfl
    have k3 := BK1.out.cell 3 rfl
    have k4 := BK1.out.cell 4 rfl
    have k5 := BK1.out.cell 5 rfl
    have k6 := BK1.out.cell 6 rfl
    have k7 := BK1.out.cell 7 rfl
    go_wp2_with fail
    refine (HL0.out _ (HO.out.below HB1.out) (HT.out.below HB1.out)).mono ?_
    rintro e w2 ⟨rfl, hbx⟩
    have HB2 := Lib.hid (HB1.out.trans (hbx.mono HB1.out.size))
    have BK2 := Lib.hid (BK1.out.below hbx BK1.out.lt)
    clear hbx
    clear k0 k1 k2 k3 k4 k5 k6 k7
    have k0 := BK2.out.cell 0 rfl
    have k1 := BK2.out.cell 1 rfl
    have k2 := BK2.out.cell 2 rfl
    have k3 := BK2.out.cell 3 rfl
    have k4 := BK2.out.cell 4 rfl
    have k5 := BK2.out.cell 5 rfl
    have k6 := BK2.out.cell 6 rfl
    have k7 := BK2.out.cell 7 rfl
    go_wp2_with fail
    refine (HL.out _ (HO.out.below HB2.out) (HR.out.below HB2.out) (HT.out.below HB2.out)).mono ?_
    rintro e w3 ⟨rfl, hbx⟩
    have HB3 := Lib.hid (HB2.out.trans (hbx.mono HB2.out.size))
    have BK3 := Lib.hid (BK2.out.below hbx BK2.out.lt)
    clear hbx
    clear k0 k1 k2 k3 k4 k5 k6 k7
    have k0 := BK3.out.cell 0 rfl
    have k1 := BK3.out.cell 1 rfl
    have k2 := BK3.out.cell 2 rfl
    have k3 := BK3.out.cell 3 rfl
    have k4 := BK3.out.cell 4 rfl
    have k5 := BK3.out.cell 5 rfl
    have k6 := BK3.out.cell 6 rfl
    have k7 := BK3.out.cell 7 rfl
    go_wp2
    go_region_held3 (fun wx => wx.cell? ⟨w.heap.size, 0, none⟩ = some (.string o.nu) ∧ wx.cell? ⟨w.heap.size, 1, none⟩ = some (.string o.se) ∧ wx.cell? ⟨w.heap.size, 2, none⟩ = some (.string o.bu) ∧ wx.cell? ⟨w.heap.size, 3, none⟩ = some (.string o.cu) ∧ wx.cell? ⟨w.heap.size, 4, none⟩ = some (.string o.fr) ∧ wx.cell? ⟨w.heap.size, 5, none⟩ = some (.string o.tt) ∧ wx.cell? ⟨w.heap.size, 6, none⟩ = some (.int .i64 o.term) ∧ wx.cell? ⟨w.heap.size, 7, none⟩ = some (.slice o.la o.ln o.lc)) (go_keep) ((go_at_call 15; (with_reducible refine (HL1.out _ (HO.out.below HB3.out.drew) (HR1.out.below HB3.out.drew) (HT.out.below HB3.out.drew)).mono ?_); rintro e w4 ⟨rfl, hbx⟩; have HB4 := Lib.hid (HB3.out.drew.trans (hbx.mono HB3.out.drew.size)); have BK4 := Lib.hid (BK3.out.drew.below hbx BK3.out.drew.lt); have j0 := BK4.out.cell 0 rfl; have j1 := BK4.out.cell 1 rfl; have j2 := BK4.out.cell 2 rfl; have j3 := BK4.out.cell 3 rfl; have j4 := BK4.out.cell 4 rfl; have j5 := BK4.out.cell 5 rfl; have j6 := BK4.out.cell 6 rfl; have j7 := BK4.out.cell 7 rfl; clear hbx))
    clear k0 k1 k2 k3 k4 k5 k6 k7
    have k0 := j0
    have k1 := j1
    have k2 := j2
    have k3 := j3
    have k4 := j4
    have k5 := j5
    have k6 := j6
    have k7 := j7
    clear j0 j1 j2 j3 j4 j5 j6 j7
    go_wp2
    go_region_held3 (fun wx => wx.cell? ⟨w.heap.size, 0, none⟩ = some (.string o.nu) ∧ wx.cell? ⟨w.heap.size, 1, none⟩ = some (.string o.se) ∧ wx.cell? ⟨w.heap.size, 2, none⟩ = some (.string o.bu) ∧ wx.cell? ⟨w.heap.size, 3, none⟩ = some (.string o.cu) ∧ wx.cell? ⟨w.heap.size, 4, none⟩ = some (.string o.fr) ∧ wx.cell? ⟨w.heap.size, 5, none⟩ = some (.string o.tt) ∧ wx.cell? ⟨w.heap.size, 6, none⟩ = some (.int .i64 o.term) ∧ wx.cell? ⟨w.heap.size, 7, none⟩ = some (.slice o.la o.ln o.lc)) (go_keep) ((go_at_call 15; (with_reducible refine (HL2.out _ _ (HO.out.below HB4.out.drew) (HR2.out.below HB4.out.drew) (HT.out.below HB4.out.drew)).mono ?_); rintro e w5 ⟨rfl, hbx⟩; have HB5 := Lib.hid (HB4.out.drew.trans (hbx.mono HB4.out.drew.size)); have BK5 := Lib.hid (BK4.out.drew.below hbx BK4.out.drew.lt); have j0 := BK5.out.cell 0 rfl; have j1 := BK5.out.cell 1 rfl; have j2 := BK5.out.cell 2 rfl; have j3 := BK5.out.cell 3 rfl; have j4 := BK5.out.cell 4 rfl; have j5 := BK5.out.cell 5 rfl; have j6 := BK5.out.cell 6 rfl; have j7 := BK5.out.cell 7 rfl; clear hbx))
    clear k0 k1 k2 k3 k4 k5 k6 k7
    have k0 := j0
    have k1 := j1
    have k2 := j2
    have k3 := j3
    have k4 := j4
    have k5 := j5
    have k6 := j6
    have k7 := j7
    clear j0 j1 j2 j3 j4 j5 j6 j7
    go_wp2_with fail
    refine (HE0.out _ (HO.out.below HB5.out) (HR.out.below HB5.out) (HT.out.below HB5.out)).mono ?_
    rintro e w6 ⟨b0, t0, rfl, hl0, hbx, hblk⟩
    have HB6 := Lib.hid (HB5.out.trans (hbx.mono HB5.out.size))
    have BK6 := Lib.hid (BK5.out.below hbx BK5.out.lt)
    have BX := Lib.hid hblk
    clear hbx hblk hl0
    clear k0 k1 k2 k3 k4 k5 k6 k7
    have k0 := BK6.out.cell 0 rfl
    have k1 := BK6.out.cell 1 rfl
    have k2 := BK6.out.cell 2 rfl
    have k3 := BK6.out.cell 3 rfl
    have k4 := BK6.out.cell 4 rfl
    have k5 := BK6.out.cell 5 rfl
    have k6 := BK6.out.cell 6 rfl
    have k7 := BK6.out.cell 7 rfl
    go_wp2
    go_region_held3 (fun wx => wx.cell? ⟨w.heap.size, 0, none⟩ = some (.string o.nu) ∧ wx.cell? ⟨w.heap.size, 1, none⟩ = some (.string o.se) ∧ wx.cell? ⟨w.heap.size, 2, none⟩ = some (.string o.bu) ∧ wx.cell? ⟨w.heap.size, 3, none⟩ = some (.string o.cu) ∧ wx.cell? ⟨w.heap.size, 4, none⟩ = some (.string o.fr) ∧ wx.cell? ⟨w.heap.size, 5, none⟩ = some (.string o.tt) ∧ wx.cell? ⟨w.heap.size, 6, none⟩ = some (.int .i64 o.term) ∧ wx.cell? ⟨w.heap.size, 7, none⟩ = some (.slice o.la o.ln o.lc)) (go_keep) ((go_at_call 17; (with_reducible refine (HE1.out _ (HO.out.below HB6.out.drew) (HR1.out.below HB6.out.drew) (HT.out.below HB6.out.drew)).mono ?_); rintro e w7 ⟨b1, t1, rfl, hl1, hbx, hblk⟩; have HB7 := Lib.hid (HB6.out.drew.trans (hbx.mono HB6.out.drew.size)); have BK7 := Lib.hid (BK6.out.drew.below hbx BK6.out.drew.lt); have j0 := BK7.out.cell 0 rfl; have j1 := BK7.out.cell 1 rfl; have j2 := BK7.out.cell 2 rfl; have j3 := BK7.out.cell 3 rfl; have j4 := BK7.out.cell 4 rfl; have j5 := BK7.out.cell 5 rfl; have j6 := BK7.out.cell 6 rfl; have j7 := BK7.out.cell 7 rfl; have BX7 := Lib.hid (BX.out.drew.below hbx BX.out.drew.lt); have BY := Lib.hid hblk; clear hblk hl1; clear hbx))
    clear k0 k1 k2 k3 k4 k5 k6 k7
    have k0 := j0
    have k1 := j1
    have k2 := j2
    have k3 := j3
    have k4 := j4
    have k5 := j5
    have k6 := j6
    have k7 := j7
    clear j0 j1 j2 j3 j4 j5 j6 j7
    go_wp2
    go_region_held3 (fun wx => wx.cell? ⟨w.heap.size, 0, none⟩ = some (.string o.nu) ∧ wx.cell? ⟨w.heap.size, 1, none⟩ = some (.string o.se) ∧ wx.cell? ⟨w.heap.size, 2, none⟩ = some (.string o.bu) ∧ wx.cell? ⟨w.heap.size, 3, none⟩ = some (.string o.cu) ∧ wx.cell? ⟨w.heap.size, 4, none⟩ = some (.string o.fr) ∧ wx.cell? ⟨w.heap.size, 5, none⟩ = some (.string o.tt) ∧ wx.cell? ⟨w.heap.size, 6, none⟩ = some (.int .i64 o.term) ∧ wx.cell? ⟨w.heap.size, 7, none⟩ = some (.slice o.la o.ln o.lc)) (go_keep) ((go_at_call 17; (with_reducible refine (HE2.out _ _ (HO.out.below HB7.out.drew) (HR2.out.below HB7.out.drew) (HT.out.below HB7.out.drew)).mono ?_); rintro e w8 ⟨b2, t2, rfl, hl2, hbx, hblk⟩; have HB8 := Lib.hid (HB7.out.drew.trans (hbx.mono HB7.out.drew.size)); have BK8 := Lib.hid (BK7.out.drew.below hbx BK7.out.drew.lt); have j0 := BK8.out.cell 0 rfl; have j1 := BK8.out.cell 1 rfl; have j2 := BK8.out.cell 2 rfl; have j3 := BK8.out.cell 3 rfl; have j4 := BK8.out.cell 4 rfl; have j5 := BK8.out.cell 5 rfl; have j6 := BK8.out.cell 6 rfl; have j7 := BK8.out.cell 7 rfl; have BX8 := Lib.hid (BX7.out.drew.below hbx BX7.out.drew.lt); have BY8 := Lib.hid (BY.out.drew.below hbx BY.out.drew.lt); have BZ := Lib.hid hblk; clear hblk hl2; clear hbx))
    clear k0 k1 k2 k3 k4 k5 k6 k7
    have k0 := j0
    have k1 := j1
    have k2 := j2
    have k3 := j3
    have k4 := j4
    have k5 := j5
    have k6 := j6
    have k7 := j7
    clear j0 j1 j2 j3 j4 j5 j6 j7
    have HRl := Lib.hid (HO.out.hr.below HB8.out)
    clear k0 k1 k2 k3 k4 k5 k6 k7
    go_wp2
    go_loopw [144] (fun x wr => ∃ k : Nat, x = .int .i64 k ∧ k ≤ o.ln ∧ ∃ q, wr = w8.drewN q) (fun x _ => o.ln - (intOf x).toNat)
    case atStart => exact ⟨0, rfl, by omega, 0, rfl⟩
    case round =>
      obtain ⟨i, rfl, hi, q', rfl⟩ := hrel
      have k7 := (BK8.out.drewN q').cell 7 rfl
      have HWr := Lib.hid (fun nq => World.drewN_drewN w8 q' nq)
      have HBq := Lib.hid (below_drewN HB8.out q')
      by_cases hlt : i < o.ln
      · have hiL : i < o.L.length := by rw [HLn.out]; exact hlt
        obtain ⟨g1, off, hla, hg1, d0, d1, d2⟩ := line_at (HRl.out.drewN q') i hiL
        rw [hla] at k7
        clear hla
        have px := (BX8.out.drewN q').cell i (rowI_get .i64 X i (by rw [HXl.out]; exact hlt))
        have py := (BY8.out.drewN q').cell i (rowI_get .i64 Y i (by rw [HYl.out]; exact hlt))
        have pz := (BZ.out.drewN q').cell i (rowI_get .i64 Z i (by rw [HZl.out]; exact hlt))
        obtain ⟨r0, r1, r2⟩ := HXk.out i hlt
        obtain ⟨-, s1, s2⟩ := HYk.out i hlt
        obtain ⟨-, u1, u2⟩ := HZk.out i hlt
        obtain ⟨v1, v2⟩ := HTwo.out i hlt
        have ew : (o.L.map worth).getD i 0 = worth o.L[i] := by simp [List.getD_eq_getElem?_getD, hiL]
        rw [ew] at r0 r1 s1 u1 v1 v2
        obtain ⟨-, -, x0, x1⟩ := HF.out _ (List.getElem_mem hiL)
        clear ew
        generalize X.getD i 0 = xx at *
        generalize Y.getD i 0 = yy at *
        generalize Z.getD i 0 = zz at *
        generalize o.L[i] = p at *
        generalize w8.drewN q' = wr at *
        obtain ⟨pg, pn, pp⟩ := p
        unfold worth at r0 r1 s1 u1 v1 v2 x0 x1
        simp only at d0 d1 d2 r0 r1 s1 u1 v1 v2 x0 x1
        have hii : (i : Int) < o.ln := by omega
        have f0 : IntKind.i64.wrap (pn * pp) = pn * pp := IntWalk.i64_in _ (by omega)
        have f1 : IntKind.i64.wrap (xx - pn * pp) = xx - pn * pp := IntWalk.i64_in _ (by omega)
        have f2 : IntKind.i64.wrap (yy - pn * pp) = yy - pn * pp := IntWalk.i64_in _ (by omega)
        have f3 : IntKind.i64.wrap (zz - pn * pp) = zz - pn * pp := IntWalk.i64_in _ (by omega)
        have f4 : IntKind.i64.wrap (xx - pn * pp - (yy - pn * pp)) = xx - pn * pp - (yy - pn * pp) := IntWalk.i64_in _ (by omega)
        have f5 : IntKind.i64.wrap (xx - pn * pp - (yy - pn * pp) - (zz - pn * pp)) = xx - pn * pp - (yy - pn * pp) - (zz - pn * pp) := IntWalk.i64_in _ (by omega)
        have f6 : decide (xx - pn * pp - (yy - pn * pp) - (zz - pn * pp) < -2) = false := decide_eq_false (by omega)
        have f7 : decide (2 < xx - pn * pp - (yy - pn * pp) - (zz - pn * pp)) = false := decide_eq_false (by omega)
        go_wp2
        go_quiet (fail)
        go_wp2
        go_quiet (fail)
        go_wp2
        go_roundw
        case rel => exact ⟨i + 1, by go_num, by omega, _, (HWr.out _)⟩
        case measure => simp [intOf]; omega
      · obtain rfl : i = o.ln := by omega
        go_wp2
        go_ret
        exact ⟨rfl, HBq.out⟩

theorem wf_u8 {q : Int} (h : (Lit.int .u8 q).wf = true) : 0 ≤ q ∧ q ≤ 255 := by
  simp [Lit.wf, IntKind.min, IntKind.max, IntKind.signed, IntKind.bits] at h; omega
theorem l_cadds (o : Ord) (a : Option Addr) (n c : Nat) (L : List Cst) (q : Int) (w : World) (ho : o.ln ≤ 1048576 → OrdOk w o) (hom : o.ln ≤ 9223372036854775807) (hn : L.length = n) (hm : n ≤ 9223372036854775807) (hr : Rd w a (flat cC L)) (hok : ∀ x ∈ L, CstOk x) (hcap : n ≤ c) (hq : (Lit.int .u8 q).wf = true) (hT : Tab w) :
    Calls Tryd.prog 6 #[o.v, .slice a n c, .int .u8 q] w fun e w' => e = .returned (.bool true) ∧ Below w.heap.size w w' := by
  obtain ⟨q0, q1⟩ := wf_u8 hq
  by_cases hs : n ≤ 60
  · by_cases hf : o.ln ≤ 70
    · by_cases he : landE o L = 0
      · exact l_cadds_ok o a n c L q w ho hn hm hr hok hT hcap q0 q1 hs hf he
      · exact l_cadds_bad o a n c L q w ho hn hm hr hok hT hcap q0 q1 hs hf he
    · exact l_cadds_many o a n c L q w ho hn hm hr hok hT hs (by omega) hom
  · exact l_cadds_long o a n c L q w ho hn hm hr hok hT (by omega)

end Go.Proofs.YtdkabldhkgidjaaDoor
