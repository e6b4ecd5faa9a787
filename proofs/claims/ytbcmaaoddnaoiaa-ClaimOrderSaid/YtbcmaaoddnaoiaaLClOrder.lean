/-
  The law ClaimOrder: its walk.
-/
import Derived.Test.YtbcmaaoddnaoiaaAwake44
import Derived.Test.YtbcmaaoddnaoiaaClRun
import Derived.Test.YtbcmaaoddnaoiaaLClWhole
import Derived.StillTailTactics
namespace Go.Proofs.Ytbcmaaoddnaoiaa
set_option linter.unusedVariables false
set_option linter.unusedSimpArgs false
open Go.RowKit

set_option maxHeartbeats 1600000 in
theorem l_clorder_few (loss value : Int) (a : Option Addr) (n c : Nat) (L : List Pol) (w : World) (hn : L.length = n) (hm : n ≤ 9223372036854775807) (hr : Pols w a L) (hf : fewP L = false) :
    Calls Try.prog 12 #[.int .i64 loss, .int .i64 value, .slice a n c] w fun e w' => e = .returned (.bool true) ∧ Below w.heap.size w w' := by
  have HF := Lib.hid (fun w hr => c_few44 a n c L w hn hm hr)
  rw [hf] at HF
  have HR := Lib.hid hr
  clear hn hr hf
  go_enter Try.func12, Try.ntmps12
  go_wp2_with fail
  refine (c_awake44 _).mono ?_
  rintro e w1 ⟨rfl, hb1⟩
  go_wp2_with fail
  refine (HF.out _ (HR.out.below hb1)).mono ?_
  rintro e w2 ⟨rfl, rfl⟩
  go_wp2_with fail
  refine (c_awake44 _).mono ?_
  rintro e w3 ⟨rfl, hb3⟩
  have HB := Lib.hid (hb1.trans (hb3.mono hb1.size))
  go_wp2_with fail
  go_ret
  exact ⟨rfl, HB.out⟩

set_option maxHeartbeats 1600000 in
theorem l_clorder_bad (loss value : Int) (a : Option Addr) (n c : Nat) (L : List Pol) (w : World) (hn : L.length = n) (hm : n ≤ 9223372036854775807) (hr : Pols w a L) (hf : fewP L = true) (hb : newB loss value = false) :
    Calls Try.prog 12 #[.int .i64 loss, .int .i64 value, .slice a n c] w fun e w' => e = .returned (.bool true) ∧ Below w.heap.size w w' := by
  have HF := Lib.hid (fun w hr => c_few44 a n c L w hn hm hr)
  rw [hf] at HF
  have HW := Lib.hid (fun w => c_new_bad loss value w hb)
  have HR := Lib.hid hr
  clear hn hr hf hb
  go_enter Try.func12, Try.ntmps12
  go_wp2_with fail
  refine (c_awake44 _).mono ?_
  rintro e w1 ⟨rfl, hb1⟩
  go_wp2_with fail
  refine (HF.out _ (HR.out.below hb1)).mono ?_
  rintro e w2 ⟨rfl, rfl⟩
  go_wp2_with fail
  refine (HW.out _).mono ?_
  rintro e w3 ⟨rfl, rfl⟩
  go_wp2_with fail
  refine (HW.out _).mono ?_
  rintro e w4 ⟨rfl, rfl⟩
  go_wp2_with fail
  go_ret
  exact ⟨rfl, hb1⟩

/-- Where both files stand. -/
structure TwoAt (w : World) (B ga gb : Nat) (loss value : Int) (Aa : Option Addr) (ca : Nat) (Pa : List Pmt) (Ab : Option Addr) (cb : Nat) (Pb : List Pmt) : Prop where
  fa : FileAt w ga loss value 0 Aa ca Pa
  fb : FileAt w gb loss value 0 Ab cb Pb
  ne : ga ≠ gb
  la : B ≤ ga
  lb : B ≤ gb
  ra : ∀ x, (Value.slice Aa 0 0).ownBlock = some x → x ≠ gb
  rb : ∀ x, (Value.slice Ab 0 0).ownBlock = some x → x ≠ ga ∧ (Value.slice Aa 0 0).ownBlock ≠ some x
theorem TwoAt.swap {w : World} {B ga gb : Nat} {loss value : Int} {Aa Ab : Option Addr} {ca cb : Nat} {Pa Pb : List Pmt} (h : TwoAt w B ga gb loss value Aa ca Pa Ab cb Pb) : TwoAt w B gb ga loss value Ab cb Pb Aa ca Pa :=
  ⟨h.fb, h.fa, h.ne.symm, h.lb, h.la, fun x hx => (h.rb x hx).1, fun x hx => ⟨h.ra x hx, fun h2 => (h.rb x h2).2 hx⟩⟩
theorem TwoAt.below {w w' : World} {B ga gb : Nat} {loss value : Int} {Aa Ab : Option Addr} {ca cb : Nat} {Pa Pb : List Pmt} (h : TwoAt w B ga gb loss value Aa ca Pa Ab cb Pb) (hb : Below w.heap.size w w') : TwoAt w' B ga gb loss value Aa ca Pa Ab cb Pb :=
  ⟨h.fa.below hb, h.fb.below hb, h.ne, h.la, h.lb, h.ra, h.rb⟩
/-- The first one turned. -/
theorem TwoAt.turn {w w' : World} {B ga gb : Nat} {loss value : Int} {Aa Ab A' : Option Addr} {ca cb c' : Nat} {Pa Pb P' : List Pmt} (h : TwoAt w B ga gb loss value Aa ca Pa Ab cb Pb) (hf : FileAt w' ga loss value 0 A' c' P') (hk : Kept ga (Value.slice Aa 0 0).ownBlock w w')
    (hr : (Value.slice A' 0 0).ownBlock = (Value.slice Aa 0 0).ownBlock ∨ ∃ x, (Value.slice A' 0 0).ownBlock = some x ∧ w.heap.size ≤ x) (hB : B ≤ w.heap.size) : TwoAt w' B ga gb loss value A' c' P' Ab cb Pb ∧ Below B w w' := by
  have hob := h.fb.row.own
  have hoa := h.fa.row.own
  have hgb := h.fb.blk.lt
  refine ⟨⟨hf, h.fb.kept hk h.ne.symm (fun e => h.ra gb e.symm rfl) (fun x hx => ⟨(h.rb x hx).1, fun e => (h.rb x hx).2 e.symm⟩), h.ne, h.la, h.lb, fun x hx => ?_, fun x hx => ⟨(h.rb x hx).1, fun e => ?_⟩⟩,
    hk.below h.la (fun k hk2 => by have := (hoa k (by rw [own_any Aa Pa.length ca 0 0]; exact hk2)).1; have := h.la; omega) hB⟩
  · rcases hr with hr | ⟨y, hy, hle⟩
    · exact h.ra x (hr ▸ hx)
    · rw [hy] at hx
      injection hx with hx
      omega
  · rcases hr with hr | ⟨y, hy, hle⟩
    · exact (h.rb x hx).2 (hr ▸ e)
    · rw [hy] at e
      injection e with e
      have := (hob x (by rw [own_any Ab Pb.length cb 0 0]; exact hx)).2
      omega

def nmP (L : List Pol) (k : Nat) : ByteArray := (L.map Pol.i).getD k ⟨#[]⟩
theorem nmP_get (L : List Pol) (k : Nat) (h : k < L.length) : nmP L k = L[k].i := by simp [nmP, h]
theorem run_no {loss value : Int} (h : newB loss value = true) (L : List Pol) (hd : ∀ p q, p < L.length → q < p → nmP L p ≠ nmP L q) (k : Nat) (hk : k < L.length) : hasP (runP loss value (L.take k)) L[k].i = false := by
  obtain ⟨_, _, _, h4⟩ := runP_facts h L k (by omega)
  refine hasP_false fun x hx e => ?_
  obtain ⟨j, hj, hjk, e2⟩ := h4 x hx
  apply hd k j hk hjk
  rw [nmP_get L k hk, nmP_get L j hj, ← e, e2]
theorem rev_names {L : List Pol} (hd : ∀ p q, p < L.length → q < p → nmP L p ≠ nmP L q) : ∀ p q, p < L.reverse.length → q < p → nmP L.reverse p ≠ nmP L.reverse q := by
  intro p q hp hq
  rw [nmP_get _ _ hp, nmP_get _ _ (by omega), List.getElem_reverse, List.getElem_reverse]
  rw [List.length_reverse] at hp
  have h1 := hd (L.length - 1 - q) (L.length - 1 - p) (by omega) (by omega)
  rw [nmP_get _ _ (by omega), nmP_get _ _ (by omega)] at h1
  exact fun e => h1 e.symm
theorem run_same {loss value : Int} (h : newB loss value = true) (L : List Pol) : sumP (runP loss value (L.reverse.take L.length)) = sumP (runP loss value (L.take L.length)) ∧ sumP (runP loss value (L.take L.length)) ≤ loss := by
  have h1 := (runP_facts h L L.length (Nat.le_refl _)).2.1
  have h2 := (runP_facts h L.reverse L.length (by simp)).2.1
  rw [List.take_length] at h1
  rw [show L.reverse.take L.length = L.reverse by rw [← List.length_reverse, List.take_length], wsumP_reverse] at h2
  rw [show L.reverse.take L.length = L.reverse by rw [← List.length_reverse, List.take_length], List.take_length, h1, h2]
  exact ⟨rfl, by omega⟩
theorem PolOk.drew {w : World} {p : Pol} (h : PolOk w p) : PolOk w.drew p := h.below ((Below.refl _ _).drew)
theorem Pols.drew {w : World} {a : Option Addr} {L : List Pol} (h : Pols w a L) : Pols w.drew a L := h.below ((Below.refl _ _).drew)

set_option maxRecDepth 100000 in
set_option maxHeartbeats 6400000 in
theorem l_clorder_good (loss value : Int) (a : Option Addr) (n c : Nat) (L : List Pol) (w : World) (hn : L.length = n) (hm : n ≤ 12) (hr : Pols w a L) (hf : fewP L = true) (hb : newB loss value = true) :
    Calls Try.prog 12 #[.int .i64 loss, .int .i64 value, .slice a n c] w fun e w' => e = .returned (.bool true) ∧ Below w.heap.size w w' := by
  have HF := Lib.hid (fun w hr => c_few44 a n c L w hn (by omega) hr)
  rw [hf] at HF
  have HW := Lib.hid (fun w => c_new_ok loss value w hb)
  have HR := Lib.hid hr
  have HN := Lib.hid hn
  have HNb := Lib.hid hb
  clear hn hr hf hb
  go_enter Try.func12, Try.ntmps12
  go_wp2_with fail
  refine (c_awake44 _).mono ?_
  rintro e w1 ⟨rfl, hb1⟩
  go_wp2_with fail
  refine (HF.out _ (HR.out.below hb1)).mono ?_
  rintro e w2 ⟨rfl, rfl⟩
  go_wp2_with fail
  refine (HW.out _).mono ?_
  rintro e w3 ⟨rfl, rfl⟩
  go_wp2_with fail
  refine (HW.out _).mono ?_
  rintro e w4 ⟨rfl, rfl⟩
  have hz := hb1.size
  have HT := Lib.hid (show TwoAt ((w1.alloc (.cells #[.int .i64 loss, .int .i64 value, .slice none 0 0, .int .i64 0] 106)).alloc (.cells #[.int .i64 loss, .int .i64 value, .slice none 0 0, .int .i64 0] 106)) w.heap.size w1.heap.size (w1.heap.size + 1) loss value none 0 [] none 0 [] from
    ⟨(FileAt.new w1 loss value).alloc _, by
      have := FileAt.new (w1.alloc (.cells #[.int .i64 loss, .int .i64 value, .slice none 0 0, .int .i64 0] 106)) loss value
      simpa using this, by omega, hz, by omega, by intro x hx; simp [Value.ownBlock] at hx, by intro x hx; simp [Value.ownBlock] at hx⟩)
  have HB := Lib.hid ((hb1.alloc hz (.cells #[.int .i64 loss, .int .i64 value, .slice none 0 0, .int .i64 0] 106)).alloc (by simp; omega) (.cells #[.int .i64 loss, .int .i64 value, .slice none 0 0, .int .i64 0] 106))
  have hgs : (w1.alloc (.cells #[.int .i64 loss, .int .i64 value, .slice none 0 0, .int .i64 0] 106)).heap.size = w1.heap.size + 1 := by simp
  rw [hgs]
  clear hgs
  generalize (w1.alloc (.cells #[.int .i64 loss, .int .i64 value, .slice none 0 0, .int .i64 0] 106)).alloc (.cells #[.int .i64 loss, .int .i64 value, .slice none 0 0, .int .i64 0] 106) = w3 at *
  generalize hgb : w1.heap.size + 1 = gb at *
  generalize w1.heap.size = ga at *
  have HR3 := Lib.hid (HR.out.below HB.out)
  clear hb1 HF HW hgb hz
  go_wp2_with fail
  go_loopw [53] (fun x wr => ∃ i : Nat, x = .int .i64 i ∧ i ≤ n ∧ Hid (∀ p q, p < i → q < p → nmP L p ≠ nmP L q) ∧ ∃ d, wr = w3.drewN d) (fun x _ => n - (intOf x).toNat)
  case atStart => exact ⟨0, rfl, by omega, (by intro p q hp; omega), 0, rfl⟩
  case round =>
    obtain ⟨i, rfl, hi, hD, d, rfl⟩ := hrel
    by_cases hlt : i < n
    · have hiL : i < L.length := by rw [HN.out]; exact hlt
      go_wp2
      go_loopw [57] (fun x wr => ∃ j : Nat, x = .int .i64 j ∧ j ≤ i ∧ Hid (∀ q, q < j → nmP L i ≠ nmP L q) ∧ ∃ d, wr = w3.drewN d) (fun x _ => i - (intOf x).toNat)
      case atStart => exact ⟨0, rfl, by omega, (by intro q hq; omega), d, rfl⟩
      case round =>
        obtain ⟨j, rfl, hj, hE, d2, rfl⟩ := hrel
        by_cases hlt2 : j < i
        · have hjL : j < L.length := by omega
          obtain ⟨b, o, rfl, hb, c0, c1, c2, c3, c4, c5, c6, c7, c8⟩ := HR3.out.at i hiL
          obtain ⟨b2, o2, hab, hb2, d0, d1, d2', d3, d4, d5, d6, d7, d8⟩ := HR3.out.at j hjL
          injection hab with hab
          injection hab with hab1 hab2 _
          subst hab1 hab2
          clear c1 c2 c3 c4 c5 c6 c7 c8 d1 d2' d3 d4 d5 d6 d7 d8
          have n1 := nmP_get L i hiL
          have n2 := nmP_get L j hjL
          rw [← n1] at c0
          rw [← n2] at d0
          clear n1 n2
          have hjn : (j : Int) < n := by omega
          by_cases hsame : nmP L i = nmP L j
          · have t1 := (sameB_spell (sameB_iff.2 hsame)).1
            clear hsame
            generalize nmP L i = s1 at *
            generalize nmP L j = s2 at *
            go_wp2
            go_quiet (fail)
            go_wp2
            go_ret
            exact ⟨rfl, below_drewN (below_drewN HB.out _) _⟩
          · have HE := Lib.hid (show ∀ q, q < j + 1 → nmP L i ≠ nmP L q from fun q hq => by
              rcases Nat.lt_or_ge q j with h | h
              · exact hE.out q h
              · obtain rfl : q = j := by omega
                exact hsame)
            have hs2 : sameB (nmP L i) (nmP L j) = false := by
              cases hx : sameB (nmP L i) (nmP L j)
              · rfl
              · exact absurd (sameB_iff.1 hx) hsame
            have t1 := (sameB_spell hs2).1
            clear hsame hs2
            generalize nmP L i = s1 at *
            generalize nmP L j = s2 at *
            go_wp2
            go_quiet (fail)
            go_wp2
            go_roundw
            case rel => exact ⟨j + 1, by go_num, by omega, HE.out, _, rfl⟩
            case measure => simp [intOf]; omega
        · obtain rfl : j = i := by omega
          have HD := Lib.hid (show ∀ p q, p < j + 1 → q < p → nmP L p ≠ nmP L q from fun p q hp hq => by
            rcases Nat.lt_or_ge p j with h | h
            · exact hD.out p q h hq
            · obtain rfl : p = j := by omega
              exact hE.out q hq)
          go_wp2
          go_roundw
          case rel => exact ⟨j + 1, by go_num, by omega, HD.out, _, rfl⟩
          case measure => simp [intOf]; omega
    · obtain rfl : i = n := by omega
      have hq := below_drewN (Below.refl w3.heap.size w3) d
      have HT5 := Lib.hid (HT.out.below hq)
      have HB5 := Lib.hid (below_drewN HB.out d)
      have HR5 := Lib.hid (HR3.out.below hq)
      have hdis : ∀ p q, p < L.length → q < p → nmP L p ≠ nmP L q := fun p q hp hq => hD.out p q (by rw [← HN.out]; exact hp) hq
      have HNo := Lib.hid (fun k hk => run_no HNb.out L hdis k hk)
      have HNo2 := Lib.hid (fun k hk => run_no HNb.out L.reverse (rev_names hdis) k hk)
      have HFa := Lib.hid (fun k hk => runP_facts HNb.out L k hk)
      have HFb := Lib.hid (fun k hk => runP_facts HNb.out L.reverse k hk)
      have HSm := Lib.hid (run_same HNb.out L)
      clear hq hdis hD HT HB HR3
      generalize w3.drewN d = w5 at *
      go_wp2
      go_loopw [75] (fun x wr => ∃ (k : Nat) (Aa : Option Addr) (ca : Nat) (Ab : Option Addr) (cb : Nat), x = .int .i64 k ∧ k ≤ i ∧ Hid (TwoAt wr w.heap.size ga gb loss value Aa ca (runP loss value (L.take k)) Ab cb (runP loss value (L.reverse.take k))) ∧ Hid (Below w.heap.size w wr)) (fun x _ => i - (intOf x).toNat)
      case atStart => exact ⟨0, none, 0, none, 0, rfl, by omega, HT5.out, HB5.out⟩
      case round =>
        obtain ⟨k, Aa, ca, Ab, cb, rfl, hk, hT, hB⟩ := hrel
        by_cases hlt2 : k < i
        · have hkL : k < L.length := by rw [HN.out]; exact hlt2
          obtain ⟨m, hm2⟩ : ∃ m, m = i - 1 - k := ⟨_, rfl⟩
          have hmi : m < i := by omega
          have hmL : m < L.length := by rw [HN.out]; exact hmi
          have hrv : L.reverse[k]'(by rw [List.length_reverse]; exact hkL) = L[m] := by rw [List.getElem_reverse]; congr 1; rw [HN.out]; omega
          have hsa := runP_take_succ loss value L k hkL
          have hsb := runP_take_succ loss value L.reverse k (by rw [List.length_reverse]; exact hkL)
          rw [hrv] at hsb
          obtain ⟨fa1, _, fa2, _⟩ := HFa.out k (by omega)
          obtain ⟨fb1, _, fb2, _⟩ := HFb.out k (by rw [List.length_reverse]; omega)
          have hno1 := HNo.out k hkL
          have hno2 := HNo2.out k (by rw [List.length_reverse]; exact hkL)
          rw [hrv] at hno2
          have hr1 := HR.out.below hB.out
          obtain ⟨b, o, rfl, hb, c0, c1, c2, c3, c4, c5, c6, c7, c8⟩ := hr1.at k hkL
          have hp1 := hr1.ok _ (List.getElem_mem hkL)
          have hcl := fun (wx : World) h hp => c_claim_any ga loss value 0 Aa ca (runP loss value (L.take k)) (L[k]'hkL) wx h fa1 hp (by omega) hno1
          have hcl2 := fun (wx : World) h hp => c_claim_any gb loss value 0 Ab cb (runP loss value (L.reverse.take k)) (L[m]'hmL) wx h fb1 hp (by omega) hno2
          have HOk2 := Lib.hid (fun (wx : World) (hb : Below w.heap.size w wx) => ((HR.out.below hb).ok _ (List.getElem_mem hmL)))
          have HCells := Lib.hid (fun (wx : World) (hb : Below w.heap.size w wx) => (HR.out.below hb).at m hmL)
          have HSa := Lib.hid hsa
          have HSb := Lib.hid hsb
          have hzb := hB.out.size
          have e1 : IntKind.i64.wrap ((i : Int) - 1) = (i : Int) - 1 := IntWalk.i64_in _ (by omega)
          have e2 : IntKind.i64.wrap ((i : Int) - 1 - k) = (m : Int) := by
            have e3 : (i : Int) - 1 - k = (m : Int) := by omega
            rw [e3]; exact IntWalk.i64_in _ (by omega)
          have hmi' : (m : Int) < i := by omega
          clear hsa hsb hrv hno1 hno2 fa1 fb1 hr1 hm2
          generalize L[k] = p at *
          generalize L[m] = p2 at *
          unfold ClAny Pol.v polV at hcl hcl2
          have HCl := Lib.hid hcl
          have HCl2 := Lib.hid hcl2
          have HP1 := Lib.hid hp1
          clear hcl hcl2 hp1
          go_wp2
          go_still_tail 10, (by kernel_rfl)
          change wpList _ _ _ _ _ (World.drew _)
          go_wp2_with fail
          refine (HCl.out _ hT.out.fa.drew HP1.out.drew).mono ?_
          rintro e w6 ⟨X1, Y1, rfl, A6, q6, hf6, hk6, hr6⟩
          have ht6 := (hT.out.below ((Below.refl _ _).drew)).turn hf6 hk6 hr6 hzb
          have HT6 := Lib.hid ht6.1
          have HB6 := Lib.hid (hB.out.drew.trans ht6.2)
          clear ht6 hf6 hk6 hr6 c0 c1 c2 c3 c4 c5 c6 c7 c8
          obtain ⟨b', o', hab, hb', c0, c1, c2, c3, c4, c5, c6', c7, c8⟩ := HCells.out w6 HB6.out
          injection hab with hab
          injection hab with hab1 hab2 _
          subst hab1 hab2
          go_wp2
          go_still_tail 18, (by kernel_rfl)
          change wpList _ _ _ _ _ (World.drew _)
          have hp2 := HOk2.out w6 HB6.out
          have HP2 := Lib.hid hp2
          clear hp2
          go_wp2_with fail
          refine (HCl2.out _ HT6.out.fb.drew HP2.out.drew).mono ?_
          rintro e w7 ⟨X2, Y2, rfl, A7, q7, hf7, hk7, hr7⟩
          have ht7 := (HT6.out.swap.below ((Below.refl _ _).drew)).turn hf7 hk7 hr7 (show w.heap.size ≤ w6.drew.heap.size from HB6.out.size)
          have HT7 := Lib.hid ht7.1.swap
          have HB7 := Lib.hid (HB6.out.drew.trans ht7.2)
          clear ht7 hf7 hk7 hr7
          go_wp2
          go_roundw
          case rel =>
            refine ⟨k + 1, A6, q6, A7, q7, by go_num, by omega, ?_, HB7.out⟩
            rw [HSa.out, HSb.out]
            exact HT7.out
          case measure => simp [intOf]; omega
        · obtain rfl : k = i := by omega
          obtain ⟨fa1, fx1, fa2, fx2⟩ := HFa.out k (by rw [HN.out]; exact Nat.le_refl _)
          obtain ⟨fb1, fx3, fb2, fx4⟩ := HFb.out k (by rw [List.length_reverse, HN.out]; exact Nat.le_refl _)
          clear fx1 fx2 fx3 fx4
          have hsm := HSm.out
          rw [HN.out] at hsm
          obtain ⟨s1, s2⟩ := hsm
          have hpa := fun (wx : World) h => c_paid ga loss value 0 Aa ca (runP loss value (L.take k)) wx h fa1 (by omega)
          have hpb := fun (wx : World) h => c_paid gb loss value 0 Ab cb (runP loss value (L.reverse.take k)) wx h fb1 (by omega)
          rw [s1] at hpb
          generalize sumP (runP loss value (L.take k)) = S at *
          have HPa := Lib.hid hpa
          have HPb := Lib.hid hpb
          have hzb := hB.out.size
          clear hpa hpb fa1 fb1 s1
          go_wp2_with fail
          refine (HPa.out _ hT.out.fa).mono ?_
          rintro e w6 ⟨rfl, hb6⟩
          have HT6 := Lib.hid (hT.out.below hb6)
          have HB6 := Lib.hid (hB.out.trans (hb6.mono hzb))
          clear hb6
          go_wp2_with fail
          refine (HPb.out _ HT6.out.fb).mono ?_
          rintro e w7 ⟨rfl, hb7⟩
          have HT7 := Lib.hid (HT6.out.below hb7)
          have HB7 := Lib.hid (HB6.out.trans (hb7.mono HB6.out.size))
          clear hb7
          go_wp2_with fail
          refine (HPa.out _ HT7.out.fa).mono ?_
          rintro e w8 ⟨rfl, hb8⟩
          have HB8 := Lib.hid (HB7.out.trans (hb8.mono HB7.out.size))
          clear hb8
          go_wp2_with fail
          go_ret
          exact ⟨rfl, HB8.out⟩

theorem l_clorder (loss value : Int) (a : Option Addr) (n c : Nat) (L : List Pol) (w : World) (_h1 : (Lit.int .i64 loss).wf = true) (_h2 : (Lit.int .i64 value).wf = true) (hn : L.length = n) (hm : n ≤ 9223372036854775807) (hr : Pols w a L) :
    Calls Try.prog 12 #[.int .i64 loss, .int .i64 value, .slice a n c] w fun e w' => e = .returned (.bool true) ∧ Below w.heap.size w w' := by
  cases hf : fewP L
  · exact l_clorder_few loss value a n c L w hn hm hr hf
  · cases hb : newB loss value
    · exact l_clorder_bad loss value a n c L w hn hm hr hf hb
    · have h12 : n ≤ 12 := by
        unfold fewP at hf
        simp only [Bool.and_eq_true, decide_eq_true_eq] at hf
        omega
      exact l_clorder_good loss value a n c L w hn h12 hr hf hb

end Go.Proofs.Ytbcmaaoddnaoiaa
