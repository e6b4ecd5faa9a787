/-
  The law AverageEnds, where all may be: its walk.
-/
import Derived.Test.YtbcmaaoddnaoiaaLAEnds
import Derived.Test.YtbcmaaoddnaoiaaEndsNum2
import Derived.Deep.RegionHeld3
namespace Go.Proofs.Ytbcmaaoddnaoiaa
set_option linter.unusedVariables false
set_option linter.unusedSimpArgs false
open Go.RowKit

theorem info_intr : (Try.prog.info? 35).map (fun i => (i.zero, i.size, i.bytes)) = some (some (.agg #[.string ⟨#[]⟩, .int .i64 0]), 2, 24) := by kernel_rfl
theorem one_intr (L : List (ByteArray × Int)) : ∀ u ∈ cellsI L, u.oneCell' = true := by
  induction L with
  | nil => intro u hu; cases hu
  | cons p r ih =>
    intro u hu
    simp only [cellsI, List.mem_cons] at hu
    rcases hu with rfl | rfl | hu
    · rfl
    · rfl
    · exact ih u hu
theorem own_empty_s (s : Nat) (w : World) (e : TypeId) (B : Nat) (hB : B ≤ w.heap.size) : OwnS s (w.alloc (.cells #[] e)) B e (some ⟨w.heap.size, 0, none⟩) 0 0 [] :=
  ⟨by simp, .inr ⟨w.heap.size, 0, #[], rfl, hB, heap_alloc_new w _, Nat.le_refl _, by unfold maxLen; omega, by simp, by simp⟩⟩
theorem own_empty_at {s : Nat} (W : World) (e : TypeId) (B g : Nat) (hB : B ≤ g) (hg : g = W.heap.size) : OwnS s (W.alloc (.cells #[] e)) B e (some ⟨g, 0, none⟩) 0 0 [] := by
  subst hg
  exact own_empty_s s W e B hB
theorem rd_zero {w : World} {g : Nat} {t : TypeId} (h : Blk w g t #[.int .i64 0]) : Rd w (some ⟨g, 0, none⟩) (vals .i64 [0]) := Rd.blk' (l := [0]) h
/-- Whole's answer, refused or not. -/
def OneOk (w : World) (n : Nat) (e : Ending) (w' : World) : Prop :=
  ∃ X Y E, e = .returned (.tuple #[X, Y, .int .i64 E]) ∧ Below w.heap.size w w' ∧ Hid (E = 0 → ∃ A B c d, X = .slice (some A) n c ∧ Y = .slice B n d ∧ ∃ zs ys : List Int, zs.length = n ∧ ys.length = n ∧ zs.getD (n - 1) 0 = 0 ∧ ys.getD (n - 1) 0 = 0 ∧ Rd w' (some A) (vals .i64 zs) ∧ Rd w' B (vals .i64 ys))
def nobody : ByteArray := ⟨#[110, 111, 98, 111, 100, 121, 45, 97, 116, 45, 115, 116, 97, 107, 101]⟩

theorem c_one (a b : Option Addr) (c d n : Nat) (L : List (ByteArray × Int)) (t : Int) (w : World) (hn : L.length = n) (hm : n ≤ 31) (hr : Rd w a (cellsI (oneL L nobody))) (hs : ∀ p ∈ L, p.1.size ≤ 9223372036854775807) (hb : Rd w b (vals .i64 (List.replicate (n + 1) 0))) :
    Calls Try.prog 20 #[.slice a (n + 1) c, .slice b (n + 1) d, .int .i64 t] w (OneOk w (n + 1)) := by
  have hs1 : ∀ p ∈ oneL L nobody, p.1.size ≤ 9223372036854775807 := by
    intro p hp
    unfold oneL at hp
    rcases List.mem_append.1 hp with h | h
    · exact hs p h
    · obtain rfl := List.mem_singleton.1 h
      show nobody.size ≤ _
      decide
  by_cases he : wholeE (oneL L nobody) (List.replicate (n + 1) 0) t = 0
  · refine (c_whole a b (n + 1) c (n + 1) d (oneL L nobody) (List.replicate (n + 1) 0) t w (by rw [oneL_len, hn]) (by omega) hr hs1 (by simp) (by omega) hb he).mono ?_
    rintro e w' ⟨p, t', A, c', rfl, hP, hO, hb'⟩
    obtain ⟨k1, k2⟩ := one_parts (s := nobody) hn he
    exact ⟨_, _, 0, rfl, hb', Lib.hid fun _ => ⟨_, _, _, _, rfl, rfl, _, _, by rw [partsOf_length, valsI_length, oneL_len, hn], by simp, k1, k2, Rd.blk' hP, hO.rd⟩⟩
  · refine (c_whole_bad a b (n + 1) c (n + 1) d (oneL L nobody) (List.replicate (n + 1) 0) t w (by rw [oneL_len, hn]) (by omega) hr hs1 (by simp) (by omega) hb he).mono ?_
    rintro e w' ⟨rfl, hb'⟩
    exact ⟨_, _, _, rfl, hb', Lib.hid fun h => absurd h he⟩

set_option maxRecDepth 100000 in
set_option maxHeartbeats 12800000 in
theorem l_aends_good (a : Option Addr) (n c : Nat) (L : List (ByteArray × Int)) (w : World) (hn : L.length = n) (hm : n ≤ 31) (hr : Rd w a (cellsI L)) (hs : ∀ p ∈ L, p.1.size ≤ 9223372036854775807) (hf : fewG L 0 = true) (hb : mayB L = true) (hS : sumL (valsI L) ≤ 1099511627776) :
    Calls Try.prog 7 #[.slice a n c] w fun e w' => e = .returned (.bool true) ∧ Below w.heap.size w w' := by
  obtain ⟨i0, hi, hz0, hz1, hz2⟩ := info_parts info_i64v
  have HI := Lib.hid hi
  have HZ0 := Lib.hid hz0
  have HZ1 := Lib.hid hz1
  have HZ2 := Lib.hid hz2
  obtain ⟨j0, hj, hy0, hy1, hy2⟩ := info_parts info_intr
  have HJ := Lib.hid hj
  have HY0 := Lib.hid hy0
  have HY1 := Lib.hid hy1
  have HY2 := Lib.hid hy2
  have hmk := mk38 n (by omega)
  have hn1 : 1 ≤ n := by rw [← hn]; exact (mayB_len hb).1
  have HF := fun w hr => c_few a none n c 0 0 L w hn (by omega) (by omega) hr hs
  rw [hf] at HF
  have HF := Lib.hid HF
  have hE : wholeE L (valsI L) 0 = 0 := by rw [whole_all hb, if_neg (by omega)]
  have hE0 : wholeE L (List.replicate n 0) 0 = 0 := by rw [← hn]; exact whole_none hb
  have HG := fun (b : Option Addr) (d : Nat) (w : World) (hr : Rd w a (cellsI L)) (hb' : Rd w b (vals .i64 (List.replicate n 0))) => c_whole a b n c n d L (List.replicate n 0) 0 w hn (by omega) hr hs (by simp) (by omega) hb' hE0
  unfold WholeOk at HG
  rw [ends_partsN hb hn, ends_getsN] at HG
  have HG := Lib.hid HG
  have HW := fun (b : Option Addr) (d : Nat) (w : World) (hr : Rd w a (cellsI L)) (hb' : Rd w b (vals .i64 (valsI L))) => c_whole a b n c n d L (valsI L) 0 w hn (by omega) hr hs (by rw [valsI_length, hn]) (by omega) hb' hE
  unfold WholeOk at HW
  rw [ends_partsA hb, ends_getsA hn] at HW
  have HW := Lib.hid HW
  have HP := fun (b : Option Addr) (d : Nat) (w : World) (hr : Rd w a (cellsI L)) (hb' : Rd w b (vals .i64 (valsI L))) => c_pays a b n c n d L (valsI L) 0 w hn (by omega) hr hs (by rw [valsI_length, hn]) (by omega) hb' hE
  unfold PaysOk at HP
  rw [ends_debtsA hb] at HP
  have HP := Lib.hid HP
  have HOne := Lib.hid (fun (a' b : Option Addr) (c' d : Nat) (t : Int) (w : World) (hr : Rd w a' (cellsI (oneL L nobody))) (hb' : Rd w b (vals .i64 (List.replicate (n + 1) 0))) =>
    c_one a' b c' d n L t w hn hm hr hs hb')
  have HOneL := Lib.hid (oneL_len L nobody)
  have HOneC := Lib.hid (oneL_cells L nobody)
  have HVb := Lib.hid (fun x hx => mayB_amt hb x hx)
  have HR := Lib.hid hr
  have HN := Lib.hid hn
  have HVl := Lib.hid (show (valsI L).length = n by rw [valsI_length, hn])
  clear hi hz0 hz1 hz2 hj hy0 hy1 hy2 hn hr hs hf hb hE hE0 hS
  go_enter Try.func7, Try.ntmps7
  go_wp2_with fail
  refine (c_awake43 _).mono ?_
  rintro e w1 ⟨rfl, hb1⟩
  go_wp2_with fail
  refine (HF.out _ (HR.out.below hb1)).mono ?_
  rintro e w2 ⟨rfl, hb2⟩
  have HB2 := Lib.hid (hb1.trans (hb2.mono hb1.size))
  have hz2 := HB2.out.size
  clear hb1 hb2
  go_wp2_with fail
  have hB0 : Blk (w2.alloc (.cells (zer .i64 n) 2)) w2.heap.size 2 (rowI .i64 (List.replicate n 0)) := Blk.new _ _ _
  have hBn := HB2.out.alloc hz2 (.cells (zer .i64 n) 2)
  have hsn : w2.heap.size < (w2.alloc (.cells (zer .i64 n) 2)).heap.size := by simp
  have hsz : w2.heap.size + 1 = (w2.alloc (.cells (zer .i64 n) 2)).heap.size := by simp
  rw [hsz]
  generalize w2.alloc (.cells (zer .i64 n) 2) = wn at *
  have H0 := Lib.hid hB0
  have HBn := Lib.hid hBn
  have hzn := hBn.size
  clear hB0 hBn HB2
  go_loopw [4, 5] (fun y x wr => ∃ (k : Nat) (A : Option Addr) (d : Nat), y = .slice A k d ∧ x = .int .i64 k ∧ k ≤ n ∧ Hid (Own wr wn.heap.size 2 A k d (vals .i64 (valsI (L.take k)))) ∧ Hid (Below wn.heap.size wn wr)) (fun _ x _ => n - (intOf x).toNat)
  case atStart => exact ⟨0, _, 0, rfl, rfl, by omega, by show Own _ _ _ _ _ _ _; simpa [vals, valsI] using Own.empty wn 2 wn.heap.size (Nat.le_refl _), (Below.refl _ _).alloc (Nat.le_refl _) _⟩
  case round =>
    obtain ⟨k, A, d, rfl, rfl, hk, hO, hB⟩ := hrel
    by_cases hlt : k < n
    · have hkz : k < L.length := by rw [HN.out]; exact hlt
      obtain ⟨b, o, rfl, hb, hc1, hc2⟩ := intr_at (HR.out.below (HBn.out.trans (hB.out.mono hzn))) k hkz
      have hts := valsI_take_succ L k hkz
      have hz := hB.out.size
      generalize L[k].1 = s at *
      generalize L[k].2 = v at *
      have HTS := Lib.hid hts
      clear hts
      go_wp2_with (at_builtin; refine wpList_app _ rfl (.tmp 34) (.tmp 40) _ rfl wn.heap.size 2 i0 _ 8 Try.underlying23 HI.out HZ0.out HZ1.out HZ2.out rfl A k d _ rfl (hO.out.alloc _) (some ⟨wr.heap.size, 0, none⟩) 1 1 (vals .i64 [v]) rfl rfl (Rd.blk' (t := 2) (Blk.at _ _ _ (by simp))) (one_vals _ _) (by unfold maxLen; omega) (by omega) (by simp; omega) ?_; intro A' c' w3 hown hg hb3)
      go_roundw
      case rel =>
        refine ⟨k + 1, A', c', rfl, by go_num, by omega, ?_, ?_⟩
        · show Own _ _ _ _ _ _ _
          rw [HTS.out, ← vals_append]
          exact hown
        · exact (hB.out.alloc hz _).trans hb3
      case measure => simp [intOf]; omega
    · obtain rfl : k = n := by omega
      have h1 := hO.out
      rw [List.take_of_length_le (by rw [HN.out]; exact Nat.le_refl _)] at h1
      have H1 := Lib.hid h1
      have HBr := Lib.hid (HBn.out.trans (hB.out.mono hzn))
      have H0r := Lib.hid (H0.out.below hB.out hsn)
      clear h1 hO
      go_wp2_with fail
      refine (HG.out _ _ _ (HR.out.below HBr.out) (Rd.blk' H0r.out)).mono ?_
      rintro e w4 ⟨p4, t4, A4, c4, rfl, hP4, hO4', hb4⟩
      have HB4 := Lib.hid (HBr.out.trans (hb4.mono HBr.out.size))
      have HO4 := Lib.hid (H1.out.rd.below hb4)
      have H04 := Lib.hid (H0r.out.below hb4 H0r.out.lt)
      have HP4 := Lib.hid hP4
      have HX4 := Lib.hid hO4'.rd
      clear hb4 hP4 hO4'
      go_wp2_with fail
      refine (HW.out _ _ _ (HR.out.below HB4.out) HO4.out).mono ?_
      rintro e w5 ⟨p5, t5, A5, c5, rfl, hP5, hO5', hb5⟩
      have HB5 := Lib.hid (HB4.out.trans (hb5.mono HB4.out.size))
      have HO5 := Lib.hid (HO4.out.below hb5)
      have H05 := Lib.hid (H04.out.below hb5 H04.out.lt)
      have HP45 := Lib.hid (HP4.out.below hb5 HP4.out.lt)
      have HX45 := Lib.hid (HX4.out.below hb5)
      have HP5 := Lib.hid hP5
      have HX5 := Lib.hid hO5'.rd
      clear hb5 hP5 hO5'
      go_wp2_with fail
      refine (HP.out _ _ _ (HR.out.below HB5.out) HO5.out).mono ?_
      rintro e w6 ⟨A6, c6, rfl, _, hb6⟩
      have HB6 := Lib.hid (HB5.out.trans (hb6.mono HB5.out.size))
      have HO6 := Lib.hid (HO5.out.below hb6)
      have H06 := Lib.hid (H05.out.below hb6 H05.out.lt)
      have HP46 := Lib.hid (HP45.out.below hb6 HP45.out.lt)
      have HX46 := Lib.hid (HX45.out.below hb6)
      have HP56 := Lib.hid (HP5.out.below hb6 HP5.out.lt)
      have HX56 := Lib.hid (HX5.out.below hb6)
      have HR6 := Lib.hid (HR.out.below HB6.out)
      clear hb6
      clear HG HW HP HF H0 H0r H1 HBr HB4 HB5 HO4 HO5 H04 H05 HP4 HP45 HP5 HX4 HX45 HX5 HBn
      go_wp2_with fail
      generalize hng : w2.heap.size = gN at *
      clear hng hsn hsz hz2 hzn
      go_loopw [14] (fun x wr => ∃ (j : Nat), x = .int .i64 j ∧ j ≤ k ∧ ∃ q, wr = w6.drewN q) (fun x _ => k - (intOf x).toNat)
      case atStart => exact ⟨0, rfl, by omega, 0, rfl⟩
      case round =>
        obtain ⟨j, rfl, hj, q, rfl⟩ := hrel
        by_cases hlt2 : j < k
        · have hjL : j < L.length := by rw [HN.out]; exact hlt2
          have hjV : j < (valsI L).length := by rw [HVl.out]; exact hlt2
          obtain ⟨b1, o1, rfl, hb1, c1, c2⟩ := intr_at HR6.out j hjL
          obtain ⟨b2, o2, rfl, hb2, hall2, c3⟩ := HX46.out.at j (by simpa using hlt2)
          obtain ⟨b3, o3, rfl, hb3, hall3, c4'⟩ := HX56.out.at j (by simpa using hlt2)
          clear hall2 hall3
          have d1 := HP46.out.cell j (rowI_get .i64 (List.replicate k 0) j (by simpa using hlt2))
          have d2 := HP56.out.cell j (rowI_get .i64 (valsI L) j hjV)
          rw [valsI_getD L j hjL] at d2
          have e0 : (List.replicate k (0 : Int)).getD j 0 = 0 := by simp [hlt2]
          rw [e0] at d1
          have c3' : w6.cell? ⟨b2, o2 + j, none⟩ = some (.int .i64 0) := by rw [c3]; simp [vals]
          have c4'' : w6.cell? ⟨b3, o3 + j, none⟩ = some (.int .i64 0) := by rw [c4']; simp [vals]
          clear c3 c4' e0
          generalize L[j].1 = s at *
          generalize L[j].2 = v at *
          have q2 : decide ((k : Int) ≤ j) = false := by simpa using hlt2
          go_wp2
          go_quiet (fail)
          go_wp2
          go_roundw
          case rel => exact ⟨j + 1, by go_num, by omega, _, rfl⟩
          case measure => simp [intOf]; omega
        · obtain rfl : j = k := by omega
          have HBq := Lib.hid (below_drewN HB6.out q)
          have HOq := Lib.hid (HO6.out.drewN q)
          have H0q := Lib.hid (H06.out.drewN q)
          have HRq := Lib.hid (HR6.out.drewN q)
          clear HB6 HO6 H06 HR6 HP46 HX46 HP56 HX56
          generalize World.drewN w6 q = wq at *
          go_wp2_with (at_builtin; first | (refine wpList_appS _ rfl (.tmp 142) (.tmp 143) _ rfl 2 (by omega) wq.heap.size 35 j0 _ 24 Try.underlying22 HJ.out HY0.out HY1.out HY2.out rfl _ 0 0 [] rfl (own_empty_s 2 _ _ _ (Nat.le_refl _)) a j c (cellsI L) rfl (by rw [cellsI_length, HN.out]) (HRq.out.alloc _) (one_intr L) (by unfold maxLen; omega) (by omega) (by simp) ?_; intro A7 c7 w7 hown7 hg7 hb7; simp only [List.nil_append, Nat.zero_add] at hown7 ⊢; clear hg7; have HB7 := Lib.hid (((Below.refl _ _).alloc (Nat.le_refl _) _).trans hb7); clear hb7; have hz7 := HB7.out.size) | (refine wpList_appS _ rfl (.tmp 145) (.tmp 147) _ rfl 2 (by omega) wq.heap.size 35 j0 _ 24 Try.underlying22 HJ.out HY0.out HY1.out HY2.out rfl A7 j c7 (cellsI L) rfl (hown7.alloc _) (some ⟨w7.heap.size, 0, none⟩) 1 1 (cellsI [(nobody, 0)]) rfl rfl (Rd.fresh _ _ _ rfl) (one_intr _) (by unfold maxLen; omega) (by omega) (by simp; omega) ?_; intro A8 c8 w8 hown8 hg8 hb8; clear hg8; have HB8 := Lib.hid ((HB7.out.alloc hz7 _).trans hb8); have HOn8 := Lib.hid hown8; clear hb8 hown8 hown7))
          have HR8 := Lib.hid (show Rd w8 A8 (cellsI (oneL L nobody)) by rw [HOneC.out]; exact HOn8.out.rd)
          have H08 := Lib.hid (Rd.blk' (H0q.out.below HB8.out H0q.out.lt))
          have HBw := Lib.hid (HBq.out.trans (HB8.out.mono HBq.out.size))
          have hz8 := HBw.out.size
          have h0L : 0 < (valsI L).length := by rw [HVl.out]; omega
          obtain ⟨bA, oA, rfl, hbA, hallA, cA⟩ := (HOq.out.below HB8.out).at 0 (by simpa using h0L)
          obtain ⟨v0, v1⟩ := HVb.out (valsI L)[0] (List.getElem_mem h0L)
          rw [vals_get .i64 (valsI L) 0 h0L, Nat.add_zero] at cA
          generalize (valsI L)[0] = v at *
          clear hallA h0L HOq H0q HRq HB7 HB8 HOn8 HBq hz7 HVb hmk
          have hj0 : (0 : Int) < (j : Int) := by omega
          have hj1 : 0 < j := by omega
          go_cut [16, 17, 18] (fun x y z wx => ∃ E : Int, z = .int .i64 E ∧ Hid (Below w.heap.size w wx) ∧ Hid (E = 0 → ∃ A B c d, x = .slice (some A) (j + 1) c ∧ y = .slice B (j + 1) d ∧ ∃ zs ys : List Int, zs.length = j + 1 ∧ ys.length = j + 1 ∧ zs.getD (j + 1 - 1) 0 = 0 ∧ ys.getD (j + 1 - 1) 0 = 0 ∧ Rd wx (some A) (vals .i64 zs) ∧ Rd wx B (vals .i64 ys)))
          case first =>
            refine wp_region_noPanic ?_
            refine wp_region_held_drew (S := fun wx => wx.cell? ⟨bA, oA, none⟩ = some (.int .i64 v)) (by kernel_rfl) ?_ (fun hHeld => ?_)
            focus (try dsimp only); go_keep
            refine wpAnyH_take (i := 0) (oi := ⟨some 150, _, _, _, _, _⟩) (v := .slice A8 (j + 1) c8) rfl (by kernel_rfl) (by kernel_rfl) (by kernel_rfl) (fun _ _ _ h => h) (Or.inl ⟨by rfl, ?_⟩) (by assumption) ?_
            focus (intro w hSw; (try dsimp only at hSw); go_simp)
            try simp only [Act.put, List.setIfInBounds_toArray, List.set_cons_zero, List.set_cons_succ]
            refine wpAnyH_take (i := 2) (oi := ⟨some 152, _, _, _, _, _⟩) (v := .slice (some ⟨gN, 0, none⟩) j j) rfl (by kernel_rfl) (by kernel_rfl) (by kernel_rfl) (fun _ _ _ h => h) (Or.inl ⟨by rfl, ?_⟩) (by assumption) ?_
            focus (intro w hSw; (try dsimp only at hSw); go_simp)
            try simp only [Act.put, List.setIfInBounds_toArray, List.set_cons_zero, List.set_cons_succ]
            refine wpAnyH_take (i := 6) (oi := ⟨some 156, _, _, _, _, _⟩) (v := .slice (some ⟨bA, oA, none⟩) j d) rfl (by kernel_rfl) (by kernel_rfl) (by kernel_rfl) (fun _ _ _ h => h) (Or.inl ⟨by rfl, ?_⟩) (by assumption) ?_
            focus (intro w hSw; (try dsimp only at hSw); go_simp)
            try simp only [Act.put, List.setIfInBounds_toArray, List.set_cons_zero, List.set_cons_succ]
            refine wpAnyH_take (i := 7) (oi := ⟨some 157, _, _, _, _, _⟩) (v := .pointer (some ⟨bA, oA, none⟩)) rfl (by kernel_rfl) (by kernel_rfl) (by kernel_rfl) (fun _ _ _ h => h) (Or.inl ⟨by rfl, ?_⟩) (by assumption) ?_
            focus (intro w hSw; (try dsimp only at hSw); go_simp)
            try simp only [Act.put, List.setIfInBounds_toArray, List.set_cons_zero, List.set_cons_succ]
            refine wpAnyH_take (i := 8) (oi := ⟨some 158, _, _, _, _, _⟩) (v := .int .i64 v) rfl (by kernel_rfl) (by kernel_rfl) (by kernel_rfl) (fun _ _ _ h => h) (Or.inl ⟨by rfl, ?_⟩) (by assumption) ?_
            focus (intro w hSw; (try dsimp only at hSw); go_simp)
            try simp only [Act.put, List.setIfInBounds_toArray, List.set_cons_zero, List.set_cons_succ]
            refine wpAnyH_take (i := 9) (oi := ⟨some 159, _, _, _, _, _⟩) (v := .int .i64 (min v 9)) rfl (by kernel_rfl) (by kernel_rfl) (by kernel_rfl) (fun _ _ _ h => h) (Or.inl ⟨by rfl, ?_⟩) (by assumption) ?_
            focus (intro w hSw; (try dsimp only at hSw); go_simp)
            try simp only [Act.put, List.setIfInBounds_toArray, List.set_cons_zero, List.set_cons_succ]
            refine wpAnyH_ready (rs := [1, 4]) (by kernel_rfl) (by simp) ?_
            refine AllReadyH.cons (o := ⟨some 151, _, _, _, _, _⟩) rfl (fun K hK => ?_) ?_
            focus
              go_simp
              refine hK.out _ _ ?_ (fun hHeld => ?_)
              focus (try dsimp only); go_keep
              clear hK K
              try simp only [Act.put, List.setIfInBounds_toArray, List.set_cons_zero, List.set_cons_succ]
              refine wpAnyH_ready (rs := [3, 4]) (by kernel_rfl) (by simp) ?_
              refine AllReadyH.cons (o := ⟨some 153, _, _, _, _, _⟩) rfl (fun K hK => ?_) ?_
              focus
                ((with_reducible refine step_appS _ (o := ⟨some 153, _, _, _, _, _⟩) ?_ (.tmp 151) (.tmp 152) 23 ?_ 1 (by omega) w8.heap.size 2 i0 _ 8 Try.underlying23 HI.out HZ0.out HZ1.out HZ2.out ?_ (some ⟨w8.heap.size, 0, none⟩) 0 0 [] ?_ ?_ (some ⟨gN, 0, none⟩) j j (vals .i64 (List.replicate j 0)) ?_ ?_ ?_ ?_ ?_ ?_ ?_ ?_); (focus rfl); (focus rfl); (focus rfl); (focus (simp [go_sem]; done)); (focus (repeat (first | (exact own_empty_at _ _ _ _ (by omega) (by first | rfl | (simp; done) | (simp [go_sem]; done) | (simp [World.drew]; done))) | (with_reducible refine OwnS.drew ?_) | (with_reducible refine OwnS.alloc ?_ _)))); (focus (simp [go_sem]; done)); (focus (simp; done)); (focus (repeat (first | (with_reducible exact H08.out) | (with_reducible refine Rd.drew ?_) | (with_reducible refine Rd.alloc ?_ _)))); (focus exact one_vals _ _); (focus (unfold maxLen; omega)); (focus omega); (focus (first | exact Nat.le_refl _ | omega | assumption | (simp; done) | (simp; omega))); (intro A9 c9 w9 hown9 hg9 hb9); (simp only [List.nil_append, Nat.zero_add] at hown9 ⊢); skip; (have HB9 := Lib.hid (show Below w8.heap.size w8 w9 from Below.trans (by (repeat' (first | (with_reducible exact Below.refl _ _) | (with_reducible assumption) | (with_reducible refine below_drewN ?_ _) | (with_reducible refine Below.drew ?_) | (with_reducible refine Below.alloc ?_ ?_ _) | (first | exact Nat.le_refl _ | omega | (simp; done) | (simp; omega))))) hb9)); (have k9 : w9.cell? ⟨bA, oA, none⟩ = some (.int .i64 v) := (HB9.out.cell (p := ⟨bA, oA, none⟩) hbA).trans cA); (have z9 := HB9.out.size); (have HO9 := Lib.hid hown9); (clear hown9 hg9 hb9))
                refine hK.out _ _ ?_ (fun hHeld => ?_)
                focus (try dsimp only); go_keep
                clear hK K
                try simp only [Act.put, List.setIfInBounds_toArray, List.set_cons_zero, List.set_cons_succ]
                refine wpAnyH_ready (rs := [4]) (by kernel_rfl) (by simp) ?_
                refine AllReadyH.cons (o := ⟨some 154, _, _, _, _, _⟩) rfl (fun K hK => ?_) ?_
                focus
                  go_simp
                  refine hK.out _ _ ?_ (fun hHeld => ?_)
                  focus (try dsimp only); go_keep
                  clear hK K
                  try simp only [Act.put, List.setIfInBounds_toArray, List.set_cons_zero, List.set_cons_succ]
                  refine wpAnyH_ready (rs := [5]) (by kernel_rfl) (by simp) ?_
                  refine AllReadyH.cons (o := ⟨some 155, _, _, _, _, _⟩) rfl (fun K hK => ?_) ?_
                  focus
                    ((with_reducible refine step_appS _ (o := ⟨some 155, _, _, _, _, _⟩) ?_ (.tmp 153) (.tmp 154) 23 ?_ 1 (by omega) w8.heap.size 2 i0 _ 8 Try.underlying23 HI.out HZ0.out HZ1.out HZ2.out ?_ A9 j c9 (vals .i64 (List.replicate j 0)) ?_ ?_ (some ⟨w9.heap.size, 0, none⟩) 1 1 (vals .i64 [0]) ?_ ?_ ?_ ?_ ?_ ?_ ?_ ?_); (focus rfl); (focus rfl); (focus rfl); (focus (simp [go_sem]; done)); (focus (repeat (first | (with_reducible exact HO9.out) | (with_reducible refine OwnS.drew ?_) | (with_reducible refine OwnS.alloc ?_ _)))); (focus (simp [go_sem]; done)); (focus rfl); (focus (refine rd_zero (t := 2) ?_; (repeat (first | (exact Blk.at _ _ _ (by first | rfl | (simp; done) | (simp [go_sem]; done) | (simp [World.drew]; done))) | (with_reducible refine Blk.drew ?_) | (with_reducible refine Blk.alloc ?_ _))))); (focus exact one_vals _ _); (focus (unfold maxLen; omega)); (focus omega); (focus (first | exact Nat.le_refl _ | omega | assumption | (simp; done) | (simp; omega))); (intro A10 c10 w10 hown10 hg10 hb10); (have HB10 := Lib.hid (show Below w8.heap.size w8 w10 from Below.trans (by have HBx := HB9.out; (repeat' (first | (with_reducible exact Below.refl _ _) | (with_reducible assumption) | (with_reducible refine below_drewN ?_ _) | (with_reducible refine Below.drew ?_) | (with_reducible refine Below.alloc ?_ ?_ _) | (first | exact Nat.le_refl _ | omega | (simp; done) | (simp; omega))))) hb10)); (have k10 : w10.cell? ⟨bA, oA, none⟩ = some (.int .i64 v) := (HB10.out.cell (p := ⟨bA, oA, none⟩) hbA).trans cA); (have HG10 := Lib.hid (show Rd w10 A10 (vals .i64 (List.replicate (j + 1) 0)) from (by rw [← one_gone]; exact OwnS.rd hown10))); (clear hown10 hg10 hb10))
                    refine hK.out _ _ ?_ (fun hHeld => ?_)
                    focus (try dsimp only); go_keep
                    clear hK K
                    try simp only [Act.put, List.setIfInBounds_toArray, List.set_cons_zero, List.set_cons_succ]
                    refine wpAnyH_ready (rs := [10]) (by kernel_rfl) (by simp) ?_
                    refine AllReadyH.cons (o := ⟨some 160, _, _, _, _, _⟩) rfl (fun K hK => ?_) ?_
                    focus
                      go_simp
                      go_at_call 20; (with_reducible refine (HOne.out _ _ _ _ _ _ (by repeat (first | (with_reducible exact HR8.out.below HB10.out) | (with_reducible refine Rd.drew ?_))) (by repeat (first | (with_reducible exact HG10.out) | (with_reducible refine Rd.drew ?_)))).mono ?_); (rintro e w11 ⟨X, Y, E, rfl, hb11, hX⟩); (have HB11 := Lib.hid (HB10.out.trans (hb11.mono HB10.out.size))); (have k11 : w11.cell? ⟨bA, oA, none⟩ = some (.int .i64 v) := (HB11.out.cell (p := ⟨bA, oA, none⟩) hbA).trans cA); (clear hb11); (try go_wp2_with fail)
                      refine hK.out _ _ ?_ (fun hHeld => ?_)
                      focus (try dsimp only); go_keep
                      clear hK K
                      try simp only [Act.put, List.setIfInBounds_toArray, List.set_cons_zero, List.set_cons_succ]
                      refine wpAnyH_take (i := 11) (oi := ⟨some 149, _, _, _, _, _⟩) (v := .tuple #[X, Y, .int .i64 E]) rfl (by kernel_rfl) (by kernel_rfl) (by kernel_rfl) (fun _ _ _ h => h) (Or.inl ⟨by rfl, ?_⟩) (by assumption) ?_
                      focus (intro w hSw; (try dsimp only at hSw); go_simp)
                      try simp only [Act.put, List.setIfInBounds_toArray, List.set_cons_zero, List.set_cons_succ]
                      refine wpAnyH_take (i := 12) (oi := ⟨some 161, _, _, _, _, _⟩) (v := X) rfl (by kernel_rfl) (by kernel_rfl) (by kernel_rfl) (fun _ _ _ h => h) (Or.inl ⟨by rfl, ?_⟩) (by assumption) ?_
                      focus (intro w hSw; (try dsimp only at hSw); go_simp)
                      try simp only [Act.put, List.setIfInBounds_toArray, List.set_cons_zero, List.set_cons_succ]
                      refine wpAnyH_take (i := 13) (oi := ⟨some 162, _, _, _, _, _⟩) (v := Y) rfl (by kernel_rfl) (by kernel_rfl) (by kernel_rfl) (fun _ _ _ h => h) (Or.inl ⟨by rfl, ?_⟩) (by assumption) ?_
                      focus (intro w hSw; (try dsimp only at hSw); go_simp)
                      try simp only [Act.put, List.setIfInBounds_toArray, List.set_cons_zero, List.set_cons_succ]
                      refine wpAnyH_take (i := 14) (oi := ⟨some 163, _, _, _, _, _⟩) (v := .int .i64 E) rfl (by kernel_rfl) (by kernel_rfl) (by kernel_rfl) (fun _ _ _ h => h) (Or.inl ⟨by rfl, ?_⟩) (by assumption) ?_
                      focus (intro w hSw; (try dsimp only at hSw); go_simp)
                      try simp only [Act.put, List.setIfInBounds_toArray, List.set_cons_zero, List.set_cons_succ]
                      refine wpAnyH_take (i := 15) (oi := ⟨some 16, _, _, _, _, _⟩) (v := X) rfl (by kernel_rfl) (by kernel_rfl) (by kernel_rfl) (fun _ _ _ h => h) (Or.inl ⟨by rfl, ?_⟩) (by assumption) ?_
                      focus (intro w hSw; (try dsimp only at hSw); go_simp)
                      try simp only [Act.put, List.setIfInBounds_toArray, List.set_cons_zero, List.set_cons_succ]
                      refine wpAnyH_take (i := 16) (oi := ⟨some 17, _, _, _, _, _⟩) (v := Y) rfl (by kernel_rfl) (by kernel_rfl) (by kernel_rfl) (fun _ _ _ h => h) (Or.inl ⟨by rfl, ?_⟩) (by assumption) ?_
                      focus (intro w hSw; (try dsimp only at hSw); go_simp)
                      try simp only [Act.put, List.setIfInBounds_toArray, List.set_cons_zero, List.set_cons_succ]
                      refine wpAnyH_take (i := 17) (oi := ⟨some 18, _, _, _, _, _⟩) (v := .int .i64 E) rfl (by kernel_rfl) (by kernel_rfl) (by kernel_rfl) (fun _ _ _ h => h) (Or.inl ⟨by rfl, ?_⟩) (by assumption) ?_
                      focus (intro w hSw; (try dsimp only at hSw); go_simp)
                      try simp only [Act.put, List.setIfInBounds_toArray, List.set_cons_zero, List.set_cons_succ]
                      refine wpAnyH_done (by kernel_rfl) ?_ _
                      refine NoPanic.normal ?_
                      have HBe := Lib.hid (HBw.out.trans (HB11.out.mono hz8))
                      go_wp2_with fail
                      go_meet
                      exact ⟨E, rfl, HBe, hX⟩
                    exact AllReadyH.nil
                  exact AllReadyH.nil
                exact AllReadyH.nil
              refine AllReadyH.cons (o := ⟨some 154, _, _, _, _, _⟩) rfl (fun K hK => ?_) ?_
              focus
                go_simp
                refine hK.out _ _ ?_ (fun hHeld => ?_)
                focus (try dsimp only); go_keep
                clear hK K
                try simp only [Act.put, List.setIfInBounds_toArray, List.set_cons_zero, List.set_cons_succ]
                refine wpAnyH_ready (rs := [3]) (by kernel_rfl) (by simp) ?_
                refine AllReadyH.cons (o := ⟨some 153, _, _, _, _, _⟩) rfl (fun K hK => ?_) ?_
                focus
                  ((with_reducible refine step_appS _ (o := ⟨some 153, _, _, _, _, _⟩) ?_ (.tmp 151) (.tmp 152) 23 ?_ 1 (by omega) w8.heap.size 2 i0 _ 8 Try.underlying23 HI.out HZ0.out HZ1.out HZ2.out ?_ (some ⟨w8.heap.size, 0, none⟩) 0 0 [] ?_ ?_ (some ⟨gN, 0, none⟩) j j (vals .i64 (List.replicate j 0)) ?_ ?_ ?_ ?_ ?_ ?_ ?_ ?_); (focus rfl); (focus rfl); (focus rfl); (focus (simp [go_sem]; done)); (focus (repeat (first | (exact own_empty_at _ _ _ _ (by omega) (by first | rfl | (simp; done) | (simp [go_sem]; done) | (simp [World.drew]; done))) | (with_reducible refine OwnS.drew ?_) | (with_reducible refine OwnS.alloc ?_ _)))); (focus (simp [go_sem]; done)); (focus (simp; done)); (focus (repeat (first | (with_reducible exact H08.out) | (with_reducible refine Rd.drew ?_) | (with_reducible refine Rd.alloc ?_ _)))); (focus exact one_vals _ _); (focus (unfold maxLen; omega)); (focus omega); (focus (first | exact Nat.le_refl _ | omega | assumption | (simp; done) | (simp; omega))); (intro A9 c9 w9 hown9 hg9 hb9); (simp only [List.nil_append, Nat.zero_add] at hown9 ⊢); (have K9 := Lib.hid (Blk.grown (g := (w8.heap.size + 1)) (t := 2) (cs := #[.int .i64 0]) ?_ hg9 (by simp [Value.ownBlock]))); rotate_left; (focus ((repeat (first | (exact Blk.at _ _ _ (by first | rfl | (simp; done) | (simp [go_sem]; done) | (simp [World.drew]; done))) | (with_reducible refine Blk.drew ?_) | (with_reducible refine Blk.alloc ?_ _))); done)); (have HB9 := Lib.hid (show Below w8.heap.size w8 w9 from Below.trans (by (repeat' (first | (with_reducible exact Below.refl _ _) | (with_reducible assumption) | (with_reducible refine below_drewN ?_ _) | (with_reducible refine Below.drew ?_) | (with_reducible refine Below.alloc ?_ ?_ _) | (first | exact Nat.le_refl _ | omega | (simp; done) | (simp; omega))))) hb9)); (have k9 : w9.cell? ⟨bA, oA, none⟩ = some (.int .i64 v) := (HB9.out.cell (p := ⟨bA, oA, none⟩) hbA).trans cA); (have z9 := HB9.out.size); (have HO9 := Lib.hid hown9); (clear hown9 hg9 hb9))
                  refine hK.out _ _ ?_ (fun hHeld => ?_)
                  focus (try dsimp only); go_keep
                  clear hK K
                  try simp only [Act.put, List.setIfInBounds_toArray, List.set_cons_zero, List.set_cons_succ]
                  refine wpAnyH_ready (rs := [5]) (by kernel_rfl) (by simp) ?_
                  refine AllReadyH.cons (o := ⟨some 155, _, _, _, _, _⟩) rfl (fun K hK => ?_) ?_
                  focus
                    ((with_reducible refine step_appS _ (o := ⟨some 155, _, _, _, _, _⟩) ?_ (.tmp 153) (.tmp 154) 23 ?_ 1 (by omega) w8.heap.size 2 i0 _ 8 Try.underlying23 HI.out HZ0.out HZ1.out HZ2.out ?_ A9 j c9 (vals .i64 (List.replicate j 0)) ?_ ?_ (some ⟨(w8.heap.size + 1), 0, none⟩) 1 1 (vals .i64 [0]) ?_ ?_ ?_ ?_ ?_ ?_ ?_ ?_); (focus rfl); (focus rfl); (focus rfl); (focus (simp [go_sem]; done)); (focus (repeat (first | (with_reducible exact HO9.out) | (with_reducible refine OwnS.drew ?_) | (with_reducible refine OwnS.alloc ?_ _)))); (focus (simp [go_sem]; done)); (focus rfl); (focus (refine rd_zero (t := 2) ?_; (repeat (first | (with_reducible exact K9.out) | (with_reducible refine Blk.drew ?_) | (with_reducible refine Blk.alloc ?_ _))))); (focus exact one_vals _ _); (focus (unfold maxLen; omega)); (focus omega); (focus (first | exact Nat.le_refl _ | omega | assumption | (simp; done) | (simp; omega))); (intro A10 c10 w10 hown10 hg10 hb10); (have HB10 := Lib.hid (show Below w8.heap.size w8 w10 from Below.trans (by have HBx := HB9.out; (repeat' (first | (with_reducible exact Below.refl _ _) | (with_reducible assumption) | (with_reducible refine below_drewN ?_ _) | (with_reducible refine Below.drew ?_) | (with_reducible refine Below.alloc ?_ ?_ _) | (first | exact Nat.le_refl _ | omega | (simp; done) | (simp; omega))))) hb10)); (have k10 : w10.cell? ⟨bA, oA, none⟩ = some (.int .i64 v) := (HB10.out.cell (p := ⟨bA, oA, none⟩) hbA).trans cA); (have HG10 := Lib.hid (show Rd w10 A10 (vals .i64 (List.replicate (j + 1) 0)) from (by rw [← one_gone]; exact OwnS.rd hown10))); (clear hown10 hg10 hb10))
                    refine hK.out _ _ ?_ (fun hHeld => ?_)
                    focus (try dsimp only); go_keep
                    clear hK K
                    try simp only [Act.put, List.setIfInBounds_toArray, List.set_cons_zero, List.set_cons_succ]
                    refine wpAnyH_ready (rs := [10]) (by kernel_rfl) (by simp) ?_
                    refine AllReadyH.cons (o := ⟨some 160, _, _, _, _, _⟩) rfl (fun K hK => ?_) ?_
                    focus
                      go_simp
                      go_at_call 20; (with_reducible refine (HOne.out _ _ _ _ _ _ (by repeat (first | (with_reducible exact HR8.out.below HB10.out) | (with_reducible refine Rd.drew ?_))) (by repeat (first | (with_reducible exact HG10.out) | (with_reducible refine Rd.drew ?_)))).mono ?_); (rintro e w11 ⟨X, Y, E, rfl, hb11, hX⟩); (have HB11 := Lib.hid (HB10.out.trans (hb11.mono HB10.out.size))); (have k11 : w11.cell? ⟨bA, oA, none⟩ = some (.int .i64 v) := (HB11.out.cell (p := ⟨bA, oA, none⟩) hbA).trans cA); (clear hb11); (try go_wp2_with fail)
                      refine hK.out _ _ ?_ (fun hHeld => ?_)
                      focus (try dsimp only); go_keep
                      clear hK K
                      try simp only [Act.put, List.setIfInBounds_toArray, List.set_cons_zero, List.set_cons_succ]
                      refine wpAnyH_take (i := 11) (oi := ⟨some 149, _, _, _, _, _⟩) (v := .tuple #[X, Y, .int .i64 E]) rfl (by kernel_rfl) (by kernel_rfl) (by kernel_rfl) (fun _ _ _ h => h) (Or.inl ⟨by rfl, ?_⟩) (by assumption) ?_
                      focus (intro w hSw; (try dsimp only at hSw); go_simp)
                      try simp only [Act.put, List.setIfInBounds_toArray, List.set_cons_zero, List.set_cons_succ]
                      refine wpAnyH_take (i := 12) (oi := ⟨some 161, _, _, _, _, _⟩) (v := X) rfl (by kernel_rfl) (by kernel_rfl) (by kernel_rfl) (fun _ _ _ h => h) (Or.inl ⟨by rfl, ?_⟩) (by assumption) ?_
                      focus (intro w hSw; (try dsimp only at hSw); go_simp)
                      try simp only [Act.put, List.setIfInBounds_toArray, List.set_cons_zero, List.set_cons_succ]
                      refine wpAnyH_take (i := 13) (oi := ⟨some 162, _, _, _, _, _⟩) (v := Y) rfl (by kernel_rfl) (by kernel_rfl) (by kernel_rfl) (fun _ _ _ h => h) (Or.inl ⟨by rfl, ?_⟩) (by assumption) ?_
                      focus (intro w hSw; (try dsimp only at hSw); go_simp)
                      try simp only [Act.put, List.setIfInBounds_toArray, List.set_cons_zero, List.set_cons_succ]
                      refine wpAnyH_take (i := 14) (oi := ⟨some 163, _, _, _, _, _⟩) (v := .int .i64 E) rfl (by kernel_rfl) (by kernel_rfl) (by kernel_rfl) (fun _ _ _ h => h) (Or.inl ⟨by rfl, ?_⟩) (by assumption) ?_
                      focus (intro w hSw; (try dsimp only at hSw); go_simp)
                      try simp only [Act.put, List.setIfInBounds_toArray, List.set_cons_zero, List.set_cons_succ]
                      refine wpAnyH_take (i := 15) (oi := ⟨some 16, _, _, _, _, _⟩) (v := X) rfl (by kernel_rfl) (by kernel_rfl) (by kernel_rfl) (fun _ _ _ h => h) (Or.inl ⟨by rfl, ?_⟩) (by assumption) ?_
                      focus (intro w hSw; (try dsimp only at hSw); go_simp)
                      try simp only [Act.put, List.setIfInBounds_toArray, List.set_cons_zero, List.set_cons_succ]
                      refine wpAnyH_take (i := 16) (oi := ⟨some 17, _, _, _, _, _⟩) (v := Y) rfl (by kernel_rfl) (by kernel_rfl) (by kernel_rfl) (fun _ _ _ h => h) (Or.inl ⟨by rfl, ?_⟩) (by assumption) ?_
                      focus (intro w hSw; (try dsimp only at hSw); go_simp)
                      try simp only [Act.put, List.setIfInBounds_toArray, List.set_cons_zero, List.set_cons_succ]
                      refine wpAnyH_take (i := 17) (oi := ⟨some 18, _, _, _, _, _⟩) (v := .int .i64 E) rfl (by kernel_rfl) (by kernel_rfl) (by kernel_rfl) (fun _ _ _ h => h) (Or.inl ⟨by rfl, ?_⟩) (by assumption) ?_
                      focus (intro w hSw; (try dsimp only at hSw); go_simp)
                      try simp only [Act.put, List.setIfInBounds_toArray, List.set_cons_zero, List.set_cons_succ]
                      refine wpAnyH_done (by kernel_rfl) ?_ _
                      refine NoPanic.normal ?_
                      have HBe := Lib.hid (HBw.out.trans (HB11.out.mono hz8))
                      go_wp2_with fail
                      go_meet
                      exact ⟨E, rfl, HBe, hX⟩
                    exact AllReadyH.nil
                  exact AllReadyH.nil
                exact AllReadyH.nil
              exact AllReadyH.nil
            refine AllReadyH.cons (o := ⟨some 154, _, _, _, _, _⟩) rfl (fun K hK => ?_) ?_
            focus
              go_simp
              refine hK.out _ _ ?_ (fun hHeld => ?_)
              focus (try dsimp only); go_keep
              clear hK K
              try simp only [Act.put, List.setIfInBounds_toArray, List.set_cons_zero, List.set_cons_succ]
              refine wpAnyH_ready (rs := [1]) (by kernel_rfl) (by simp) ?_
              refine AllReadyH.cons (o := ⟨some 151, _, _, _, _, _⟩) rfl (fun K hK => ?_) ?_
              focus
                go_simp
                refine hK.out _ _ ?_ (fun hHeld => ?_)
                focus (try dsimp only); go_keep
                clear hK K
                try simp only [Act.put, List.setIfInBounds_toArray, List.set_cons_zero, List.set_cons_succ]
                refine wpAnyH_ready (rs := [3]) (by kernel_rfl) (by simp) ?_
                refine AllReadyH.cons (o := ⟨some 153, _, _, _, _, _⟩) rfl (fun K hK => ?_) ?_
                focus
                  ((with_reducible refine step_appS _ (o := ⟨some 153, _, _, _, _, _⟩) ?_ (.tmp 151) (.tmp 152) 23 ?_ 1 (by omega) w8.heap.size 2 i0 _ 8 Try.underlying23 HI.out HZ0.out HZ1.out HZ2.out ?_ (some ⟨(w8.heap.size + 1), 0, none⟩) 0 0 [] ?_ ?_ (some ⟨gN, 0, none⟩) j j (vals .i64 (List.replicate j 0)) ?_ ?_ ?_ ?_ ?_ ?_ ?_ ?_); (focus rfl); (focus rfl); (focus rfl); (focus (simp [go_sem]; done)); (focus (repeat (first | (exact own_empty_at _ _ _ _ (by omega) (by first | rfl | (simp; done) | (simp [go_sem]; done) | (simp [World.drew]; done))) | (with_reducible refine OwnS.drew ?_) | (with_reducible refine OwnS.alloc ?_ _)))); (focus (simp [go_sem]; done)); (focus (simp; done)); (focus (repeat (first | (with_reducible exact H08.out) | (with_reducible refine Rd.drew ?_) | (with_reducible refine Rd.alloc ?_ _)))); (focus exact one_vals _ _); (focus (unfold maxLen; omega)); (focus omega); (focus (first | exact Nat.le_refl _ | omega | assumption | (simp; done) | (simp; omega))); (intro A9 c9 w9 hown9 hg9 hb9); (simp only [List.nil_append, Nat.zero_add] at hown9 ⊢); (have K9 := Lib.hid (Blk.grown (g := w8.heap.size) (t := 2) (cs := #[.int .i64 0]) ?_ hg9 (by simp [Value.ownBlock]))); rotate_left; (focus ((repeat (first | (exact Blk.at _ _ _ (by first | rfl | (simp; done) | (simp [go_sem]; done) | (simp [World.drew]; done))) | (with_reducible refine Blk.drew ?_) | (with_reducible refine Blk.alloc ?_ _))); done)); (have HB9 := Lib.hid (show Below w8.heap.size w8 w9 from Below.trans (by (repeat' (first | (with_reducible exact Below.refl _ _) | (with_reducible assumption) | (with_reducible refine below_drewN ?_ _) | (with_reducible refine Below.drew ?_) | (with_reducible refine Below.alloc ?_ ?_ _) | (first | exact Nat.le_refl _ | omega | (simp; done) | (simp; omega))))) hb9)); (have k9 : w9.cell? ⟨bA, oA, none⟩ = some (.int .i64 v) := (HB9.out.cell (p := ⟨bA, oA, none⟩) hbA).trans cA); (have z9 := HB9.out.size); (have HO9 := Lib.hid hown9); (clear hown9 hg9 hb9))
                  refine hK.out _ _ ?_ (fun hHeld => ?_)
                  focus (try dsimp only); go_keep
                  clear hK K
                  try simp only [Act.put, List.setIfInBounds_toArray, List.set_cons_zero, List.set_cons_succ]
                  refine wpAnyH_ready (rs := [5]) (by kernel_rfl) (by simp) ?_
                  refine AllReadyH.cons (o := ⟨some 155, _, _, _, _, _⟩) rfl (fun K hK => ?_) ?_
                  focus
                    ((with_reducible refine step_appS _ (o := ⟨some 155, _, _, _, _, _⟩) ?_ (.tmp 153) (.tmp 154) 23 ?_ 1 (by omega) w8.heap.size 2 i0 _ 8 Try.underlying23 HI.out HZ0.out HZ1.out HZ2.out ?_ A9 j c9 (vals .i64 (List.replicate j 0)) ?_ ?_ (some ⟨w8.heap.size, 0, none⟩) 1 1 (vals .i64 [0]) ?_ ?_ ?_ ?_ ?_ ?_ ?_ ?_); (focus rfl); (focus rfl); (focus rfl); (focus (simp [go_sem]; done)); (focus (repeat (first | (with_reducible exact HO9.out) | (with_reducible refine OwnS.drew ?_) | (with_reducible refine OwnS.alloc ?_ _)))); (focus (simp [go_sem]; done)); (focus rfl); (focus (refine rd_zero (t := 2) ?_; (repeat (first | (with_reducible exact K9.out) | (with_reducible refine Blk.drew ?_) | (with_reducible refine Blk.alloc ?_ _))))); (focus exact one_vals _ _); (focus (unfold maxLen; omega)); (focus omega); (focus (first | exact Nat.le_refl _ | omega | assumption | (simp; done) | (simp; omega))); (intro A10 c10 w10 hown10 hg10 hb10); (have HB10 := Lib.hid (show Below w8.heap.size w8 w10 from Below.trans (by have HBx := HB9.out; (repeat' (first | (with_reducible exact Below.refl _ _) | (with_reducible assumption) | (with_reducible refine below_drewN ?_ _) | (with_reducible refine Below.drew ?_) | (with_reducible refine Below.alloc ?_ ?_ _) | (first | exact Nat.le_refl _ | omega | (simp; done) | (simp; omega))))) hb10)); (have k10 : w10.cell? ⟨bA, oA, none⟩ = some (.int .i64 v) := (HB10.out.cell (p := ⟨bA, oA, none⟩) hbA).trans cA); (have HG10 := Lib.hid (show Rd w10 A10 (vals .i64 (List.replicate (j + 1) 0)) from (by rw [← one_gone]; exact OwnS.rd hown10))); (clear hown10 hg10 hb10))
                    refine hK.out _ _ ?_ (fun hHeld => ?_)
                    focus (try dsimp only); go_keep
                    clear hK K
                    try simp only [Act.put, List.setIfInBounds_toArray, List.set_cons_zero, List.set_cons_succ]
                    refine wpAnyH_ready (rs := [10]) (by kernel_rfl) (by simp) ?_
                    refine AllReadyH.cons (o := ⟨some 160, _, _, _, _, _⟩) rfl (fun K hK => ?_) ?_
                    focus
                      go_simp
                      go_at_call 20; (with_reducible refine (HOne.out _ _ _ _ _ _ (by repeat (first | (with_reducible exact HR8.out.below HB10.out) | (with_reducible refine Rd.drew ?_))) (by repeat (first | (with_reducible exact HG10.out) | (with_reducible refine Rd.drew ?_)))).mono ?_); (rintro e w11 ⟨X, Y, E, rfl, hb11, hX⟩); (have HB11 := Lib.hid (HB10.out.trans (hb11.mono HB10.out.size))); (have k11 : w11.cell? ⟨bA, oA, none⟩ = some (.int .i64 v) := (HB11.out.cell (p := ⟨bA, oA, none⟩) hbA).trans cA); (clear hb11); (try go_wp2_with fail)
                      refine hK.out _ _ ?_ (fun hHeld => ?_)
                      focus (try dsimp only); go_keep
                      clear hK K
                      try simp only [Act.put, List.setIfInBounds_toArray, List.set_cons_zero, List.set_cons_succ]
                      refine wpAnyH_take (i := 11) (oi := ⟨some 149, _, _, _, _, _⟩) (v := .tuple #[X, Y, .int .i64 E]) rfl (by kernel_rfl) (by kernel_rfl) (by kernel_rfl) (fun _ _ _ h => h) (Or.inl ⟨by rfl, ?_⟩) (by assumption) ?_
                      focus (intro w hSw; (try dsimp only at hSw); go_simp)
                      try simp only [Act.put, List.setIfInBounds_toArray, List.set_cons_zero, List.set_cons_succ]
                      refine wpAnyH_take (i := 12) (oi := ⟨some 161, _, _, _, _, _⟩) (v := X) rfl (by kernel_rfl) (by kernel_rfl) (by kernel_rfl) (fun _ _ _ h => h) (Or.inl ⟨by rfl, ?_⟩) (by assumption) ?_
                      focus (intro w hSw; (try dsimp only at hSw); go_simp)
                      try simp only [Act.put, List.setIfInBounds_toArray, List.set_cons_zero, List.set_cons_succ]
                      refine wpAnyH_take (i := 13) (oi := ⟨some 162, _, _, _, _, _⟩) (v := Y) rfl (by kernel_rfl) (by kernel_rfl) (by kernel_rfl) (fun _ _ _ h => h) (Or.inl ⟨by rfl, ?_⟩) (by assumption) ?_
                      focus (intro w hSw; (try dsimp only at hSw); go_simp)
                      try simp only [Act.put, List.setIfInBounds_toArray, List.set_cons_zero, List.set_cons_succ]
                      refine wpAnyH_take (i := 14) (oi := ⟨some 163, _, _, _, _, _⟩) (v := .int .i64 E) rfl (by kernel_rfl) (by kernel_rfl) (by kernel_rfl) (fun _ _ _ h => h) (Or.inl ⟨by rfl, ?_⟩) (by assumption) ?_
                      focus (intro w hSw; (try dsimp only at hSw); go_simp)
                      try simp only [Act.put, List.setIfInBounds_toArray, List.set_cons_zero, List.set_cons_succ]
                      refine wpAnyH_take (i := 15) (oi := ⟨some 16, _, _, _, _, _⟩) (v := X) rfl (by kernel_rfl) (by kernel_rfl) (by kernel_rfl) (fun _ _ _ h => h) (Or.inl ⟨by rfl, ?_⟩) (by assumption) ?_
                      focus (intro w hSw; (try dsimp only at hSw); go_simp)
                      try simp only [Act.put, List.setIfInBounds_toArray, List.set_cons_zero, List.set_cons_succ]
                      refine wpAnyH_take (i := 16) (oi := ⟨some 17, _, _, _, _, _⟩) (v := Y) rfl (by kernel_rfl) (by kernel_rfl) (by kernel_rfl) (fun _ _ _ h => h) (Or.inl ⟨by rfl, ?_⟩) (by assumption) ?_
                      focus (intro w hSw; (try dsimp only at hSw); go_simp)
                      try simp only [Act.put, List.setIfInBounds_toArray, List.set_cons_zero, List.set_cons_succ]
                      refine wpAnyH_take (i := 17) (oi := ⟨some 18, _, _, _, _, _⟩) (v := .int .i64 E) rfl (by kernel_rfl) (by kernel_rfl) (by kernel_rfl) (fun _ _ _ h => h) (Or.inl ⟨by rfl, ?_⟩) (by assumption) ?_
                      focus (intro w hSw; (try dsimp only at hSw); go_simp)
                      try simp only [Act.put, List.setIfInBounds_toArray, List.set_cons_zero, List.set_cons_succ]
                      refine wpAnyH_done (by kernel_rfl) ?_ _
                      refine NoPanic.normal ?_
                      have HBe := Lib.hid (HBw.out.trans (HB11.out.mono hz8))
                      go_wp2_with fail
                      go_meet
                      exact ⟨E, rfl, HBe, hX⟩
                    exact AllReadyH.nil
                  exact AllReadyH.nil
                exact AllReadyH.nil
              exact AllReadyH.nil
            exact AllReadyH.nil
          case rest =>
            obtain ⟨E, rfl, HBe, hX⟩ := hcut
            clear HBw cA HR8 H08
            by_cases hE0 : E = 0
            · obtain ⟨⟨bz, oz, fz⟩, By, cz, dz, rfl, rfl, zs, ys, z1, z2, z3, z4, z5, z6⟩ := hX.out hE0
              subst hE0
              obtain ⟨b1, o1, g1, g2, g3, g4⟩ := z5.at j (by simp; omega)
              obtain ⟨b2, o2, rfl, f2, f3, f4⟩ := z6.at j (by simp; omega)
              injection g1 with g1
              injection g1 with g1a g1b g1c
              subst g1a g1b g1c
              have d1 : (vals .i64 zs)[j]'(by simp; omega) = .int .i64 0 := by rw [vals_getD zs j (by omega)]; exact congrArg _ z3
              have d2 : (vals .i64 ys)[j]'(by simp; omega) = .int .i64 0 := by rw [vals_getD ys j (by omega)]; exact congrArg _ z4
              rw [d1] at g4
              rw [d2] at f4
              clear d1 d2 z1 z2 z3 z4 z5 z6 g3 f3 hX
              go_wp2
              go_ret
              exact ⟨rfl, HBe.out⟩
            · have t1 : (E != 0) = true := by simpa using hE0
              clear hX hE0
              go_wp2
              go_ret
              exact ⟨rfl, HBe.out⟩

end Go.Proofs.Ytbcmaaoddnaoiaa
