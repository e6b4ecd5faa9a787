/-
  average.Pays: its walk.
-/
import Derived.Test.YtbcmaaoddnaoiaaPayW
namespace Go.Proofs.Ytbcmaaoddnaoiaa
set_option linter.unusedVariables false
set_option linter.unusedSimpArgs false
open Go.RowKit

theorem subs_sum (gs ps : List Int) (h : ps.length = gs.length) (k : Nat) (hk : k ≤ gs.length) : sumL (subs gs ps k) = sumL gs - sumL (ps.take k) := by
  induction k with
  | zero => rw [subs_zero]; simp [sumL]
  | succ k ih =>
    rw [← subs_set gs ps k (by omega), sumL_set _ _ _ (by rw [subs_length]; omega), ih (by omega), subs_get _ _ _ _ (by omega), if_neg (by omega), sumL_take_succ' ps k (by omega)]
    have e : ps.getD k 0 = ps[k]'(by omega) := by rw [List.getD_eq_getElem?_getD, List.getElem?_eq_getElem (by omega)]; rfl
    rw [e]
    omega
theorem poss_nonneg (l : List Int) : 0 ≤ poss l := by
  induction l with
  | nil => simp [poss]
  | cons x r ih => simp only [poss]; omega
/-- What each gets, of a whole. -/
def getsOf (L : List (ByteArray × Int)) (gs : List Int) (spent : Int) : List Int := subs gs (partsOf (sumL gs + spent) (valsI L)) L.length
structure WholeF (L : List (ByteArray × Int)) (gs : List Int) (spent : Int) : Prop where
  glen : gs.length = L.length
  pos : 1 ≤ L.length
  few : L.length ≤ 4096
  sp : 0 ≤ spent ∧ spent ≤ 1099511627776
  sum : 0 ≤ sumL gs + spent ∧ sumL gs + spent ≤ 1099511627776 ∧ 0 ≤ sumL gs
  psum : sumL (partsOf (sumL gs + spent) (valsI L)) = sumL gs + spent
  gb : ∀ i, 0 ≤ gs.getD i 0 ∧ gs.getD i 0 ≤ 1099511627776
  pb : ∀ i, 0 ≤ (partsOf (sumL gs + spent) (valsI L)).getD i 0 ∧ (partsOf (sumL gs + spent) (valsI L)).getD i 0 ≤ 1099511627777
  vb : ∀ x ∈ valsI L, 0 ≤ x ∧ x ≤ 1099511627776
theorem whole_facts {L : List (ByteArray × Int)} {gs : List Int} {spent : Int} (he : wholeE L gs spent = 0) : WholeF L gs spent := by
  obtain ⟨h1, h2, h3⟩ := wholeE_zero he
  obtain ⟨g1, g2, g3, g4⟩ := adjE_zero h3
  obtain ⟨k1, k2, k3, k4, k5, k6⟩ := errS_zero g4
  obtain ⟨f1, f2, f3⟩ := given_facts h1
  rw [valsI_length] at k3 k4
  have hamt : 0 ≤ spent ∧ spent ≤ 1099511627776 := by unfold amtB at h2; simpa using h2
  have hS0 := sumL_nonneg (valsI L) fun x hx => (k5 x hx).1
  have hps : sumL (partsOf (sumL gs + spent) (valsI L)) = sumL gs + spent := by
    by_cases hS : sumL (valsI L) = 0
    · have hT : sumL gs + spent = 0 := by omega
      rw [hT, parts_zero _ fun x hx => (k5 x hx).1]
      have hrep : ∀ n, sumL (List.replicate n 0) = 0 := by
        intro n
        induction n with
        | zero => rfl
        | succ n ih => simp [List.replicate_succ, sumL, ih]
      rw [hrep]
    · exact parts_sum _ _ (by omega)
  refine ⟨f2, by omega, by omega, hamt, ⟨k1, k2, sumL_nonneg gs fun x hx => (f3 x hx).1⟩, hps, fun i => ?_, fun i => ?_, k5⟩
  · rw [List.getD_eq_getElem?_getD]
    by_cases hi : i < gs.length
    · rw [List.getElem?_eq_getElem hi]; exact f3 _ (List.getElem_mem hi)
    · rw [List.getElem?_eq_none (by omega)]; simp
  · by_cases hi : i < (valsI L).length
    · have p0 := parts_nonneg (sumL gs + spent) (valsI L) k1 (fun x hx => (k5 x hx).1) ((partsOf (sumL gs + spent) (valsI L)).getD i 0) (by
        have hi3 : i < (partsOf (sumL gs + spent) (valsI L)).length := by simpa using hi
        have e : (partsOf (sumL gs + spent) (valsI L)).getD i 0 = (partsOf (sumL gs + spent) (valsI L))[i] := by rw [List.getD_eq_getElem?_getD, List.getElem?_eq_getElem hi3]; rfl
        rw [e]; exact List.getElem_mem _)
      refine ⟨p0, ?_⟩
      rw [parts_get _ _ i hi]
      have hle : (sumL gs + spent) * (valsI L)[i] / sumL (valsI L) ≤ sumL gs + spent := by
        by_cases hS : sumL (valsI L) = 0
        · rw [hS]; simp; omega
        · have h6 := mem_le_sum (valsI L) (fun x hx => (k5 x hx).1) _ (List.getElem_mem hi)
          have h7 : (sumL gs + spent) * (valsI L)[i] ≤ (sumL gs + spent) * sumL (valsI L) := Int.mul_le_mul_of_nonneg_left h6 k1
          have h8 := Int.ediv_le_ediv (show 0 < sumL (valsI L) by omega) h7
          rwa [Int.mul_ediv_cancel _ (by omega)] at h8
      split <;> omega
    · rw [List.getD_eq_getElem?_getD, List.getElem?_eq_none (by simpa using hi)]; simp
theorem gets_facts {L : List (ByteArray × Int)} {gs : List Int} {spent : Int} (h : WholeF L gs spent) :
    (getsOf L gs spent).length = L.length ∧ sumL (getsOf L gs spent) = -spent ∧ negs (getsOf L gs spent) = spent + poss (getsOf L gs spent) ∧ (∀ i, -1099511627777 ≤ (getsOf L gs spent).getD i 0 ∧ (getsOf L gs spent).getD i 0 ≤ 1099511627776) := by
  have h1 : sumL (getsOf L gs spent) = -spent := by
    unfold getsOf
    rw [subs_sum _ _ (by rw [partsOf_length, valsI_length, h.glen]) _ (by rw [h.glen]; exact Nat.le_refl _), List.take_of_length_le (by rw [partsOf_length, valsI_length]; exact Nat.le_refl _), h.psum]
    omega
  have h2 := sum_negs (getsOf L gs spent)
  refine ⟨by simp [getsOf, h.glen], h1, by omega, fun i => ?_⟩
  have hg := h.gb i
  have hp := h.pb i
  by_cases hi : i < gs.length
  · unfold getsOf
    rw [subs_get _ _ _ _ hi]
    split <;> omega
  · have : (getsOf L gs spent).getD i 0 = 0 := by
      rw [List.getD_eq_getElem?_getD, List.getElem?_eq_none (by simp [getsOf]; omega)]; rfl
    rw [this]; omega

def namesB (L : List (ByteArray × Int)) : List ByteArray := L.map fun p => p.1
/-- The debts. -/
def debtsOf (L : List (ByteArray × Int)) (gs : List Int) (spent : Int) : List (ByteArray × ByteArray × Int) := (payS (namesB L) (getsOf L gs spent) spent L.length).2

set_option maxHeartbeats 800000 in
theorem c_pays_bad (a b : Option Addr) (n c m d : Nat) (L : List (ByteArray × Int)) (gs : List Int) (spent : Int) (w : World) (hn : L.length = n) (hm : n ≤ 4096) (hr : Rd w a (cellsI L)) (hs : ∀ p ∈ L, p.1.size ≤ 9223372036854775807) (hg : gs.length = m) (hgm : m ≤ 9223372036854775807) (hb : Rd w b (vals .i64 gs)) (he : wholeE L gs spent ≠ 0) :
    Calls Try.prog 17 #[.slice a n c, .slice b m d, .int .i64 spent] w fun e w' => e = .returned (.tuple #[.slice none 0 0, .int .i64 (wholeE L gs spent)]) ∧ Below w.heap.size w w' := by
  have HW := Lib.hid (c_whole_bad a b n c m d L gs spent (w.alloc (.cells #[.slice a n c] 22)) hn hm (hr.alloc _) hs hg hgm (hb.alloc _) he)
  have t1 : (wholeE L gs spent != 0) = true := by simpa using he
  clear hn hr hs hg hb he
  generalize wholeE L gs spent = E at *
  go_enter Try.func17, Try.ntmps17
  go_wp2_with fail
  refine HW.out.mono ?_
  rintro e w1 ⟨rfl, hb1⟩
  have HB := Lib.hid (((Below.refl w.heap.size w).alloc (Nat.le_refl _) _).trans (hb1.mono (by simp)))
  clear hb1
  go_wp2_with fail
  go_ret2
  exact ⟨rfl, HB.out.alloc HB.out.size _⟩

/-- Pays's answer. -/
def PaysOk (w : World) (O : List (ByteArray × ByteArray × Int)) (e : Ending) (w' : World) : Prop :=
  ∃ A c, e = .returned (.tuple #[.slice A O.length c, .int .i64 0]) ∧ OwnS 4 w' w.heap.size 40 A O.length c (cellsD O) ∧ Below w.heap.size w w'
theorem e_pay : EntersIs 45 := enters_of Try.func45 (by kernel_rfl) rfl
theorem payS_count (names : List ByteArray) (G : List Int) (spent : Int) (k : Nat) : (payS names G spent k).2.length ≤ (k + 1) * G.length := by
  induction k with
  | zero =>
    have := pf_count G.length G 0 spent
    simp only [payS, tell, List.length_map]
    omega
  | succ k ih =>
    have := pf_count G.length (payS names G spent k).1 0 (max ((payS names G spent k).1.getD k 0) 0)
    simp only [payS, tell, List.length_append, List.length_map]
    rw [Nat.add_mul (k + 1) 1]
    omega

/-- Where Pays stands behind k interests. -/
def PsAt (w0 wr : World) (lb g gb ob pb : Nat) (a : Option Addr) (n cL c : Nat) (names : List ByteArray) (G : List Int) (spent : Int) (k : Nat) : Prop :=
  ∃ p A c', PaySt w0 wr lb g gb ob pb a n cL c (payS names G spent k).1 p A c' (payS names G spent k).2 ∧ p ≤ n ∧ ∀ j, j < p → 0 ≤ (payS names G spent k).1.getD j 0
theorem PsAt.start {w0 wr : World} {lb g gb ob pb : Nat} {a : Option Addr} {n cL c : Nat} {names : List ByteArray} {G : List Int} {spent : Int} (hn : G.length = n) {e : Ending} (h : PayPost w0 lb g gb ob pb a n cL c (pf G 0 (n - 0) spent) names ⟨#[]⟩ [] e wr) : e = .returned (.tuple #[]) ∧ PsAt w0 wr lb g gb ob pb a n cL c names G spent 0 := by
  obtain ⟨h1, p, A, c', h2, h3, h4⟩ := h
  rw [Nat.sub_zero, ← hn] at h2 h4
  rw [← hn]
  rw [← hn] at h3
  exact ⟨h1, p, A, c', by simpa [payS] using h2, h3, by simpa [payS] using h4⟩
theorem PsAt.next {w0 wr : World} {lb g gb ob pb : Nat} {a : Option Addr} {n cL c : Nat} {names : List ByteArray} {G : List Int} {spent : Int} {k p : Nat} (hn : G.length = n) (hp : p ≤ n) (hpos : ∀ j, j < p → 0 ≤ (payS names G spent k).1.getD j 0)
    {e : Ending} (h : PayPost w0 lb g gb ob pb a n cL c (pf (payS names G spent k).1 p (n - p) (max ((payS names G spent k).1.getD k 0) 0)) names (names.getD k ⟨#[]⟩) (payS names G spent k).2 e wr) : e = .returned (.tuple #[]) ∧ PsAt w0 wr lb g gb ob pb a n cL c names G spent (k + 1) := by
  obtain ⟨h1, p', A, c', h2, h3, h4⟩ := h
  have e1 := pf_from (payS names G spent k).1 (max ((payS names G spent k).1.getD k 0) 0) p (n - p) hpos
  rw [show p + (n - p) = n by omega] at e1
  rw [← e1] at h2 h4
  subst hn
  exact ⟨h1, p', A, c', h2, h3, h4⟩

set_option maxRecDepth 100000 in
set_option maxHeartbeats 3200000 in
theorem c_pays (a b : Option Addr) (n c m d : Nat) (L : List (ByteArray × Int)) (gs : List Int) (spent : Int) (w : World) (hn : L.length = n) (hm : n ≤ 4096) (hr : Rd w a (cellsI L)) (hs : ∀ p ∈ L, p.1.size ≤ 9223372036854775807) (hg : gs.length = m) (hgm : m ≤ 9223372036854775807) (hb : Rd w b (vals .i64 gs)) (he : wholeE L gs spent = 0) :
    Calls Try.prog 17 #[.slice a n c, .slice b m d, .int .i64 spent] w (PaysOk w (debtsOf L gs spent)) := by
  have eg : ∀ args w, (callFunc 45 args).run Try.prog w = .ok (.enter 45 args) w := e_pay
  have HW := Lib.hid (c_whole a b n c m d L gs spent (w.alloc (.cells #[.slice a n c] 22)) hn hm (hr.alloc _) hs hg hgm (hb.alloc _) he)
  have F := whole_facts he
  obtain ⟨f1, f2, f3, f4⟩ := gets_facts F
  have hn1 := F.pos
  obtain ⟨s0, s1⟩ := F.sp
  have HR := Lib.hid hr
  have HN := Lib.hid hn
  have hGeq : getsOf L gs spent = subs gs (partsOf (sumL gs + spent) (valsI L)) n := by unfold getsOf; rw [hn]
  have hdb : debtsOf L gs spent = (payS (namesB L) (getsOf L gs spent) spent n).2 := by unfold debtsOf; rw [hn]
  have HDb := Lib.hid hdb
  have HPF := Lib.hid (fun k hk => payS_facts (namesB L) (getsOf L gs spent) spent s0 f3 k hk)
  have HPC := Lib.hid (fun k => payS_count (namesB L) (getsOf L gs spent) spent k)
  rw [hn] at f1 hn1
  unfold WholeOk at HW
  rw [← hGeq] at HW
  have HF1 := Lib.hid f1
  have HF4 := Lib.hid f4
  have HF3 := Lib.hid f3
  generalize getsOf L gs spent = G at *
  clear hn hr hs hg hb he F f1 f2 f3 f4 hGeq hdb
  go_enter Try.func17, Try.ntmps17
  go_wp2_with fail
  refine HW.out.mono ?_
  rintro e w1 ⟨b2, t2, A2, c2, rfl, hP2, hO2, hb2⟩
  have hb3 : Below w.heap.size w w1 := ((Below.refl w.heap.size w).alloc (Nat.le_refl _) _).trans (hb2.mono (by simp))
  have hl3 : Blk w1 w.heap.size 22 #[.slice a n c] := (Blk.new w _ _).below hb2 (by simp)
  have hz1 := hb2.size
  simp only [World.alloc, Array.size_push] at hz1 hO2
  rcases hO2.form with ⟨_, h0, _⟩ | ⟨g, rfl, hg1, hg2, _⟩
  · omega
  have S0 : Hid (PaySt w (((w1.alloc (.cells #[.slice (some ⟨g, 0, none⟩) n c2] 23)).alloc (.cells #[.slice none 0 0] 26)).alloc (.cells #[.int .i64 0] 3)) w.heap.size g w1.heap.size (w1.heap.size + 1) (w1.heap.size + 1 + 1) a n c c2 G 0 none 0 []) := Lib.hid
    { below := ((hb3.alloc hb3.size _).alloc (by have := hb3.size; simp; omega) _).alloc (by have := hb3.size; simp; omega) _
      lbx := ((hl3.alloc _).alloc _).alloc _
      gbx := ((Blk.new _ _ _).alloc _).alloc _
      pbx := Blk.at _ _ _ (by simp)
      obx := (Blk.at _ _ _ (by simp)).alloc _
      gets := ((hO2.alloc _).alloc _).alloc _
      out := OwnS.nil _ _ _
      ord := ⟨Nat.le_refl _, by omega, by omega, by omega, by omega⟩ }
  clear hP2 hO2 hb2 hb3 hl3 HW
  go_wp2_with fail
  generalize ((w1.alloc (.cells #[.slice (some ⟨g, 0, none⟩) n c2] 23)).alloc (.cells #[.slice none 0 0] 26)).alloc (.cells #[.int .i64 0] 3) = wa at S0 ⊢
  have hpa : PayAt w wa w.heap.size g w1.heap.size (w1.heap.size + 1) (w1.heap.size + 1 + 1) a n c c2 (pf G 0 (n - 0) spent) (namesB L) ⟨#[]⟩ [] spent G 0 none 0 [] :=
    ⟨S0.out, HF1.out, by omega, fun j hj => by omega, by have h1 := HF3.out; have h2 : 0 ≤ poss G := poss_nonneg G; omega, fun i => by have := HF4.out i; omega, by simp⟩
  refine (c_pay w wa w.heap.size g w1.heap.size (w1.heap.size + 1) (w1.heap.size + 1 + 1) a n c c2 (namesB L) ⟨#[]⟩ [] spent G 0 none 0 L HN.out rfl HR.out hm (by simp) s0 (by omega) hpa).mono ?_
  intro e w3 hpost
  obtain ⟨rfl, hps⟩ := PsAt.start HF1.out hpost
  have HPs := Lib.hid hps
  have hlx : Hid (w3.cell? ⟨w.heap.size, 0, none⟩ = some (.slice a n c)) := Lib.hid (by obtain ⟨p, A, c', h, _⟩ := hps; exact h.lbx.cell 0 rfl)
  have hlx2 := hlx.out
  clear hpost hps hpa S0
  generalize w1.heap.size = gb at *
  go_wp2_with fail
  clear hlx2 hlx
  go_loopw [33] (fun x wr => ∃ k : Nat, x = .int .i64 k ∧ k ≤ n ∧ Hid (PsAt w wr w.heap.size g gb (gb + 1) (gb + 1 + 1) a n c c2 (namesB L) G spent k)) (fun x _ => n - (intOf x).toNat)
  case atStart => exact ⟨0, rfl, by omega, HPs.out⟩
  case round =>
    obtain ⟨k, rfl, hk, hP⟩ := hrel
    clear HPs
    obtain ⟨p, A, c', S, hp1, hp2⟩ := hP.out
    by_cases hlt : k < n
    · have hkL : k < L.length := by rw [HN.out]; exact hlt
      obtain ⟨b5, o5, rfl, hb5, c5, c6⟩ := intr_at (HR.out.below S.below) k hkL
      obtain ⟨f1, f2, f3, f4⟩ := HPF.out k (by rw [HF1.out]; omega)
      have hcnt := HPC.out k
      rw [HF1.out] at f1 hcnt
      have hname : (namesB L).getD k ⟨#[]⟩ = L[k].1 := by simp [namesB, hkL]
      have S1 := S.alloc (.cells #[.string L[k].1, .int .i64 L[k].2] 35)
      obtain ⟨g2, e2, _, hgl, hgf, hgc, hgs⟩ := S1.gets.at k hlt
      injection e2 with e2
      injection e2 with e2
      subst e2
      have hGk : k < (payS (namesB L) G spent k).1.length := by rw [f1]; exact hlt
      have hgc2 : (wr.alloc (.cells #[.string L[k].1, .int .i64 L[k].2] 35)).cell? ⟨g, k, none⟩ = some (.int .i64 ((payS (namesB L) G spent k).1.getD k 0)) := by
        rw [hgc]
        simp only [vals, List.getElem?_map, List.getElem?_eq_getElem hGk, List.getD_eq_getElem?_getD, Option.getD_some, Option.map_some]
      have q1 := S1.gbx.cell 0 rfl
      have q2 : (wr.alloc (.cells #[.string L[k].1, .int .i64 L[k].2] 35)).cell? ⟨wr.heap.size, 0, none⟩ = some (.string L[k].1) := World.cell?_alloc_new _ _ _ _
      have hdue : max ((payS (namesB L) G spent k).1.getD k 0) 0 ≤ negs (payS (namesB L) G spent k).1 := by
        have h1 := poss_take_succ G k (by rw [HF1.out]; exact hlt)
        have h2 := poss_nonneg (G.drop (k + 1))
        have h3 := f2 k
        omega
      have hbnd : ∀ i, -4398046511104 ≤ (payS (namesB L) G spent k).1.getD i 0 ∧ (payS (namesB L) G spent k).1.getD i 0 ≤ 4398046511104 := fun i => by
        have h1 := f4 i
        have h2 := HF4.out i
        have h3 := f2 i
        omega
      have hb4 := hbnd k
      have hcnt2 : (payS (namesB L) G spent k).2.length ≤ 100000000 := by
        have : (k + 1) * n ≤ 4096 * 4096 := Nat.mul_le_mul (by omega) hm
        omega
      have HPay := Lib.hid (fun W (hS : PaySt w W w.heap.size g gb (gb + 1) (gb + 1 + 1) (some ⟨b5, o5, none⟩) n c c2 (payS (namesB L) G spent k).1 p A c' (payS (namesB L) G spent k).2) =>
        c_pay w W w.heap.size g gb (gb + 1) (gb + 1 + 1) (some ⟨b5, o5, none⟩) n c c2 (namesB L) ((namesB L).getD k ⟨#[]⟩) (payS (namesB L) G spent k).2 (max ((payS (namesB L) G spent k).1.getD k 0) 0) (payS (namesB L) G spent k).1 p A c' L HN.out rfl HR.out hm hcnt2 (by omega) (by omega)
          ⟨by simpa [tell] using hS, f1, hp1, hp2, hdue, hbnd, by simp⟩)
      rw [hname] at HPay
      have HNext := Lib.hid (fun e W h => PsAt.next (w0 := w) (wr := W) (e := e) (lb := w.heap.size) (g := g) (gb := gb) (ob := gb + 1) (pb := gb + 1 + 1) (a := some ⟨b5, o5, none⟩) (cL := c) (c := c2) (names := namesB L) (G := G) (spent := spent) (k := k) (p := p) HF1.out hp1 hp2 h)
      rw [hname] at HNext
      have HS1 := Lib.hid S1
      have hobl := S.below.size
      obtain ⟨x0, x1⟩ := hb4
      clear f1 f2 f3 f4 hcnt hname S1 hgc hgs hGk hdue hbnd hp2 S hcnt2
      generalize hs : L[k].1 = s at *
      generalize hv : L[k].2 = v at *
      generalize hx : (payS (namesB L) G spent k).1.getD k 0 = x at *
      clear hs hv hx
      go_wp2
      generalize wr.heap.size = xb at *
      generalize wr.alloc (.cells #[.string s, .int .i64 v] 35) = wq at *
      go_still_tail 8, (by kernel_rfl)
      change wpList _ _ _ _ _ (World.drew _)
      have hdr := Lib.hid (HPay.out _ HS1.out.drew)
      go_wp2_with fail
      refine hdr.out.mono ?_
      intro e w4 hpost
      obtain ⟨rfl, hps⟩ := HNext.out _ _ hpost
      have HPs4 := Lib.hid hps
      clear hpost hps
      go_wp2
      go_roundw
      case rel => exact ⟨k + 1, by go_num, by omega, HPs4.out⟩
      case measure => simp [intOf]; omega
    · obtain rfl : k = n := by omega
      have q3 := S.obx.cell 0 rfl
      have HS := Lib.hid S
      have hz9 := HS.out.below.size
      go_wp2
      go_ret2
      unfold PaysOk
      rw [HDb.out]
      exact ⟨A, c', rfl, HS.out.out.mono (by omega), HS.out.below⟩

end Go.Proofs.Ytbcmaaoddnaoiaa
