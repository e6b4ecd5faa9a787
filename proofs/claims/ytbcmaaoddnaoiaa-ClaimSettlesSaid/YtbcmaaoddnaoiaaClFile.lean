/-
  A claim's file in memory; New, Paid, left, out: their walks.
-/
import Derived.Test.YtbcmaaoddnaoiaaAppS
import Derived.Test.YtbcmaaoddnaoiaaSplitNum
import Derived.Test.YtbcmaaoddnaoiaaPolSl
import Derived.Deep.RegionHeld3
namespace Go.Proofs.Ytbcmaaoddnaoiaa
set_option linter.unusedVariables false
set_option linter.unusedSimpArgs false
open Go.RowKit

/-- A payment: whose, what was paid, what came back. -/
structure Pmt where
  n : ByteArray
  paid : Int
  back : Int
def cellsM : List Pmt → List Value
  | [] => []
  | p :: r => .string p.n :: .int .i64 p.paid :: .int .i64 p.back :: cellsM r
theorem cellsM_append (a b : List Pmt) : cellsM (a ++ b) = cellsM a ++ cellsM b := by
  induction a with
  | nil => rfl
  | cons x r ih => simp [cellsM, ih]
theorem cellsM_length (a : List Pmt) : (cellsM a).length = a.length * 3 := by
  induction a with
  | nil => rfl
  | cons x r ih => simp only [cellsM, List.length_cons, ih]; omega
theorem cellsM_get (P : List Pmt) (k : Nat) (h : k < P.length) : (cellsM P)[k * 3]? = some (.string P[k].n) ∧ (cellsM P)[k * 3 + 1]? = some (.int .i64 P[k].paid) ∧ (cellsM P)[k * 3 + 2]? = some (.int .i64 P[k].back) := by
  induction P generalizing k with
  | nil => simp at h
  | cons p r ih =>
    cases k with
    | zero => exact ⟨rfl, rfl, rfl⟩
    | succ k =>
      have e1 : (k + 1) * 3 = k * 3 + 1 + 1 + 1 := by omega
      rw [e1]
      exact ih k (by simpa using h)
theorem pmt_at {w : World} {a : Option Addr} {P : List Pmt} (h : Rd w a (cellsM P)) (k : Nat) (hk : k < P.length) :
    ∃ b o, a = some ⟨b, o, none⟩ ∧ b < w.heap.size ∧ w.cell? ⟨b, o + k * 3, none⟩ = some (.string P[k].n) ∧ w.cell? ⟨b, o + k * 3 + 1, none⟩ = some (.int .i64 P[k].paid) ∧ w.cell? ⟨b, o + k * 3 + 2, none⟩ = some (.int .i64 P[k].back) := by
  obtain ⟨b, o, e, hb, hr⟩ := h (by
    intro e
    have := cellsM_length P
    rw [e] at this
    simp at this
    omega)
  obtain ⟨g1, g2, g3⟩ := cellsM_get P k hk
  exact ⟨b, o, e, hb, hr _ _ g1, hr _ _ g2, hr _ _ g3⟩

/-- All that was paid; all that may still come back. -/
def sumP : List Pmt → Int
  | [] => 0
  | p :: r => p.paid + sumP r
def outP : List Pmt → Int
  | [] => 0
  | p :: r => (p.paid - p.back) + outP r
theorem sumP_take_succ (P : List Pmt) (k : Nat) (h : k < P.length) : sumP (P.take (k + 1)) = sumP (P.take k) + P[k].paid := by
  induction P generalizing k with
  | nil => simp at h
  | cons p r ih =>
    cases k with
    | zero => simp [sumP]
    | succ k =>
      have := ih k (by simpa using h)
      simp only [List.take_succ_cons, sumP, List.getElem_cons_succ]
      omega
theorem outP_take_succ (P : List Pmt) (k : Nat) (h : k < P.length) : outP (P.take (k + 1)) = outP (P.take k) + (P[k].paid - P[k].back) := by
  induction P generalizing k with
  | nil => simp at h
  | cons p r ih =>
    cases k with
    | zero => simp [outP]
    | succ k =>
      have := ih k (by simpa using h)
      simp only [List.take_succ_cons, outP, List.getElem_cons_succ]
      omega
theorem sumP_append (a b : List Pmt) : sumP (a ++ b) = sumP a + sumP b := by
  induction a with
  | nil => simp [sumP]
  | cons p r ih => simp only [List.cons_append, sumP, ih]; omega
/-- Numbers that a file may hold. -/
structure FileOk (loss value back : Int) (P : List Pmt) : Prop where
  v : 1 ≤ value ∧ value ≤ 1099511627776
  l : 0 ≤ loss ∧ loss ≤ value
  b : 0 ≤ back
  p : ∀ x ∈ P, 0 ≤ x.back ∧ x.back ≤ x.paid
  s : sumP P + back ≤ loss
theorem sumP_bd {P : List Pmt} (h : ∀ x ∈ P, 0 ≤ x.back ∧ x.back ≤ x.paid) (k : Nat) : 0 ≤ sumP (P.take k) ∧ sumP (P.take k) ≤ sumP P ∧ 0 ≤ outP (P.take k) ∧ outP (P.take k) ≤ sumP (P.take k) ∧ outP (P.take k) ≤ outP P := by
  induction P generalizing k with
  | nil => simp [sumP, outP]
  | cons p r ih =>
    have h1 := h p (by simp)
    have h2 := ih (fun x hx => h x (by simp [hx])) 
    cases k with
    | zero =>
      have := h2 r.length
      rw [List.take_length] at this
      simp only [List.take_zero, sumP, outP]
      omega
    | succ k =>
      have := h2 k
      simp only [List.take_succ_cons, sumP, outP]
      omega
theorem sumP_mem {P : List Pmt} (h : ∀ x ∈ P, 0 ≤ x.back ∧ x.back ≤ x.paid) : ∀ x ∈ P, x.paid ≤ sumP P := by
  induction P with
  | nil => intro x hx; cases hx
  | cons p r ih =>
    intro x hx
    have h1 := h p (by simp)
    have hr := fun x hx => h x (List.mem_cons_of_mem _ hx)
    have h2 := sumP_bd hr r.length
    rw [List.take_length] at h2
    simp only [sumP]
    rcases List.mem_cons.1 hx with rfl | hx
    · omega
    · have := ih hr x hx
      omega

/-- A file in memory. -/
structure FileAt (w : World) (g : Nat) (loss value back : Int) (A : Option Addr) (c : Nat) (P : List Pmt) : Prop where
  blk : Blk w g 106 #[.int .i64 loss, .int .i64 value, .slice A P.length c, .int .i64 back]
  row : OwnS 3 w (g + 1) 110 A P.length c (cellsM P)
theorem FileAt.below {w w' : World} {g : Nat} {loss value back : Int} {A : Option Addr} {c : Nat} {P : List Pmt} (h : FileAt w g loss value back A c P) (hb : Below w.heap.size w w') : FileAt w' g loss value back A c P := ⟨h.blk.below hb h.blk.lt, h.row.keep hb⟩
theorem FileAt.alloc {w : World} {g : Nat} {loss value back : Int} {A : Option Addr} {c : Nat} {P : List Pmt} (h : FileAt w g loss value back A c P) (o : Obj) : FileAt (w.alloc o) g loss value back A c P := h.below ((Below.refl _ _).alloc (Nat.le_refl _) _)
theorem FileAt.drew {w : World} {g : Nat} {loss value back : Int} {A : Option Addr} {c : Nat} {P : List Pmt} (h : FileAt w g loss value back A c P) : FileAt w.drew g loss value back A c P := ⟨h.blk, h.row⟩

set_option maxRecDepth 100000 in
set_option maxHeartbeats 1600000 in
theorem c_paid (g : Nat) (loss value back : Int) (A : Option Addr) (c : Nat) (P : List Pmt) (w : World) (h : FileAt w g loss value back A c P) (hok : FileOk loss value back P) (hm : P.length ≤ 4096) :
    Calls Try.prog 35 #[.pointer (some ⟨g, 0, none⟩)] w fun e w' => e = .returned (.int .i64 (sumP P)) ∧ Below w.heap.size w w' := by
  have HF := Lib.hid h
  have HOk := Lib.hid hok
  have k2 := h.blk.cell 2 rfl
  obtain ⟨v0, v1⟩ := hok.v
  obtain ⟨l0, l1⟩ := hok.l
  have b0 := hok.b
  have s0 := hok.s
  have HBd := Lib.hid (fun k => sumP_bd hok.p k)
  have HMem := Lib.hid (fun x hx => sumP_mem hok.p x hx)
  have HPos := Lib.hid hok.p
  clear h hok
  obtain ⟨n, hn⟩ : ∃ n, n = P.length := ⟨_, rfl⟩
  rw [← hn] at k2 hm
  have HN := Lib.hid hn.symm
  clear hn
  go_enter Try.func35, Try.ntmps35
  go_wp2
  clear k2
  go_loopw [3, 11] (fun s x wr => ∃ (k : Nat) (u : Int), s = .int .i64 u ∧ x = .int .i64 k ∧ k ≤ n ∧ 0 ≤ u ∧ u ≤ loss ∧ Hid (u = sumP (P.take k)) ∧ Hid (Below w.heap.size w wr)) (fun _ x _ => n - (intOf x).toNat)
  case atStart => exact ⟨0, 0, rfl, rfl, by omega, by omega, by omega, rfl, Below.refl _ _⟩
  case round =>
    obtain ⟨k, u, rfl, rfl, hk, u0, u1, hu, hB⟩ := hrel
    by_cases hlt : k < n
    · have hkP : k < P.length := by rw [HN.out]; exact hlt
      obtain ⟨b, o, rfl, hb, c0, c1, c2⟩ := pmt_at (HF.out.row.rd.below hB.out) k hkP
      have hts := sumP_take_succ P k hkP
      have hmem := HMem.out _ (List.getElem_mem hkP)
      have hpos := HPos.out _ (List.getElem_mem hkP)
      have hbd := HBd.out (k + 1)
      have hz := hB.out.size
      have HS := Lib.hid (show u + P[k].paid = sumP (P.take (k + 1)) by rw [hts, hu.out])
      have hle : u + P[k].paid ≤ loss := by rw [HS.out]; omega
      clear hts hbd
      generalize P[k] = p at *
      obtain ⟨pn, pp, pb⟩ := p
      simp only at c0 c1 c2 hmem hpos hle HS
      have e1 : IntKind.i64.wrap (u + pp) = u + pp := IntWalk.i64_in _ (by omega)
      go_wp2
      go_roundw
      case rel => exact ⟨k + 1, u + pp, rfl, by go_num, by omega, by omega, by omega, HS.out, hB.out.alloc hz _⟩
      case measure => simp [intOf]; omega
    · obtain rfl : k = n := by omega
      have h1 := hu.out
      rw [List.take_of_length_le (by rw [HN.out]; exact Nat.le_refl _)] at h1
      have H1 := Lib.hid h1
      clear h1 hu
      go_wp2
      go_ret
      exact ⟨ret_i H1.out, hB.out⟩

set_option maxRecDepth 100000 in
set_option maxHeartbeats 1600000 in
theorem c_left (g : Nat) (loss value back : Int) (A : Option Addr) (c : Nat) (P : List Pmt) (w : World) (h : FileAt w g loss value back A c P) (hok : FileOk loss value back P) (hm : P.length ≤ 4096) :
    Calls Try.prog 68 #[.pointer (some ⟨g, 0, none⟩)] w fun e w' => e = .returned (.int .i64 (loss - sumP P - back)) ∧ Below w.heap.size w w' := by
  have HP := Lib.hid (fun w h => c_paid g loss value back A c P w h hok hm)
  have HF := Lib.hid h
  have k0 := h.blk.cell 0 rfl
  have k3 := h.blk.cell 3 rfl
  have hlt := h.blk.lt
  obtain ⟨v0, v1⟩ := hok.v
  obtain ⟨l0, l1⟩ := hok.l
  have b0 := hok.b
  have s0 := hok.s
  have hbd := sumP_bd hok.p P.length
  rw [List.take_length] at hbd
  have s1 := hbd.1
  clear h hok hm hbd
  generalize sumP P = S at *
  have e1 : IntKind.i64.wrap (loss - S) = loss - S := IntWalk.i64_in _ (by omega)
  have e2 : IntKind.i64.wrap (loss - S - back) = loss - S - back := IntWalk.i64_in _ (by omega)
  go_enter Try.func68, Try.ntmps68
  go_wp2
  go_region_held3 (fun wx => wx.cell? ⟨g, 0, none⟩ = some (.int .i64 loss) ∧ wx.cell? ⟨g, 3, none⟩ = some (.int .i64 back)) (go_keep) ((go_at_call 35; (with_reducible refine (HP.out _ HF.out.drew).mono ?_); rintro e w1 ⟨rfl, hb1⟩; have j0 := (HF.out.drew.below hb1).blk.cell 0 rfl; have j3 := (HF.out.drew.below hb1).blk.cell 3 rfl; have HB := Lib.hid ((Below.refl w.heap.size w).drew.trans hb1); clear hb1))
  go_wp2
  go_ret
  exact ⟨rfl, HB.out⟩

set_option maxRecDepth 100000 in
set_option maxHeartbeats 1600000 in
theorem c_out (g : Nat) (loss value back : Int) (A : Option Addr) (c : Nat) (P : List Pmt) (w : World) (h : FileAt w g loss value back A c P) (hok : FileOk loss value back P) (hm : P.length ≤ 4096) :
    Calls Try.prog 66 #[.pointer (some ⟨g, 0, none⟩)] w fun e w' => e = .returned (.int .i64 (loss - sumP P - back + outP P)) ∧ Below w.heap.size w w' := by
  have HL := Lib.hid (c_left g loss value back A c P w h hok hm)
  have HF := Lib.hid h
  obtain ⟨v0, v1⟩ := hok.v
  obtain ⟨l0, l1⟩ := hok.l
  have b0 := hok.b
  have s0 := hok.s
  have HBd := Lib.hid (fun k => sumP_bd hok.p k)
  have HMem := Lib.hid (fun x hx => sumP_mem hok.p x hx)
  have HPos := Lib.hid hok.p
  have hbd := sumP_bd hok.p P.length
  rw [List.take_length] at hbd
  obtain ⟨s1, _, s2, s3, _⟩ := hbd
  clear h hok
  obtain ⟨n, hn⟩ : ∃ n, n = P.length := ⟨_, rfl⟩
  rw [← hn] at hm
  have HN := Lib.hid hn.symm
  clear hn
  generalize hS : sumP P = S at *
  generalize hO : outP P = O at *
  have HSm := Lib.hid hS
  have HOm := Lib.hid hO
  clear hS hO
  go_enter Try.func66, Try.ntmps66
  go_wp2_with fail
  refine HL.out.mono ?_
  rintro e w1 ⟨rfl, hb1⟩
  have HF1 := Lib.hid (HF.out.below hb1)
  have HB1 := Lib.hid hb1
  have k2 := HF1.out.blk.cell 2 rfl
  rw [HN.out] at k2
  have hlo : 0 ≤ loss - S - back ∧ loss - S - back ≤ 1099511627776 := by omega
  generalize hlf : loss - S - back = lf at *
  obtain ⟨f0, f1⟩ := hlo
  have HLf := Lib.hid hlf
  clear hb1 hlf
  go_wp2
  clear k2
  go_loopw [3, 13] (fun s x wr => ∃ (k : Nat) (u : Int), s = .int .i64 (lf + u) ∧ x = .int .i64 k ∧ k ≤ n ∧ 0 ≤ u ∧ u ≤ 1099511627776 ∧ Hid (u = outP (P.take k)) ∧ Hid (Below w1.heap.size w1 wr)) (fun _ x _ => n - (intOf x).toNat)
  case atStart => exact ⟨0, 0, by rw [Int.add_zero], rfl, by omega, by omega, by omega, rfl, Below.refl _ _⟩
  case round =>
    obtain ⟨k, u, rfl, rfl, hk, u0, u1, hu, hB⟩ := hrel
    by_cases hlt : k < n
    · have hkP : k < P.length := by rw [HN.out]; exact hlt
      obtain ⟨b, o, rfl, hb, c0, c1, c2⟩ := pmt_at (HF1.out.row.rd.below hB.out) k hkP
      have hts := outP_take_succ P k hkP
      have hmem := HMem.out _ (List.getElem_mem hkP)
      have hpos := HPos.out _ (List.getElem_mem hkP)
      have hbd := HBd.out (k + 1)
      have hz := hB.out.size
      have HS := Lib.hid (show u + (P[k].paid - P[k].back) = outP (P.take (k + 1)) by rw [hts, hu.out])
      have hle : u + (P[k].paid - P[k].back) ≤ 1099511627776 := by rw [HS.out]; omega
      clear hts hbd
      generalize P[k] = p at *
      obtain ⟨pn, pp, pb⟩ := p
      simp only at c0 c1 c2 hmem hpos hle HS
      have e0 : IntKind.i64.wrap (pp - pb) = pp - pb := IntWalk.i64_in _ (by omega)
      have e1 : IntKind.i64.wrap (lf + u + (pp - pb)) = lf + u + (pp - pb) := IntWalk.i64_in _ (by omega)
      go_wp2
      go_roundw
      case rel => exact ⟨k + 1, u + (pp - pb), by rw [Int.add_assoc], by go_num, by omega, by omega, by omega, HS.out, hB.out.alloc hz _⟩
      case measure => simp [intOf]; omega
    · obtain rfl : k = n := by omega
      have h1 := hu.out
      rw [List.take_of_length_le (by rw [HN.out]; exact Nat.le_refl _), HOm.out] at h1
      have H1 := Lib.hid h1
      clear h1 hu
      go_wp2
      go_ret
      exact ⟨ret_i (by rw [H1.out, HLf.out]), HB1.out.trans (hB.out.mono HB1.out.size)⟩

end Go.Proofs.Ytbcmaaoddnaoiaa
