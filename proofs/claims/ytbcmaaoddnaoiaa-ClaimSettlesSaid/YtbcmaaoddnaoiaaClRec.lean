/-
  File.Recover: plain numbers, the closure's walk.
-/
import Derived.Test.YtbcmaaoddnaoiaaClClaim
namespace Go.Proofs.Ytbcmaaoddnaoiaa
set_option linter.unusedVariables false
set_option linter.unusedSimpArgs false
open Go.RowKit

/-- Entries as cells. -/
def cellsE : List (ByteArray × Int) → List Value
  | [] => []
  | p :: r => .string p.1 :: .string ⟨#[]⟩ :: .int .i64 p.2 :: cellsE r
theorem cellsE_append (a b : List (ByteArray × Int)) : cellsE (a ++ b) = cellsE a ++ cellsE b := by
  induction a with
  | nil => rfl
  | cons x r ih => simp [cellsE, ih]
theorem cellsE_length (a : List (ByteArray × Int)) : (cellsE a).length = a.length * 3 := by
  induction a with
  | nil => rfl
  | cons x r ih => simp only [cellsE, List.length_cons, ih]; omega
theorem cellsE_get (P : List (ByteArray × Int)) (k : Nat) (h : k < P.length) : (cellsE P)[k * 3]? = some (.string P[k].1) ∧ (cellsE P)[k * 3 + 1]? = some (.string ⟨#[]⟩) ∧ (cellsE P)[k * 3 + 2]? = some (.int .i64 P[k].2) := by
  induction P generalizing k with
  | nil => simp at h
  | cons p r ih =>
    cases k with
    | zero => exact ⟨rfl, rfl, rfl⟩
    | succ k =>
      have e1 : (k + 1) * 3 = k * 3 + 1 + 1 + 1 := by omega
      rw [e1]
      exact ih k (by simpa using h)
theorem entry_at {w : World} {a : Option Addr} {P : List (ByteArray × Int)} (h : Rd w a (cellsE P)) (k : Nat) (hk : k < P.length) :
    ∃ b o, a = some ⟨b, o, none⟩ ∧ b < w.heap.size ∧ w.cell? ⟨b, o + k * 3, none⟩ = some (.string P[k].1) ∧ w.cell? ⟨b, o + k * 3 + 1, none⟩ = some (.string ⟨#[]⟩) ∧ w.cell? ⟨b, o + k * 3 + 2, none⟩ = some (.int .i64 P[k].2) := by
  obtain ⟨b, o, e, hb, hr⟩ := h (by
    intro e
    have := cellsE_length P
    rw [e] at this
    simp at this
    omega)
  obtain ⟨g1, g2, g3⟩ := cellsE_get P k hk
  exact ⟨b, o, e, hb, hr _ _ g1, hr _ _ g2, hr _ _ g3⟩
theorem one_entry (d : ByteArray × Int) : ∀ u ∈ cellsE [d], u.oneCell' = true := by
  intro u hu
  simp [cellsE] at hu
  rcases hu with rfl | rfl | rfl <;> rfl
theorem info_entry : (Try.prog.info? 70).map (fun i => (i.zero, i.size, i.bytes)) = some (some (.agg #[.string ⟨#[]⟩, .string ⟨#[]⟩, .int .i64 0]), 3, 40) := by kernel_rfl

/-- An entry, if it is of something. -/
def oneE (who : ByteArray) (n : Int) : List (ByteArray × Int) := if 0 < n then [(who, n)] else []
/-- What comes back to each, in their order. -/
def recGo : Int → List Pmt → List Pmt × List (ByteArray × Int) × Int
  | s, [] => ([], [], s)
  | s, p :: r => (⟨p.n, p.paid, p.back + min s (p.paid - p.back)⟩ :: (recGo (s - min s (p.paid - p.back)) r).1, oneE p.n (min s (p.paid - p.back)) ++ (recGo (s - min s (p.paid - p.back)) r).2.1, (recGo (s - min s (p.paid - p.back)) r).2.2)
theorem recGo_snoc (l : List Pmt) : ∀ (s : Int) (p : Pmt), recGo s (l ++ [p]) =
    ((recGo s l).1 ++ [⟨p.n, p.paid, p.back + min (recGo s l).2.2 (p.paid - p.back)⟩], (recGo s l).2.1 ++ oneE p.n (min (recGo s l).2.2 (p.paid - p.back)), (recGo s l).2.2 - min (recGo s l).2.2 (p.paid - p.back)) := by
  induction l with
  | nil => intro s p; simp [recGo]
  | cons q r ih => intro s p; simp only [List.cons_append, recGo, ih]; simp
theorem recGo_take_succ (s : Int) (P : List Pmt) (k : Nat) (h : k < P.length) : recGo s (P.take (k + 1)) =
    ((recGo s (P.take k)).1 ++ [⟨P[k].n, P[k].paid, P[k].back + min (recGo s (P.take k)).2.2 (P[k].paid - P[k].back)⟩], (recGo s (P.take k)).2.1 ++ oneE P[k].n (min (recGo s (P.take k)).2.2 (P[k].paid - P[k].back)), (recGo s (P.take k)).2.2 - min (recGo s (P.take k)).2.2 (P[k].paid - P[k].back)) := by
  rw [List.take_succ_eq_append_getElem h, recGo_snoc]
theorem recGo_length (s : Int) (P : List Pmt) : (recGo s P).1.length = P.length := by
  induction P generalizing s with
  | nil => rfl
  | cons p r ih => simp [recGo, ih]
theorem recGo_few (s : Int) (P : List Pmt) : (recGo s P).2.1.length ≤ P.length := by
  induction P generalizing s with
  | nil => simp [recGo]
  | cons p r ih =>
    have := ih (s - min s (p.paid - p.back))
    simp only [recGo, List.length_append, List.length_cons, oneE]
    split <;> simp <;> omega
theorem recGo_rest (s : Int) (P : List Pmt) (hs : 0 ≤ s) (h : ∀ x ∈ P, 0 ≤ x.back ∧ x.back ≤ x.paid) : 0 ≤ (recGo s P).2.2 ∧ (recGo s P).2.2 ≤ s ∧ (recGo s P).2.2 = max (s - outP P) 0 := by
  induction P generalizing s with
  | nil => simp [recGo, outP]; omega
  | cons p r ih =>
    have h1 := h p (by simp)
    have hr := fun x hx => h x (List.mem_cons_of_mem _ hx)
    have h2 := ih (s - min s (p.paid - p.back)) (by omega) hr
    have h3 := sumP_bd hr r.length
    rw [List.take_length] at h3
    simp only [recGo, outP]
    omega

theorem Rd.fresh' (w : World) (cs : Array Value) (t : TypeId) {xs : List Value} (h : xs = cs.toList) : Rd (w.alloc (.cells cs t)) (some ⟨w.heap.size, 0, none⟩) xs := fun _ => by
  refine ⟨w.heap.size, 0, rfl, by simp, fun j v hv => ?_⟩
  rw [Nat.zero_add]
  exact (Blk.new w t cs).cell j (by rw [h] at hv; simpa using hv)
/-- Where the closure stands. -/
structure TakeSt (w : World) (qs qo : Nat) (sum : Int) (A : Option Addr) (c : Nat) (L : List (ByteArray × Int)) : Prop where
  s : Blk w qs 2 #[.int .i64 sum]
  o : Blk w qo 66 #[.slice A L.length c]
  row : OwnS 3 w (qo + 1) 70 A L.length c (cellsE L)
  lt : qs < qo
theorem TakeSt.below {w w' : World} {qs qo : Nat} {sum : Int} {A : Option Addr} {c : Nat} {L : List (ByteArray × Int)} (h : TakeSt w qs qo sum A c L) (hb : Below w.heap.size w w') : TakeSt w' qs qo sum A c L :=
  ⟨h.s.below hb h.s.lt, h.o.below hb h.o.lt, h.row.keep hb, h.lt⟩
def TakeOk (qs qo : Nat) (sum n : Int) (who : ByteArray) (L : List (ByteArray × Int)) (w : World) (e : Ending) (w' : World) : Prop :=
  ∃ A' c', e = .returned (.int .i64 n) ∧ TakeSt w' qs qo (sum - n) A' c' (L ++ oneE who n) ∧ Below qs w w'
theorem e_take : EntersIs 67 := enters_of Try.func67 (by kernel_rfl) rfl

set_option maxRecDepth 100000 in
set_option maxHeartbeats 1600000 in
theorem c_take (who : ByteArray) (most sum : Int) (qs qo : Nat) (A : Option Addr) (c : Nat) (L : List (ByteArray × Int)) (w : World) (h : TakeSt w qs qo sum A c L) (hs : 0 ≤ sum ∧ sum ≤ 1099511627776) (hm : -1099511627776 ≤ most ∧ most ≤ 1099511627776) (hl : L.length ≤ 5000) :
    Calls Try.prog 67 #[.string who, .int .i64 most, .pointer (some ⟨qs, 0, none⟩), .pointer (some ⟨qo, 0, none⟩)] w (TakeOk qs qo sum (min sum most) who L w) := by
  obtain ⟨i0, hi, hz0, hz1, hz2⟩ := info_parts info_entry
  have HI := Lib.hid hi
  have HZ0 := Lib.hid hz0
  have HZ1 := Lib.hid hz1
  have HZ2 := Lib.hid hz2
  obtain ⟨s0, s1⟩ := hs
  obtain ⟨m0, m1⟩ := hm
  have HS := Lib.hid h
  have k0 := h.s.cell 0 rfl
  have k1 := h.o.cell 0 rfl
  have f0 := h.s.free 0
  have f1 := h.o.free 0
  have hlt := h.lt
  have l0 := h.s.lt
  have l1 := h.o.lt
  obtain ⟨n, hn⟩ : ∃ n, n = min sum most := ⟨_, rfl⟩
  rw [← hn]
  have hn0 : n ≤ sum := by omega
  have hn1 : -1099511627776 ≤ n := by omega
  have hmn : min sum most = n := hn.symm
  clear hi hz0 hz1 hz2 h hn
  have e1 : IntKind.i64.wrap (sum - n) = sum - n := IntWalk.i64_in _ (by omega)
  by_cases hpos : 0 < n
  · have hone := Lib.hid (show oneE who n = [(who, n)] by unfold oneE; rw [if_pos hpos])
    go_enter Try.func67, Try.ntmps67
    go_wp2_with (at_builtin; refine wpList_appS _ rfl (.tmp 13) (.tmp 17) _ rfl 3 (by omega) (qo + 1) 70 i0 _ 40 Try.underlying66 HI.out HZ0.out HZ1.out HZ2.out rfl A L.length c (cellsE L) rfl (HS.out.row.alloc _) (some ⟨w.heap.size, 0, none⟩) 1 1 (cellsE [(who, n)]) rfl rfl (Rd.fresh' _ _ _ rfl) (one_entry _) (by unfold maxLen; omega) (by omega) (by simp; omega) ?_; intro A' c' w3 hown hg3 hb3; have B3 := Lib.hid ((HS.out.s.alloc _).below hb3 (by omega)); have C3 := Lib.hid ((HS.out.o.alloc _).below hb3 (by omega)); have HOw := Lib.hid hown; have HB3 := Lib.hid (((Below.refl (qo + 1) w).alloc (by omega) _).trans hb3); have z3 := HB3.out.size; have j0 := B3.out.cell 0 rfl; have j1 := C3.out.cell 0 rfl; have g0 := B3.out.free 0; have g1 := C3.out.free 0; have hqne : qs ≠ qo := (by omega); clear hown hg3 hb3 k0 k1 f0 f1)
    have hfin := Lib.hid (show TakeSt ((w3.setCell ⟨qo, 0, none⟩ (.slice A' (L.length + 1) c')).setCell ⟨qs, 0, none⟩ (.int .i64 (sum - n))) qs qo (sum - n) A' c' (L ++ oneE who n) from by
      rw [hone.out]
      have e4 : (L ++ [(who, n)]).length = L.length + 1 := by simp
      refine ⟨(B3.out.far (by simp; omega) _).set 0 _, ?_, ?_, hlt⟩
      · rw [e4]; exact (C3.out.set 0 _).far (by simp; omega) _
      · rw [e4, cellsE_append]; exact (HOw.out.far (by simp) _).far (by simp; omega) _)
    have hbel := Lib.hid (show Below qs w ((w3.setCell ⟨qo, 0, none⟩ (.slice A' (L.length + 1) c')).setCell ⟨qs, 0, none⟩ (.int .i64 (sum - n))) from
      (((HB3.out.mono (by omega)).setCell (by simp; omega) _).setCell (by simp) _))
    go_ret
    exact ⟨A', c', rfl, hfin.out, hbel.out⟩
  · have hone := Lib.hid (show L ++ oneE who n = L by unfold oneE; rw [if_neg hpos]; simp)
    go_enter Try.func67, Try.ntmps67
    go_wp2
    have hfin := Lib.hid (show TakeSt (w.setCell ⟨qs, 0, none⟩ (.int .i64 (sum - n))) qs qo (sum - n) A c (L ++ oneE who n) from by
      rw [hone.out]
      exact ⟨HS.out.s.set 0 _, HS.out.o.far (by simp; omega) _, HS.out.row.far (by simp; omega) _, hlt⟩)
    have hbel := Lib.hid (show Below qs w (w.setCell ⟨qs, 0, none⟩ (.int .i64 (sum - n))) from (Below.refl _ _).setCell (by simp) _)
    go_ret
    exact ⟨A, c, rfl, hfin.out, hbel.out⟩

end Go.Proofs.Ytbcmaaoddnaoiaa
