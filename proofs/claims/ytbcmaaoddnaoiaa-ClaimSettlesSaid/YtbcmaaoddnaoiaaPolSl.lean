/-
  Slices of policies; slices.ContainsFunc over them; claim.Share's closure: their walks.
-/
import Derived.Test.YtbcmaaoddnaoiaaPolPays
namespace Go.Proofs.Ytbcmaaoddnaoiaa
set_option linter.unusedVariables false
set_option linter.unusedSimpArgs false
open Go.RowKit

/-- A policy. -/
structure Pol where
  i : ByteArray
  f : ByteArray
  t : ByteArray
  sum : Int
  own : Int
  ca : Option Addr
  cn : Nat
  cc : Nat
  z : List Int
  first : Int
  last : Int
  share : Int
def Pol.v (p : Pol) : Value := polV p.i p.f p.t p.sum p.own p.ca p.cn p.cc p.first p.last p.share
def Pol.may (p : Pol) : Bool := mayP p.i p.f p.t p.sum p.own p.z p.first p.last p.share
def Pol.cells (p : Pol) : List Value := [.string p.i, .string p.f, .string p.t, .int .i64 p.sum, .int .i64 p.own, .slice p.ca p.cn p.cc, .int .i64 p.first, .int .i64 p.last, .int .i64 p.share]
def cellsP : List Pol → List Value
  | [] => []
  | p :: r => p.cells ++ cellsP r
theorem cellsP_length (L : List Pol) : (cellsP L).length = L.length * 9 := by
  induction L with
  | nil => rfl
  | cons p r ih => simp only [cellsP, Pol.cells, List.length_append, List.length_cons, List.length_nil, ih]; omega
theorem cellsP_get (L : List Pol) (k j : Nat) (h : k < L.length) (hj : j < 9) : (cellsP L)[k * 9 + j]? = L[k].cells[j]? := by
  induction L generalizing k with
  | nil => simp at h
  | cons p r ih =>
    cases k with
    | zero =>
      have : j < p.cells.length := hj
      simp only [cellsP, Nat.zero_mul, Nat.zero_add, List.getElem_cons_zero]
      exact List.getElem?_append_left this
    | succ k =>
      have e1 : (k + 1) * 9 + j = p.cells.length + (k * 9 + j) := by simp only [Pol.cells, List.length_cons, List.length_nil]; omega
      rw [e1]
      simp only [cellsP]
      rw [List.getElem?_append_right (by omega)]
      simpa using ih k (by simpa using h)
/-- A policy whose texts are no longer than may be, and whose causes read. -/
structure PolOk (w : World) (p : Pol) : Prop where
  hi : p.i.size ≤ 9223372036854775807
  hf : p.f.size ≤ 9223372036854775807
  ht : p.t.size ≤ 9223372036854775807
  hz : p.z.length = p.cn
  hc : Rd w p.ca (vals .i64 p.z)
  hn : p.cn ≤ 9223372036854775807
theorem PolOk.below {w w' : World} {p : Pol} (h : PolOk w p) (hb : Below w.heap.size w w') : PolOk w' p := ⟨h.hi, h.hf, h.ht, h.hz, h.hc.below hb, h.hn⟩
/-- The slice at a holds the policies L. -/
structure Pols (w : World) (a : Option Addr) (L : List Pol) : Prop where
  rd : Rd w a (cellsP L)
  ok : ∀ p ∈ L, PolOk w p
theorem Pols.below {w w' : World} {a : Option Addr} {L : List Pol} (h : Pols w a L) (hb : Below w.heap.size w w') : Pols w' a L := ⟨h.rd.below hb, fun p hp => (h.ok p hp).below hb⟩
theorem Pols.at {w : World} {a : Option Addr} {L : List Pol} (h : Pols w a L) (k : Nat) (hk : k < L.length) :
    ∃ b o, a = some ⟨b, o, none⟩ ∧ b < w.heap.size ∧ w.cell? ⟨b, o + k * 9, none⟩ = some (.string L[k].i) ∧ w.cell? ⟨b, o + k * 9 + 1, none⟩ = some (.string L[k].f) ∧ w.cell? ⟨b, o + k * 9 + 2, none⟩ = some (.string L[k].t) ∧
      w.cell? ⟨b, o + k * 9 + 3, none⟩ = some (.int .i64 L[k].sum) ∧ w.cell? ⟨b, o + k * 9 + 4, none⟩ = some (.int .i64 L[k].own) ∧ w.cell? ⟨b, o + k * 9 + 5, none⟩ = some (.slice L[k].ca L[k].cn L[k].cc) ∧
      w.cell? ⟨b, o + k * 9 + 6, none⟩ = some (.int .i64 L[k].first) ∧ w.cell? ⟨b, o + k * 9 + 7, none⟩ = some (.int .i64 L[k].last) ∧ w.cell? ⟨b, o + k * 9 + 8, none⟩ = some (.int .i64 L[k].share) := by
  obtain ⟨b, o, e, hb, hr⟩ := h.rd (by
    intro e
    have := cellsP_length L
    rw [e] at this
    simp at this
    omega)
  have g : ∀ j v, j < 9 → L[k].cells[j]? = some v → w.cell? ⟨b, o + k * 9 + j, none⟩ = some v := fun j v hj hv => by
    rw [Nat.add_assoc]
    exact hr _ _ ((cellsP_get L k j hk hj).trans hv)
  exact ⟨b, o, e, hb, g 0 _ (by omega) rfl, g 1 _ (by omega) rfl, g 2 _ (by omega) rfl, g 3 _ (by omega) rfl, g 4 _ (by omega) rfl, g 5 _ (by omega) rfl, g 6 _ (by omega) rfl, g 7 _ (by omega) rfl, g 8 _ (by omega) rfl⟩

theorem c_pmayP (p : Pol) (w : World) (h : PolOk w p) : Calls Try.prog 62 #[p.v] w fun e w' => e = .returned (.bool p.may) ∧ Below w.heap.size w w' :=
  c_pmay p.i p.f p.t p.sum p.own p.ca p.cn p.cc p.z p.first p.last p.share w h.hi h.hf h.ht h.hz h.hc h.hn
/-- What is paid, by a policy. -/
def Pol.tells (p : Pol) (loss value : Int) : Bool := tellsP p.i p.f p.t p.sum p.own p.z p.first p.last p.share loss value
def Pol.pays (p : Pol) (loss value : Int) : Int := paysP p.sum p.own p.share loss value
theorem c_ppaysP (p : Pol) (loss value : Int) (w : World) (h : PolOk w p) : Calls Try.prog 71 #[p.v, .int .i64 loss, .int .i64 value] w fun e w' => e = .returned (.tuple #[.int .i64 (if p.tells loss value then p.pays loss value else 0), .bool (p.tells loss value)]) ∧ Below w.heap.size w w' :=
  c_ppays p.i p.f p.t p.sum p.own p.ca p.cn p.cc p.z p.first p.last p.share loss value w h.hi h.hf h.ht h.hz h.hc h.hn

set_option maxHeartbeats 400000 in
theorem c_odd (p : Pol) (w : World) (h : PolOk w p) : Calls Try.prog 61 #[p.v] w fun e w' => e = .returned (.bool (!p.may)) ∧ Below w.heap.size w w' := by
  have HM := Lib.hid (fun w h => c_pmayP p w h)
  have HP := Lib.hid h
  clear h
  unfold Pol.v polV at HM ⊢
  generalize p.may = M at *
  go_enter Try.func61, Try.ntmps61
  go_wp2_with (go_at_call 62; (with_reducible refine (HM.out _ (HP.out.below ((Below.refl _ _).alloc (Nat.le_refl _) _))).mono ?_); rintro e w1 ⟨rfl, hb1⟩; have HB := Lib.hid (((Below.refl w.heap.size w).alloc (Nat.le_refl _) _).trans (hb1.mono (by simp))); clear hb1)
  go_ret
  exact ⟨rfl, HB.out⟩

theorem e_odd : EntersIs 61 := enters_of Try.func61 (by kernel_rfl) rfl
/-- Is one not as it may be? -/
def oddP (L : List Pol) : Bool := L.any fun p => !p.may

theorem oddP_take_succ (L : List Pol) (k : Nat) (h : k < L.length) : oddP (L.take (k + 1)) = (oddP (L.take k) || !L[k].may) := by
  unfold oddP
  rw [List.take_succ_eq_append_getElem h, List.any_append]
  simp
theorem oddP_take_true {L : List Pol} {k : Nat} (h : oddP (L.take k) = true) : oddP L = true := by
  unfold oddP at h ⊢
  rw [List.any_eq_true] at h ⊢
  obtain ⟨p, hp, h⟩ := h
  exact ⟨p, List.mem_of_mem_take hp, h⟩
/-- IndexFunc's answer. -/
def IdxPost (w : World) (b : Bool) (e : Ending) (w' : World) : Prop := ∃ r : Int, e = .returned (.int .i64 r) ∧ decide (0 ≤ r) = b ∧ Below w.heap.size w w'
set_option maxRecDepth 100000 in
set_option maxHeartbeats 1600000 in
theorem c_pindex (a : Option Addr) (n c : Nat) (L : List Pol) (w : World) (hn : L.length = n) (hm : n ≤ 9223372036854775807) (hr : Pols w a L) :
    Calls Try.prog 93 #[.slice a n c, .func (.func 61) #[] #[]] w (IdxPost w (oddP L)) := by
  have eg : ∀ args w, (callFunc 61 args).run Try.prog w = .ok (.enter 61 args) w := e_odd
  have HR := Lib.hid hr
  have HN := Lib.hid hn
  have HO := Lib.hid (fun p w h => c_odd p w h)
  unfold Pol.v polV at HO
  clear hr hn
  go_enter Try.func93, Try.ntmps93
  go_wp2
  go_loopw [8] (fun x wr => ∃ k : Nat, x = .int .i64 k ∧ k ≤ n ∧ Hid (oddP (L.take k) = false) ∧ Hid (Below w.heap.size w wr)) (fun x _ => n - (intOf x).toNat)
  case atStart => exact ⟨0, rfl, by omega, rfl, Below.refl _ _⟩
  case round =>
    obtain ⟨k, rfl, hk, hO, hB⟩ := hrel
    by_cases hlt : k < n
    · have hkL : k < L.length := by rw [HN.out]; exact hlt
      have hr1 := HR.out.below hB.out
      obtain ⟨b, o, rfl, hb, c0, c1, c2, c3, c4, c5, c6, c7, c8⟩ := hr1.at k hkL
      have hts := oddP_take_succ L k hkL
      rw [hO.out, Bool.false_or] at hts
      have hodd := HO.out L[k] wr (hr1.ok _ (List.getElem_mem hkL))
      have hfull := Lib.hid (fun h => oddP_take_true (L := L) (k := k + 1) h)
      have hz := hB.out.size
      have HTs := Lib.hid hts
      clear hts hO hr1
      generalize L[k] = p at *
      have HOd := Lib.hid hodd
      clear hodd
      cases hm : p.may
      · have hod := HOd.out
        rw [hm] at hod
        have HF := Lib.hid (show oddP L = true from hfull.out (by rw [HTs.out, hm]; rfl))
        have HOd := Lib.hid hod
        clear hod hm
        go_wp2_with (go_at_call 61; (with_reducible refine HOd.out.mono ?_); rintro e w1 ⟨rfl, hb1⟩; have HB := Lib.hid (hB.out.trans (hb1.mono hz)); clear hb1)
        go_ret
        exact ⟨_, rfl, by rw [HF.out]; simp, HB.out⟩
      · have hod := HOd.out
        rw [hm] at hod
        have HT := Lib.hid (show oddP (L.take (k + 1)) = false by rw [HTs.out, hm]; rfl)
        have HOd := Lib.hid hod
        clear hod hm
        go_wp2_with (go_at_call 61; (with_reducible refine HOd.out.mono ?_); rintro e w1 ⟨rfl, hb1⟩; have HB := Lib.hid (hB.out.trans (hb1.mono hz)); clear hb1)
        go_roundw
        case rel => exact ⟨k + 1, by go_num, by omega, HT.out, HB.out⟩
        case measure => simp [intOf]; omega
    · obtain rfl : k = n := by omega
      have h1 := hO.out
      rw [List.take_of_length_le (by rw [HN.out]; exact Nat.le_refl _)] at h1
      have H1 := Lib.hid h1
      clear h1 hO
      go_wp2
      go_ret
      exact ⟨_, rfl, by rw [H1.out]; simp, hB.out⟩

set_option maxHeartbeats 400000 in
theorem c_pcontains (a : Option Addr) (n c : Nat) (L : List Pol) (w : World) (hn : L.length = n) (hm : n ≤ 9223372036854775807) (hr : Pols w a L) :
    Calls Try.prog 63 #[.slice a n c, .func (.func 61) #[] #[]] w fun e w' => e = .returned (.bool (oddP L)) ∧ Below w.heap.size w w' := by
  have HI := Lib.hid (c_pindex a n c L w hn hm hr)
  unfold IdxPost at HI
  clear hn hr
  generalize oddP L = b at *
  go_enter Try.func63, Try.ntmps63
  go_wp2_with fail
  refine HI.out.mono ?_
  rintro e w1 ⟨r, rfl, hr, hb⟩
  have HR := Lib.hid hr
  clear hr
  go_wp2_with fail
  go_ret
  exact ⟨ret_b HR.out, hb⟩

end Go.Proofs.Ytbcmaaoddnaoiaa
