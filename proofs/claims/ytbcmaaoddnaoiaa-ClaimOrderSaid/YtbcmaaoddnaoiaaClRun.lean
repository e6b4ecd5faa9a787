/-
  Claims one behind the other: plain numbers, the contract of one claim whether it is paid or not; files kept.
-/
import Derived.Test.YtbcmaaoddnaoiaaClClaim2
namespace Go.Proofs.Ytbcmaaoddnaoiaa
set_option linter.unusedVariables false
set_option linter.unusedSimpArgs false
open Go.RowKit

/-- What a policy is worth. -/
def wP (loss value : Int) (p : Pol) : Int := if p.may = true then p.pays loss value else 0
def wsumP (loss value : Int) : List Pol → Int
  | [] => 0
  | p :: r => wP loss value p + wsumP loss value r
theorem wsumP_append (loss value : Int) (a b : List Pol) : wsumP loss value (a ++ b) = wsumP loss value a + wsumP loss value b := by
  induction a with
  | nil => simp [wsumP]
  | cons p r ih => simp only [List.cons_append, wsumP, ih]; omega
theorem wsumP_reverse (loss value : Int) (a : List Pol) : wsumP loss value a.reverse = wsumP loss value a := by
  induction a with
  | nil => rfl
  | cons p r ih =>
    rw [List.reverse_cons, wsumP_append, ih]
    simp only [wsumP]
    omega
/-- A claim by a policy's own insurer. -/
def stepP (loss value back : Int) (P : List Pmt) (p : Pol) : List Pmt := if p.may = true then P ++ [⟨p.i, claimN loss value back P p, 0⟩] else P
def runP (loss value : Int) (L : List Pol) : List Pmt := L.foldl (stepP loss value 0) []
theorem runP_take_succ (loss value : Int) (L : List Pol) (k : Nat) (h : k < L.length) : runP loss value (L.take (k + 1)) = stepP loss value 0 (runP loss value (L.take k)) L[k] := by
  unfold runP
  rw [List.take_succ_eq_append_getElem h, List.foldl_append]
  rfl
theorem claimN_bd {loss value back : Int} {P : List Pmt} {p : Pol} (hok : FileOk loss value back P) (h : p.may = true) : 0 ≤ claimN loss value back P p ∧ claimN loss value back P p ≤ loss - sumP P - back ∧ claimN loss value back P p ≤ p.sum := by
  have h1 := Pol.pays_bd h hok.v hok.l
  have h2 := hok.s
  unfold claimN
  omega
theorem FileOk.paid {loss value back : Int} {P : List Pmt} (hok : FileOk loss value back P) (s : ByteArray) (n : Int) (h0 : 0 ≤ n) (h1 : n ≤ loss - sumP P - back) : FileOk loss value back (P ++ [⟨s, n, 0⟩]) := by
  refine ⟨hok.v, hok.l, hok.b, fun x hx => ?_, ?_⟩
  · rcases List.mem_append.1 hx with h | h
    · exact hok.p x h
    · obtain rfl := List.mem_singleton.1 h
      exact ⟨Int.le_refl _, h0⟩
  · rw [sumP_append]
    simp only [sumP]
    omega
theorem stepP_ok {loss value back : Int} {P : List Pmt} {p : Pol} (hok : FileOk loss value back P) : FileOk loss value back (stepP loss value back P p) := by
  unfold stepP
  split
  · rename_i h
    obtain ⟨h0, h1, _⟩ := claimN_bd hok h
    exact hok.paid _ _ h0 h1
  · exact hok
theorem stepP_sum {loss value : Int} {P : List Pmt} {p : Pol} {S : Int} (hok : FileOk loss value 0 P) (hS0 : 0 ≤ S) (hS : sumP P = min loss S) : sumP (stepP loss value 0 P p) = min loss (S + wP loss value p) := by
  unfold stepP wP
  split
  · rename_i h
    have h1 := Pol.pays_bd h hok.v hok.l
    rw [sumP_append]
    simp only [sumP, claimN]
    omega
  · omega
theorem stepP_len (loss value back : Int) (P : List Pmt) (p : Pol) : (stepP loss value back P p).length ≤ P.length + 1 := by
  unfold stepP
  split <;> simp
theorem wP_nonneg {loss value : Int} (hv : 1 ≤ value ∧ value ≤ 1099511627776) (hl : 0 ≤ loss ∧ loss ≤ value) (p : Pol) : 0 ≤ wP loss value p := by
  unfold wP
  split
  · rename_i h
    exact (Pol.pays_bd h hv hl).1
  · omega
theorem wsumP_nonneg {loss value : Int} (hv : 1 ≤ value ∧ value ≤ 1099511627776) (hl : 0 ≤ loss ∧ loss ≤ value) (L : List Pol) : 0 ≤ wsumP loss value L := by
  induction L with
  | nil => simp [wsumP]
  | cons p r ih =>
    have := wP_nonneg hv hl p
    simp only [wsumP]
    omega
theorem runP_facts {loss value : Int} (h : newB loss value = true) (L : List Pol) (k : Nat) (hk : k ≤ L.length) :
    FileOk loss value 0 (runP loss value (L.take k)) ∧ sumP (runP loss value (L.take k)) = min loss (wsumP loss value (L.take k)) ∧ (runP loss value (L.take k)).length ≤ k ∧ ∀ x ∈ runP loss value (L.take k), ∃ j, ∃ hj : j < L.length, j < k ∧ x.n = L[j].i := by
  have h0 := FileOk.new h
  induction k with
  | zero =>
    refine ⟨h0, ?_, by simp [runP], fun x hx => by simp [runP] at hx⟩
    have := h0.l
    simp only [List.take_zero, runP, List.foldl_nil, sumP, wsumP]
    omega
  | succ k ih =>
    obtain ⟨i1, i2, i3, i4⟩ := ih (by omega)
    have hkL : k < L.length := by omega
    rw [runP_take_succ _ _ _ _ hkL]
    have hw := wsumP_nonneg h0.v h0.l (L.take k)
    refine ⟨stepP_ok i1, ?_, ?_, fun x hx => ?_⟩
    · rw [stepP_sum i1 hw i2, List.take_succ_eq_append_getElem hkL, wsumP_append]
      simp only [wsumP]
      rw [Int.add_zero]
    · have := stepP_len loss value 0 (runP loss value (L.take k)) L[k]
      omega
    · unfold stepP at hx
      split at hx
      · rcases List.mem_append.1 hx with h | h
        · obtain ⟨j, hj, hjk, e⟩ := i4 x h
          exact ⟨j, hj, by omega, e⟩
        · obtain rfl := List.mem_singleton.1 h
          exact ⟨k, hkL, by omega, rfl⟩
      · obtain ⟨j, hj, hjk, e⟩ := i4 x hx
        exact ⟨j, hj, by omega, e⟩
theorem hasP_false {P : List Pmt} {s : ByteArray} (h : ∀ x ∈ P, x.n ≠ s) : hasP P s = false := by
  unfold hasP
  rw [List.any_eq_false]
  intro x hx h2
  exact h x hx (sameB_iff.1 h2)

/-- A file apart from what was turned. -/
theorem FileAt.kept {w w' : World} {g g' : Nat} {row : Option Nat} {loss value back : Int} {A : Option Addr} {c : Nat} {P : List Pmt} (h : FileAt w g' loss value back A c P) (hk : Kept g row w w') (hg : g' ≠ g) (hr : some g' ≠ row)
    (hA : ∀ x, (Value.slice A 0 0).ownBlock = some x → x ≠ g ∧ some x ≠ row) : FileAt w' g' loss value back A c P := by
  refine ⟨(hk.block g' h.blk.lt hg hr).trans h.blk, h.row.1, ?_⟩
  rcases h.row.2 with hn | ⟨b, cap, cur, hv, hb', hcur, rest⟩
  · exact .inl hn
  · have hx := hA b (by rw [own_any A 0 0 P.length c, hv]; rfl)
    exact .inr ⟨b, cap, cur, hv, hb', (hk.block b (Array.getElem?_eq_some_iff.1 hcur).1 hx.1 hx.2).trans hcur, rest⟩
/-- One claim, paid or not. -/
def ClAny (g : Nat) (loss value back : Int) (A : Option Addr) (P : List Pmt) (w : World) (p : Pol) (e : Ending) (w' : World) : Prop :=
  ∃ X Y : Int, e = .returned (.tuple #[.int .i64 X, .int .i64 Y]) ∧ ∃ A' c', FileAt w' g loss value back A' c' (stepP loss value back P p) ∧ Kept g (Value.slice A 0 0).ownBlock w w' ∧ ((Value.slice A' 0 0).ownBlock = (Value.slice A 0 0).ownBlock ∨ ∃ x, (Value.slice A' 0 0).ownBlock = some x ∧ w.heap.size ≤ x)
theorem c_claim_any (g : Nat) (loss value back : Int) (A : Option Addr) (c : Nat) (P : List Pmt) (p : Pol) (w : World) (h : FileAt w g loss value back A c P) (hok : FileOk loss value back P) (hp : PolOk w p) (hm : P.length ≤ 4000) (hno : hasP P p.i = false) :
    Calls Try.prog 34 #[.pointer (some ⟨g, 0, none⟩), .string p.i, p.v] w (ClAny g loss value back A P w p) := by
  have hs : sameB p.i p.i = true := sameB_iff.2 rfl
  cases hmay : p.may
  · have hE : claimE P p.i p = 1 := by unfold claimE; rw [if_pos hmay]
    refine (c_claim_bad g loss value back A c P p.i p w h hp hm (by rw [hE]; decide)).mono ?_
    rintro e w' ⟨rfl, hb⟩
    refine ⟨_, _, rfl, A, c, ?_, Kept.of_below hb, .inl rfl⟩
    unfold stepP
    rw [if_neg (by rw [hmay]; decide)]
    exact h.below hb
  · have hE : claimE P p.i p = 0 := by unfold claimE; rw [if_neg (by rw [hmay]; decide), if_neg (by rw [hs]; decide), if_neg (by rw [hno]; decide)]
    refine (c_claim_ok g loss value back A c P p.i p w h hok hp hm hE).mono ?_
    rintro e w' ⟨A', c', rfl, hf, hk, hr⟩
    refine ⟨_, _, rfl, A', c', ?_, hk, hr⟩
    unfold stepP
    rw [if_pos hmay]
    exact hf

end Go.Proofs.Ytbcmaaoddnaoiaa
