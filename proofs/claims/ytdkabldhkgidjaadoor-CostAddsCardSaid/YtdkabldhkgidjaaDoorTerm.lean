/-
  The table of the terms; term.of, Name, Passes, side, Pays: their walks.
-/
import Derived.Test.YtdkabldhkgidjaaDoorRow
import Derived.Test.YtdkabldhkgidjaaDoorRows
namespace Go.Proofs.YtdkabldhkgidjaaDoor
set_option linter.unusedVariables false
set_option linter.unusedSimpArgs false
open Go.RowKit

def tnames : List ByteArray := [⟨#[97, 116, 45, 119, 111, 114, 107, 115]⟩, ⟨#[116, 111, 45, 99, 97, 114, 114, 105, 101, 114]⟩, ⟨#[111, 110, 45, 98, 111, 97, 114, 100]⟩, ⟨#[102, 114, 101, 105, 103, 104, 116, 45, 112, 97, 105, 100]⟩, ⟨#[105, 110, 115, 117, 114, 101, 100]⟩, ⟨#[108, 97, 110, 100, 101, 100]⟩, ⟨#[99, 108, 101, 97, 114, 101, 100]⟩, ⟨#[97, 116, 45, 100, 111, 111, 114]⟩]
def tcosts : List Int := [1, 2, 3, 5, 5, 5, 6, 7]
def trisks : List Int := [1, 2, 3, 2, 3, 5, 6, 7]
def tcost (t : Int) : Int := tcosts.getD t.toNat 0
/-- Is there such a term? -/
def termB (t : Int) : Bool := decide (0 ≤ t ∧ t ≤ 7)
theorem tcost_bd (t : Int) (h : termB t = true) : 1 ≤ tcost t ∧ tcost t ≤ 7 := by
  unfold termB at h
  simp only [decide_eq_true_eq] at h
  obtain ⟨k, rfl⟩ : ∃ k : Nat, t = k := ⟨t.toNat, by omega⟩
  have hk : k < 8 := by omega
  have e : ∀ k : Fin 8, 1 ≤ tcosts.getD k.val 0 ∧ tcosts.getD k.val 0 ≤ 7 := by decide
  exact e ⟨k, hk⟩
/-- The table of the terms in memory. -/
def Tab (w : World) : Prop := ∀ k, k < 8 → w.cell? ⟨0, k * 4, none⟩ = some (.string (tnames.getD k ⟨#[]⟩)) ∧ w.cell? ⟨0, k * 4 + 1, none⟩ = some (.int .i64 (tcosts.getD k 0)) ∧ w.cell? ⟨0, k * 4 + 2, none⟩ = some (.int .i64 (trisks.getD k 0)) ∧ ∃ a n c, w.cell? ⟨0, k * 4 + 3, none⟩ = some (.slice a n c)
theorem Tab.lt {w : World} (h : Tab w) : 0 < w.heap.size := World.block_lt_of_cell? _ _ (h 0 (by decide)).1
theorem Tab.below {w w' : World} (h : Tab w) (hb : Below w.heap.size w w') : Tab w' := fun k hk => by
  have hl := h.lt
  obtain ⟨h1, h2, h3, a, n, c, h4⟩ := h k hk
  exact ⟨(hb.cell (p := ⟨0, _, none⟩) hl).trans h1, (hb.cell (p := ⟨0, _, none⟩) hl).trans h2, (hb.cell (p := ⟨0, _, none⟩) hl).trans h3, a, n, c, (hb.cell (p := ⟨0, _, none⟩) hl).trans h4⟩
theorem Tab.alloc {w : World} (h : Tab w) (o : Obj) : Tab (w.alloc o) := h.below ((Below.refl _ _).alloc (Nat.le_refl _) _)
theorem Tab.drew {w : World} (h : Tab w) : Tab w.drew := h
theorem Tab.drewN {w : World} (h : Tab w) (q : Nat) : Tab (w.drewN q) := h

def TermOk (t : Int) (w : World) (e : Ending) (w' : World) : Prop := ∃ (r : Int) (a : Option Addr) (n c : Nat), e = .returned (.tuple #[.agg #[.string (tnames.getD t.toNat ⟨#[]⟩), .int .i64 (tcost t), .int .i64 r, .slice a n c], .bool true]) ∧ Below w.heap.size w w'
set_option maxHeartbeats 800000 in
theorem c_termof (t : Int) (w : World) (hT : Tab w) (h : termB t = true) : Calls Tryd.prog 37 #[.int .i64 t] w (TermOk t w) := by
  unfold termB at h
  simp only [decide_eq_true_eq] at h
  obtain ⟨k, rfl⟩ : ∃ k : Nat, t = k := ⟨t.toNat, by omega⟩
  have hk : k < 8 := by omega
  have hl := hT.lt
  obtain ⟨h1, h2, h3, a, n, c, h4⟩ := hT k hk
  unfold TermOk tcost
  rw [Int.toNat_natCast]
  have hki : (k : Int) < 8 := by omega
  clear hT h
  generalize tnames.getD k ⟨#[]⟩ = nm at *
  generalize tcosts.getD k 0 = co at *
  generalize trisks.getD k 0 = ri at *
  go_enter Tryd.func37, Tryd.ntmps37
  go_wp2
  exact bodyPost_ret (v := .tuple #[.agg #[.string nm, .int .i64 co, .int .i64 ri, .slice a n c], .bool true]) (by simp [results, Tryd.results37, go_sem]) rfl ⟨ri, a, n, c, rfl, (by go_grown)⟩
set_option maxHeartbeats 800000 in
theorem c_termof_bad (t : Int) (w : World) (h : termB t = false) : Calls Tryd.prog 37 #[.int .i64 t] w fun e w' => e = .returned (.tuple #[.agg #[.string ⟨#[]⟩, .int .i64 0, .int .i64 0, .slice none 0 0], .bool false]) ∧ Below w.heap.size w w' := by
  unfold termB at h
  simp only [decide_eq_false_iff_not] at h
  by_cases h1 : t < 0
  · clear h
    go_enter Tryd.func37, Tryd.ntmps37
    go_wp2
    exact bodyPost_ret (v := .tuple #[.agg #[.string ⟨#[]⟩, .int .i64 0, .int .i64 0, .slice none 0 0], .bool false]) (by simp [results, Tryd.results37, go_sem]) rfl ⟨rfl, (by go_grown)⟩
  · have h2 : 8 ≤ t := by omega
    clear h
    go_enter Tryd.func37, Tryd.ntmps37
    go_wp2
    exact bodyPost_ret (v := .tuple #[.agg #[.string ⟨#[]⟩, .int .i64 0, .int .i64 0, .slice none 0 0], .bool false]) (by simp [results, Tryd.results37, go_sem]) rfl ⟨rfl, (by go_grown)⟩

def tname (t : Int) : ByteArray := if termB t = true then tnames.getD t.toNat ⟨#[]⟩ else ⟨#[]⟩
theorem tname_empty (t : Int) : (tname t).toList = [] ↔ termB t = false := by
  unfold tname
  cases h : termB t
  · simp [ByteArray.toList_eq]
  · unfold termB at h
    simp only [decide_eq_true_eq] at h
    obtain ⟨k, rfl⟩ : ∃ k : Nat, t = k := ⟨t.toNat, by omega⟩
    have hk : k < 8 := by omega
    have e : ∀ k : Fin 8, (tnames.getD k.val ⟨#[]⟩).data.toList ≠ [] := by decide
    simpa [ByteArray.toList_eq] using e ⟨k, hk⟩
set_option maxHeartbeats 800000 in
theorem c_termname (t : Int) (w : World) (hT : Tab w) : Calls Tryd.prog 25 #[.int .i64 t] w fun e w' => e = .returned (.string (tname t)) ∧ Below w.heap.size w w' := by
  unfold tname
  cases h : termB t
  · have HC := Lib.hid (fun w => c_termof_bad t w h)
    rw [if_neg (by decide)]
    clear h hT
    go_enter Tryd.func25, Tryd.ntmps25
    go_wp2_with fail
    refine (HC.out _).mono ?_
    rintro e w1 ⟨rfl, hb1⟩
    go_wp2_with fail
    go_ret
    exact ⟨rfl, hb1.alloc hb1.size _⟩
  · have HC := Lib.hid (fun w hT => c_termof t w hT h)
    rw [if_pos rfl]
    have HT := Lib.hid hT
    unfold TermOk at HC
    clear h hT
    generalize tnames.getD t.toNat ⟨#[]⟩ = nm at *
    go_enter Tryd.func25, Tryd.ntmps25
    go_wp2_with fail
    refine (HC.out _ HT.out).mono ?_
    rintro e w1 ⟨r, a, n, c, rfl, hb1⟩
    go_wp2_with fail
    go_ret
    exact ⟨rfl, hb1.alloc hb1.size _⟩
def PassOk (t : Int) (w : World) (e : Ending) (w' : World) : Prop := ∃ r : Int, e = .returned (.tuple #[.int .i64 (tcost t), .int .i64 r]) ∧ Below w.heap.size w w'
set_option maxHeartbeats 800000 in
theorem c_passes (t : Int) (w : World) (hT : Tab w) (h : termB t = true) : Calls Tryd.prog 41 #[.int .i64 t] w (PassOk t w) := by
  have HC := Lib.hid (fun w hT => c_termof t w hT h)
  have HT := Lib.hid hT
  unfold TermOk at HC
  unfold PassOk
  clear h hT
  generalize tcost t = co at *
  generalize tnames.getD t.toNat ⟨#[]⟩ = nm at *
  go_enter Tryd.func41, Tryd.ntmps41
  go_wp2_with fail
  refine (HC.out _ HT.out).mono ?_
  rintro e w1 ⟨r, a, n, c, rfl, hb1⟩
  have HB := Lib.hid (hb1.alloc hb1.size (.cells #[.string nm, .int .i64 co, .int .i64 r, .slice a n c] 70))
  have k1 := (Blk.new w1 70 #[.string nm, .int .i64 co, .int .i64 r, .slice a n c]).cell 1 rfl
  have k2 := (Blk.new w1 70 #[.string nm, .int .i64 co, .int .i64 r, .slice a n c]).cell 2 rfl
  clear hb1
  go_wp2_with fail
  go_quiet (fail)
  go_wp2
  go_ret2
  exact ⟨r, rfl, below_drewN HB.out _⟩
def sellerS : ByteArray := ⟨#[115, 101, 108, 108, 101, 114]⟩
def buyerS : ByteArray := ⟨#[98, 117, 121, 101, 114]⟩
def sideS (co st : Int) : ByteArray := if co ≤ st then buyerS else sellerS
set_option maxHeartbeats 800000 in
theorem c_side (t st co : Int) (w : World) (hT : Tab w) (h : termB t = true) (hs : 0 ≤ st ∧ st ≤ 7) : Calls Tryd.prog 42 #[.int .i64 t, .int .i64 st, .int .i64 co] w fun e w' => e = .returned (.string (sideS co st)) ∧ Below w.heap.size w w' := by
  have HC := Lib.hid (fun w hT => c_termof t w hT h)
  have HT := Lib.hid hT
  obtain ⟨s0, s1⟩ := hs
  unfold TermOk at HC
  clear h hT
  generalize tnames.getD t.toNat ⟨#[]⟩ = nm at *
  by_cases hle : co ≤ st
  · rw [show sideS co st = buyerS from if_pos hle]
    go_enter Tryd.func42, Tryd.ntmps42
    go_wp2_with fail
    refine (HC.out _ HT.out).mono ?_
    rintro e w1 ⟨r, a, n, c, rfl, hb1⟩
    go_wp2_with fail
    go_ret
    exact ⟨rfl, hb1.alloc hb1.size _⟩
  · rw [show sideS co st = sellerS from if_neg hle]
    go_enter Tryd.func42, Tryd.ntmps42
    go_wp2_with fail
    refine (HC.out _ HT.out).mono ?_
    rintro e w1 ⟨r, a, n, c, rfl, hb1⟩
    go_wp2_with fail
    go_ret
    exact ⟨rfl, hb1.alloc hb1.size _⟩
set_option maxHeartbeats 800000 in
theorem c_tpays (t st : Int) (w : World) (hT : Tab w) (h : termB t = true) (hs : 0 ≤ st ∧ st ≤ 7) : Calls Tryd.prog 29 #[.int .i64 t, .int .i64 st] w fun e w' => e = .returned (.string (sideS (tcost t) st)) ∧ Below w.heap.size w w' := by
  have HC := Lib.hid (fun w hT => c_passes t w hT h)
  have HS := Lib.hid (fun co w hT => c_side t st co w hT h hs)
  have HT := Lib.hid hT
  unfold PassOk at HC
  clear h hT hs
  generalize tcost t = co at *
  go_enter Tryd.func29, Tryd.ntmps29
  go_wp2_with fail
  refine (HC.out _ HT.out).mono ?_
  rintro e w1 ⟨r, rfl, hb1⟩
  have HT1 := Lib.hid (HT.out.below hb1)
  have HB1 := Lib.hid hb1
  clear hb1
  go_wp2_with fail
  refine (HS.out _ _ HT1.out).mono ?_
  rintro e w2 ⟨rfl, hb2⟩
  have HB2 := Lib.hid (HB1.out.trans (hb2.mono HB1.out.size))
  clear hb2
  go_wp2_with fail
  go_ret
  exact ⟨rfl, HB2.out⟩

end Go.Proofs.YtdkabldhkgidjaaDoor
