/-
  average.Values: its walk.
-/
import Derived.Test.YtbcmaaoddnaoiaaDebts
namespace Go.Proofs.Ytbcmaaoddnaoiaa
set_option linter.unusedVariables false
set_option linter.unusedSimpArgs false
open Go.RowKit

set_option maxHeartbeats 800000 in
theorem c_avalues_bad (a b : Option Addr) (n c m d : Nat) (L : List (ByteArray × Int)) (gs : List Int) (w : World) (hn : L.length = n) (hm : n ≤ 4096) (hr : Rd w a (cellsI L)) (hs : ∀ p ∈ L, p.1.size ≤ 9223372036854775807) (hg : gs.length = m) (hgm : m ≤ 9223372036854775807) (hb : Rd w b (vals .i64 gs)) (he : givenB L gs = false) :
    Calls Try.prog 23 #[.slice a n c, .slice b m d] w fun e w' => e = .returned (.tuple #[.slice none 0 0, .int .i64 1]) ∧ Below w.heap.size w w' := by
  have HG := c_given a b n c m d L gs w hn hm hr hs hg hgm hb
  rw [he] at HG
  have HG := Lib.hid HG
  clear hn hr hs hg hb he
  go_enter Try.func23, Try.ntmps23
  go_wp2_with fail
  refine HG.out.mono ?_
  rintro e w1 ⟨rfl, hb1⟩
  go_wp2_with fail
  go_ret2
  exact ⟨rfl, hb1⟩

/-- Values's answer. -/
def ValuesOk (w : World) (L : List (ByteArray × Int)) (gs : List Int) (n : Nat) (e : Ending) (w' : World) : Prop :=
  ∃ A c, e = .returned (.tuple #[.slice A n c, .int .i64 0]) ∧ Own w' w.heap.size 2 A n c (vals .i64 (subs (valsI L) gs n)) ∧ Below w.heap.size w w'

set_option maxHeartbeats 1600000 in
theorem c_avalues (a b : Option Addr) (m c d : Nat) (L : List (ByteArray × Int)) (gs : List Int) (w : World) (hn : L.length = m) (hm : m ≤ 4096) (hr : Rd w a (cellsI L)) (hs : ∀ p ∈ L, p.1.size ≤ 9223372036854775807) (hg : gs.length = m) (hb : Rd w b (vals .i64 gs)) (he : givenB L gs = true) :
    Calls Try.prog 23 #[.slice a m c, .slice b m d] w (ValuesOk w L gs m) := by
  have HGv := c_given a b m c m d L gs w hn hm hr hs hg (by omega) hb
  rw [he] at HGv
  have HGv := Lib.hid HGv
  have HVs := Lib.hid (fun w hr => c_values a m c L w hn hm hr)
  obtain ⟨f1, f2, f3⟩ := given_facts he
  have hvb : ∀ i, 0 ≤ (valsI L).getD i 0 ∧ (valsI L).getD i 0 ≤ 1099511627776 := fun i => by
    rw [List.getD_eq_getElem?_getD]
    by_cases hi : i < (valsI L).length
    · rw [List.getElem?_eq_getElem hi]; exact mayB_amt f1 _ (List.getElem_mem hi)
    · rw [List.getElem?_eq_none (by omega)]; simp
  have hgb : ∀ i, 0 ≤ gs.getD i 0 ∧ gs.getD i 0 ≤ 1099511627776 := fun i => by
    rw [List.getD_eq_getElem?_getD]
    by_cases hi : i < gs.length
    · rw [List.getElem?_eq_getElem hi]; exact f3 _ (List.getElem_mem hi)
    · rw [List.getElem?_eq_none (by omega)]; simp
  have HVb := Lib.hid hvb
  have HGb := Lib.hid hgb
  have HR := Lib.hid hr
  have HB := Lib.hid hb
  have HN := Lib.hid hn
  have HG := Lib.hid hg
  have HVl := Lib.hid (show (valsI L).length = m by rw [valsI_length, hn])
  clear hn hr hs hg hb he f1 f2 f3 hvb hgb
  go_enter Try.func23, Try.ntmps23
  go_wp2_with fail
  refine HGv.out.mono ?_
  rintro e w1 ⟨rfl, hb1⟩
  go_wp2_with fail
  refine (HVs.out _ (HR.out.below hb1)).mono ?_
  rintro e w3 ⟨A', c', rfl, hO, hb3⟩
  have hz1 := hb1.size
  have HO := Lib.hid hO
  have HB3 := Lib.hid (hb1.trans (hb3.mono hz1))
  have HD3 := Lib.hid (HB.out.below HB3.out)
  clear hO hb1 hb3
  go_wp2_with fail
  go_loopw [17] (fun x wr => ∃ (k : Nat), x = .int .i64 k ∧ k ≤ m ∧ Hid (Own wr w1.heap.size 2 A' m c' (vals .i64 (subs (valsI L) gs k))) ∧ Hid (Below w.heap.size w wr)) (fun x _ => m - (intOf x).toNat)
  case atStart => exact ⟨0, rfl, by omega, by show Own _ _ _ _ _ _ _; rw [subs_zero]; exact HO.out, HB3.out⟩
  case round =>
    obtain ⟨k, rfl, hk, hO, hB⟩ := hrel
    by_cases hlt : k < m
    · obtain ⟨g, rfl, hg1, hg2, hgf, hgc, hgs⟩ := hO.out.at k hlt
      have hkv : k < (valsI L).length := by rw [HVl.out]; exact hlt
      have hkg : k < gs.length := by rw [HG.out]; exact hlt
      obtain ⟨b6, o6, rfl, hb6, hall6, d5⟩ := (HB.out.below hB.out).at k (by simpa using hkg)
      clear hall6
      have d6 : wr.cell? ⟨b6, o6 + k, none⟩ = some (.int .i64 (gs.getD k 0)) := by rw [d5]; simp [vals, hkg]
      have hsg := subs_get (valsI L) gs k k hkv
      rw [if_neg (by omega), Int.sub_zero] at hsg
      have hgc2 : wr.cell? ⟨g, k, none⟩ = some (.int .i64 ((valsI L).getD k 0)) := by
        rw [hgc, ← hsg]
        have : k < (subs (valsI L) gs k).length := by rw [subs_length]; exact hkv
        simp only [vals, List.getElem?_map, List.getElem?_eq_getElem this, List.getD_eq_getElem?_getD, Option.getD_some, Option.map_some]
      have hset := subs_set (valsI L) gs k hkv
      obtain ⟨p0, p1⟩ := HGb.out k
      obtain ⟨q0, q1⟩ := HVb.out k
      have HSet := Lib.hid hset
      have HGS := Lib.hid hgs
      clear hgc hset hgs hsg d5
      generalize gs.getD k 0 = p at *
      generalize (valsI L).getD k 0 = q at *
      have e2 : IntKind.i64.wrap (q - p) = q - p := IntWalk.i64_in _ (by omega)
      go_wp2
      go_roundw
      case rel =>
        refine ⟨k + 1, by go_num, by omega, ?_, ?_⟩
        · show Own _ _ _ _ _ _ _
          rw [← HSet.out, ← vals_set]
          exact HGS.out _
        · exact hB.out.setCell (by simp; omega) _
      case measure => simp [intOf]; omega
    · obtain rfl : k = m := by omega
      go_wp2
      go_ret2
      exact ⟨A', c', rfl, hO.out.mono hz1, hB.out⟩

end Go.Proofs.Ytbcmaaoddnaoiaa
