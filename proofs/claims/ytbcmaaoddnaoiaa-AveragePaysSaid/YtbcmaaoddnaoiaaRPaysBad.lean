/-
  The reference's Pays, refused; the law AveragePays, where there is nothing to pay: their walks.
-/
import Derived.Test.YtbcmaaoddnaoiaaRWhole2
import Derived.Test.YtbcmaaoddnaoiaaLASums
namespace Go.Proofs.Ytbcmaaoddnaoiaa
set_option linter.unusedVariables false
set_option linter.unusedSimpArgs false
open Go.RowKit

set_option maxHeartbeats 1600000 in
theorem c_rpays_bad (a b : Option Addr) (n c m d : Nat) (L : List (ByteArray × Int)) (gs : List Int) (spent : Int) (w : World) (hn : L.length = n) (hm : n ≤ 4096) (hr : Rd w a (cellsI L)) (hs : ∀ p ∈ L, p.1.size ≤ 9223372036854775807) (hg : gs.length = m) (hgm : m ≤ 9223372036854775807) (hb : Rd w b (vals .i64 gs)) (he : wholeE L gs spent ≠ 0) :
    Calls Try.prog 18 #[.slice a n c, .slice b m d, .int .i64 spent] w fun e w' => e = .returned (.tuple #[.slice none 0 0, .int .i64 (wholeE L gs spent)]) ∧ Below w.heap.size w w' := by
  have HW := Lib.hid (c_rwhole_bad a b n c m d L gs spent w hn hm hr hs hg hgm hb he)
  have t1 : (wholeE L gs spent != 0) = true := by simpa using he
  clear hn hr hs hg hb he
  generalize wholeE L gs spent = E at *
  go_enter Try.func18, Try.ntmps18
  go_wp2_with fail
  refine HW.out.mono ?_
  rintro e w1 ⟨rfl, hb1⟩
  go_wp2_with fail
  go_ret2
  exact ⟨rfl, hb1⟩

set_option maxHeartbeats 1600000 in
theorem l_apays_few (a b : Option Addr) (n c m d : Nat) (L : List (ByteArray × Int)) (spent : Int) (w : World) (hn : L.length = n) (hm : n ≤ 9223372036854775807) (hr : Rd w a (cellsI L)) (hs : ∀ p ∈ L, p.1.size ≤ 9223372036854775807) (hgm : m ≤ 9223372036854775807) (hf : fewG L m = false) :
    Calls Try.prog 3 #[.slice a n c, .slice b m d, .int .i64 spent] w fun e w' => e = .returned (.bool true) ∧ Below w.heap.size w w' := by
  have HF := Lib.hid (fun w hr => c_few a b n c m d L w hn hm hgm hr hs)
  rw [hf] at HF
  have HR := Lib.hid hr
  clear hn hr hs hf
  go_enter Try.func3, Try.ntmps3
  go_wp2_with fail
  refine (c_awake43 _).mono ?_
  rintro e w1 ⟨rfl, hb1⟩
  go_wp2_with fail
  refine (HF.out _ (HR.out.below hb1)).mono ?_
  rintro e w2 ⟨rfl, hb2⟩
  have HB := Lib.hid (hb1.trans (hb2.mono hb1.size))
  clear hb1 hb2
  go_wp2_with fail
  go_ret
  exact ⟨rfl, HB.out⟩

set_option maxHeartbeats 1600000 in
theorem l_apays_bad (a b : Option Addr) (n c m d : Nat) (L : List (ByteArray × Int)) (gs : List Int) (spent : Int) (w : World) (hn : L.length = n) (hm : n ≤ 4096) (hr : Rd w a (cellsI L)) (hs : ∀ p ∈ L, p.1.size ≤ 9223372036854775807) (hg : gs.length = m) (hgm : m ≤ 9223372036854775807) (hb : Rd w b (vals .i64 gs)) (hf : fewG L m = true) (he : wholeE L gs spent ≠ 0) :
    Calls Try.prog 3 #[.slice a n c, .slice b m d, .int .i64 spent] w fun e w' => e = .returned (.bool true) ∧ Below w.heap.size w w' := by
  have HF := fun w hr => c_few a b n c m d L w hn (by omega) hgm hr hs
  rw [hf] at HF
  have HF := Lib.hid HF
  have H1 := Lib.hid (fun w hr hb => c_pays_bad a b n c m d L gs spent w hn hm hr hs hg hgm hb he)
  have H2 := Lib.hid (fun w hr hb => c_rpays_bad a b n c m d L gs spent w hn hm hr hs hg hgm hb he)
  have HR := Lib.hid hr
  have HB := Lib.hid hb
  clear hn hr hs hf hg hb he
  generalize wholeE L gs spent = E at *
  go_enter Try.func3, Try.ntmps3
  go_wp2_with fail
  refine (c_awake43 _).mono ?_
  rintro e w1 ⟨rfl, hb1⟩
  go_wp2_with fail
  refine (HF.out _ (HR.out.below hb1)).mono ?_
  rintro e w2 ⟨rfl, hb2⟩
  have HB2 := Lib.hid (hb1.trans (hb2.mono hb1.size))
  clear hb1 hb2
  go_wp2_with fail
  refine (H1.out _ (HR.out.below HB2.out) (HB.out.below HB2.out)).mono ?_
  rintro e w3 ⟨rfl, hb3⟩
  have HB3 := Lib.hid (HB2.out.trans (hb3.mono HB2.out.size))
  clear hb3
  go_wp2_with fail
  refine (H2.out _ (HR.out.below HB3.out) (HB.out.below HB3.out)).mono ?_
  rintro e w4 ⟨rfl, hb4⟩
  have HB4 := Lib.hid (HB3.out.trans (hb4.mono HB3.out.size))
  clear hb4
  go_wp2_with fail
  have hc := c_rdebts none none 0 0 0 [] w4 rfl (by omega) (Rd.nil _ _) (Rd.nil _ _)
  refine hc.mono ?_
  clear hc
  rintro e w5 ⟨rfl, q, rfl⟩
  go_wp2_with fail
  go_ret
  exact ⟨rfl, below_drewN HB4.out _⟩

end Go.Proofs.Ytbcmaaoddnaoiaa
