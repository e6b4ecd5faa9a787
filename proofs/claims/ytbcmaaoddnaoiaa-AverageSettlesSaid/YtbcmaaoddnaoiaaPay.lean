/-
  The closure of average.Pays: its walk.
-/
import Derived.Test.YtbcmaaoddnaoiaaPayNum
import Derived.Test.YtbcmaaoddnaoiaaAppS
import Derived.Test.YtbcmaaoddnaoiaaWhole
import Derived.StillTailTactics
namespace Go.Proofs.Ytbcmaaoddnaoiaa
set_option linter.unusedVariables false
set_option linter.unusedSimpArgs false
open Go.RowKit

/-- Debts as cells. -/
def cellsD : List (ByteArray × ByteArray × Int) → List Value
  | [] => []
  | p :: r => .string p.1 :: .string p.2.1 :: .string ⟨#[]⟩ :: .int .i64 p.2.2 :: cellsD r
theorem cellsD_append (a b : List (ByteArray × ByteArray × Int)) : cellsD (a ++ b) = cellsD a ++ cellsD b := by
  induction a with
  | nil => rfl
  | cons x r ih => simp [cellsD, ih]
theorem cellsD_length (a : List (ByteArray × ByteArray × Int)) : (cellsD a).length = a.length * 4 := by
  induction a with
  | nil => rfl
  | cons x r ih => simp only [cellsD, List.length_cons, ih]; omega
theorem info_debt : (Try.prog.info? 40).map (fun i => (i.zero, i.size, i.bytes)) = some (some (.agg #[.string ⟨#[]⟩, .string ⟨#[]⟩, .string ⟨#[]⟩, .int .i64 0]), 4, 56) := by kernel_rfl

/-- Where the payments stand. -/
structure PaySt (w0 wr : World) (lb g gb ob pb : Nat) (a : Option Addr) (n cL c : Nat) (G : List Int) (p : Nat) (Ao : Option Addr) (co : Nat) (O : List (ByteArray × ByteArray × Int)) : Prop where
  below : Below w0.heap.size w0 wr
  lbx : Blk wr lb 22 #[.slice a n cL]
  gbx : Blk wr gb 23 #[.slice (some ⟨g, 0, none⟩) n c]
  pbx : Blk wr pb 3 #[.int .i64 p]
  obx : Blk wr ob 26 #[.slice Ao O.length co]
  gets : Own wr (lb + 1) 2 (some ⟨g, 0, none⟩) n c (vals .i64 G)
  out : OwnS 4 wr (pb + 1) 40 Ao O.length co (cellsD O)
  ord : w0.heap.size ≤ lb ∧ lb < g ∧ g < gb ∧ gb < ob ∧ ob < pb

theorem PaySt.next {w0 wr : World} {lb g gb ob pb : Nat} {a : Option Addr} {n cL c : Nat} {G : List Int} {p : Nat} {Ao : Option Addr} {co : Nat} {O : List (ByteArray × ByteArray × Int)} (h : PaySt w0 wr lb g gb ob pb a n cL c G p Ao co O) (q : Nat) :
    PaySt w0 (wr.setCell ⟨pb, 0, none⟩ (.int .i64 q)) lb g gb ob pb a n cL c G q Ao co O := by
  have ho := h.ord
  refine ⟨h.below.setCell (by simp; omega) _, h.lbx.far (by simp; omega) _, h.gbx.far (by simp; omega) _, h.pbx.set 0 _, h.obx.far (by simp; omega) _, ?_, h.out.far (by simp) _, ho⟩
  refine World.ownsRow.kept h.gets (row := some pb) ⟨rfl, rfl, rfl, by simp [World.setCell], fun k _ hk => Below.heap_setCell wr ⟨pb, 0, none⟩ _ k (by simpa using hk)⟩ (.inr ?_)
  simp [Value.ownBlock]
  omega
/-- One payment: the debt is told, and what is owed is less. -/
theorem PaySt.paid {w0 wr w1 : World} {lb g gb ob pb : Nat} {a : Option Addr} {n cL c : Nat} {G : List Int} {p : Nat} {Ao A' : Option Addr} {co c' : Nat} {O : List (ByteArray × ByteArray × Int)} (h : PaySt w0 wr lb g gb ob pb a n cL c G p Ao co O)
    (d : ByteArray × ByteArray × Int) (hO : OwnS 4 w1 (pb + 1) 40 A' (O.length + 1) c' (cellsD O ++ cellsD [d])) (hb : Below (pb + 1) wr w1) (hp : p < n) (hG : G.length = n) (x : Int) :
    PaySt w0 ((w1.setCell ⟨ob, 0, none⟩ (.slice A' (O.length + 1) c')).setCell ⟨g, p, none⟩ (.int .i64 x)) lb g gb ob pb a n cL c (G.set p x) p A' c' (O ++ [d]) := by
  have ho := h.ord
  have hl := h.pbx.lt
  have hget : Own w1 (lb + 1) 2 (some ⟨g, 0, none⟩) n c (vals .i64 G) := by
    refine ⟨h.gets.1, ?_⟩
    rcases h.gets.2 with hn | ⟨g', cap, cur, hv, hb', hg, rest⟩
    · exact .inl hn
    · injection hv with hv1 hv2 hv3
      injection hv1 with hv1
      injection hv1 with hv1
      subst hv1
      exact .inr ⟨g, cap, cur, by rw [hv3], hb', (hb.block g (by omega)).trans hg, rest⟩
  have hget2 : Own (w1.setCell ⟨ob, 0, none⟩ (.slice A' (O.length + 1) c')) (lb + 1) 2 (some ⟨g, 0, none⟩) n c (vals .i64 G) := by
    refine World.ownsRow.kept hget (row := some ob) ⟨rfl, rfl, rfl, by simp [World.setCell], fun k _ hk => Below.heap_setCell w1 ⟨ob, 0, none⟩ _ k (by simpa using hk)⟩ (.inr ?_)
    simp [Value.ownBlock]
    omega
  obtain ⟨g2, e2, _, _, _, _, hset⟩ := hget2.at p hp
  injection e2 with e2
  injection e2 with e2
  subst e2
  have e4 : (O ++ [d]).length = O.length + 1 := by simp
  refine ⟨((h.below.trans (hb.mono (by omega))).setCell (by simp; omega) _).setCell (by simp; omega) _, ((h.lbx.below hb (by omega)).far (by simp; omega) _).far (by simp; omega) _, ((h.gbx.below hb (by omega)).far (by simp; omega) _).far (by simp; omega) _,
    ((h.pbx.below hb (by omega)).far (by simp; omega) _).far (by simp; omega) _, ?_, ?_, ?_, ho⟩
  · rw [e4]
    exact ((h.obx.below hb (by omega)).set 0 _).far (by simp; omega) _
  · rw [← vals_set]; exact hset _
  · rw [e4, cellsD_append]
    exact (hO.far (by simp; omega) _).far (by simp; omega) _

section
variable {w0 wr : World} {lb g gb ob pb : Nat} {a : Option Addr} {n cL c : Nat} {G : List Int} {p : Nat} {Ao : Option Addr} {co : Nat} {O : List (ByteArray × ByteArray × Int)}
theorem PaySt.alloc (h : PaySt w0 wr lb g gb ob pb a n cL c G p Ao co O) (o : Obj) : PaySt w0 (wr.alloc o) lb g gb ob pb a n cL c G p Ao co O :=
  ⟨h.below.alloc h.below.size _, h.lbx.alloc _, h.gbx.alloc _, h.pbx.alloc _, h.obx.alloc _, h.gets.alloc _, h.out.alloc _, h.ord⟩
theorem PaySt.drew (h : PaySt w0 wr lb g gb ob pb a n cL c G p Ao co O) : PaySt w0 wr.drew lb g gb ob pb a n cL c G p Ao co O :=
  ⟨h.below.drew, h.lbx.drew, h.gbx.drew, h.pbx.drew, h.obx.drew, h.gets, h.out, h.ord⟩
end
/-- Between the two stores. -/
theorem PaySt.mid {w0 wr w1 : World} {lb g gb ob pb : Nat} {a : Option Addr} {n cL c : Nat} {G : List Int} {p : Nat} {Ao : Option Addr} {co : Nat} {O : List (ByteArray × ByteArray × Int)} (h : PaySt w0 wr lb g gb ob pb a n cL c G p Ao co O) (hb : Below (pb + 1) wr w1) (v : Value) :
    (w1.setCell ⟨ob, 0, none⟩ v).cell? ⟨gb, 0, none⟩ = some (.slice (some ⟨g, 0, none⟩) n c) ∧ (w1.setCell ⟨ob, 0, none⟩ v).cell? ⟨pb, 0, none⟩ = some (.int .i64 p) ∧
    (∀ i, (w1.setCell ⟨ob, 0, none⟩ v).cell? ⟨g, i, none⟩ = wr.cell? ⟨g, i, none⟩) ∧ (∀ i, (w1.setCell ⟨ob, 0, none⟩ v).frozen? ⟨g, i, none⟩ = wr.frozen? ⟨g, i, none⟩) := by
  have ho := h.ord
  refine ⟨((h.gbx.below hb (by omega)).far (by simp; omega) _).cell 0 rfl, ((h.pbx.below hb (by omega)).far (by simp; omega) _).cell 0 rfl, fun i => ?_, fun i => ?_⟩
  · have e : (w1.setCell ⟨ob, 0, none⟩ v).heap[(⟨g, i, none⟩ : Addr).block]? = w1.heap[(⟨g, i, none⟩ : Addr).block]? := Below.heap_setCell w1 ⟨ob, 0, none⟩ v g (by simp; omega)
    exact (World.cell?_of_block e).trans (hb.cell (p := ⟨g, i, none⟩) (by show g < pb + 1; omega))
  · have e : (w1.setCell ⟨ob, 0, none⟩ v).heap[(⟨g, i, none⟩ : Addr).block]? = w1.heap[(⟨g, i, none⟩ : Addr).block]? := Below.heap_setCell w1 ⟨ob, 0, none⟩ v g (by simp; omega)
    exact (World.frozen?_of_block e).trans (hb.frozen (p := ⟨g, i, none⟩) (by show g < pb + 1; omega))

end Go.Proofs.Ytbcmaaoddnaoiaa
