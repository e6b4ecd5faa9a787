/-
  The reference's Pays: where it stands.
-/
import Derived.Test.YtbcmaaoddnaoiaaRPaysBad
namespace Go.Proofs.Ytbcmaaoddnaoiaa
set_option linter.unusedVariables false
set_option linter.unusedSimpArgs false
open Go.RowKit

theorem OwnS.empty (s : Nat) (w : World) (e : TypeId) (B : Nat) (hB : B ≤ w.heap.size) : OwnS s (w.alloc (.cells #[] e)) B e (some ⟨w.heap.size, 0, none⟩) 0 0 [] :=
  ⟨by simp, .inr ⟨w.heap.size, 0, #[], rfl, hB, heap_alloc_new w _, Nat.le_refl _, by unfold maxLen; omega, by simp, by simp⟩⟩
/-- Where the reference's payments stand. -/
structure RpSt (w0 wr : World) (B g m c : Nat) (G : List Int) (Ao : Option Addr) (co : Nat) (O : List (ByteArray × ByteArray × Int)) : Prop where
  below : Below w0.heap.size w0 wr
  gets : Own wr w0.heap.size 2 (some ⟨g, 0, none⟩) m c (vals .i64 G)
  out : OwnS 4 wr B 40 Ao O.length co (cellsD O)
  ord : w0.heap.size ≤ g ∧ g < B ∧ B ≤ wr.heap.size
theorem RpSt.drewN {w0 wr : World} {B g m c : Nat} {G : List Int} {Ao : Option Addr} {co : Nat} {O : List (ByteArray × ByteArray × Int)} (h : RpSt w0 wr B g m c G Ao co O) (q : Nat) : RpSt w0 (wr.drewN q) B g m c G Ao co O :=
  ⟨below_drewN h.below q, h.gets.drewN q, h.out.drewN q, h.ord⟩
theorem RpSt.mid {w0 wr w1 : World} {B g m c : Nat} {G : List Int} {Ao : Option Addr} {co : Nat} {O : List (ByteArray × ByteArray × Int)} (h : RpSt w0 wr B g m c G Ao co O) (hb : Below B wr w1) {j : Nat} (hj : j < m) (hG : G.length = m) :
    w1.frozen? ⟨g, j, none⟩ = false ∧ w1.cell? ⟨g, j, none⟩ = some (.int .i64 (G.getD j 0)) ∧ g < w1.heap.size := by
  obtain ⟨o1, o2, o3⟩ := h.ord
  have hget : Own w1 w0.heap.size 2 (some ⟨g, 0, none⟩) m c (vals .i64 G) := by
    refine ⟨h.gets.1, ?_⟩
    rcases h.gets.2 with hn | ⟨g', cap, cur, hv, hb', hg, rest⟩
    · exact .inl hn
    · injection hv with hv1 hv2 hv3
      injection hv1 with hv1
      injection hv1 with hv1
      subst hv1
      exact .inr ⟨g, cap, cur, by rw [hv3], hb', (hb.block g o2).trans hg, rest⟩
  obtain ⟨g2, e2, _, l2, hf, hc, _⟩ := hget.at j hj
  injection e2 with e2
  injection e2 with e2
  subst e2
  refine ⟨hf, ?_, l2⟩
  rw [hc]
  have : j < G.length := by omega
  simp only [vals, List.getElem?_map, List.getElem?_eq_getElem this, List.getD_eq_getElem?_getD, Option.getD_some, Option.map_some]
theorem RpSt.paid {w0 wr w1 : World} {B g m c : Nat} {G : List Int} {Ao A' : Option Addr} {co c' : Nat} {O : List (ByteArray × ByteArray × Int)} (h : RpSt w0 wr B g m c G Ao co O) (d : ByteArray × ByteArray × Int)
    (hO : OwnS 4 w1 B 40 A' (O.length + 1) c' (cellsD O ++ cellsD [d])) (hb : Below B wr w1) {j : Nat} (hj : j < m) (x : Int) :
    RpSt w0 (w1.setCell ⟨g, j, none⟩ (.int .i64 x)) B g m c (G.set j x) A' c' (O ++ [d]) := by
  obtain ⟨o1, o2, o3⟩ := h.ord
  have hget : Own w1 w0.heap.size 2 (some ⟨g, 0, none⟩) m c (vals .i64 G) := by
    refine ⟨h.gets.1, ?_⟩
    rcases h.gets.2 with hn | ⟨g', cap, cur, hv, hb', hg, rest⟩
    · exact .inl hn
    · injection hv with hv1 hv2 hv3
      injection hv1 with hv1
      injection hv1 with hv1
      subst hv1
      exact .inr ⟨g, cap, cur, by rw [hv3], hb', (hb.block g o2).trans hg, rest⟩
  obtain ⟨g2, e2, _, _, _, _, hset⟩ := hget.at j hj
  injection e2 with e2
  injection e2 with e2
  subst e2
  have hs := hb.size
  refine ⟨(h.below.trans (hb.mono (by omega))).setCell (by simp; omega) _, by rw [← vals_set]; exact hset _, ?_, o1, o2, by simp [World.setCell]; omega⟩
  have := hO.far (p := ⟨g, j, none⟩) (by simpa using o2) (.int .i64 x)
  rw [cellsD_append, List.length_append]
  exact this
/-- How far it is with one. -/
def RpAt (w0 wr : World) (B g m c : Nat) (R : List Int × List (Nat × Int)) (names : List ByteArray) (whom : ByteArray) (O : List (ByteArray × ByteArray × Int)) (d : Int) (j : Nat) (G : List Int) (A : Option Addr) (c' : Nat) (pre : List (Nat × Int)) : Prop :=
  RpSt w0 wr B g m c G A c' (O ++ tell names whom pre) ∧ G.length = m ∧ (∀ i, -4398046511104 ≤ G.getD i 0 ∧ G.getD i 0 ≤ 4398046511104) ∧ R = ((pf G j (m - j) d).1, pre ++ (pf G j (m - j) d).2)
theorem RpAt.skip {w0 wr : World} {B g m c : Nat} {R : List Int × List (Nat × Int)} {names : List ByteArray} {whom : ByteArray} {O : List (ByteArray × ByteArray × Int)} {d : Int} {j : Nat} {G : List Int} {A : Option Addr} {c' : Nat} {pre : List (Nat × Int)}
    (h : RpAt w0 wr B g m c R names whom O d j G A c' pre) (hj : j < m) (hG : 0 ≤ G.getD j 0) : RpAt w0 wr B g m c R names whom O d (j + 1) G A c' pre := by
  obtain ⟨h1, h2, h3, h4⟩ := h
  exact ⟨h1, h2, h3, by rw [h4, show m - j = m - (j + 1) + 1 by omega, pf_skip _ _ _ _ hG]⟩
theorem RpAt.pay {w0 wr w1 : World} {B g m c : Nat} {R : List Int × List (Nat × Int)} {names : List ByteArray} {whom : ByteArray} {O : List (ByteArray × ByteArray × Int)} {d : Int} {j : Nat} {G : List Int} {A A' : Option Addr} {c' c2 : Nat} {pre : List (Nat × Int)}
    (h : RpAt w0 wr B g m c R names whom O d j G A c' pre) (hd : 0 < d) (hj : j < m) (hG : G.getD j 0 < 0) (s : ByteArray) (hs : names.getD j ⟨#[]⟩ = s)
    (hO : OwnS 4 w1 B 40 A' ((O ++ tell names whom pre).length + 1) c2 (cellsD (O ++ tell names whom pre) ++ cellsD [(s, whom, min d (-G.getD j 0))])) (hb : Below B wr w1) :
    RpAt w0 (w1.setCell ⟨g, j, none⟩ (.int .i64 (G.getD j 0 + min d (-G.getD j 0)))) B g m c R names whom O (d - min d (-G.getD j 0)) (j + 1) (G.set j (G.getD j 0 + min d (-G.getD j 0))) A' c2 (pre ++ [(j, min d (-G.getD j 0))]) := by
  obtain ⟨h1, h2, h3, h4⟩ := h
  have hjG : j < G.length := by omega
  have ht : O ++ tell names whom (pre ++ [(j, min d (-G.getD j 0))]) = (O ++ tell names whom pre) ++ [(s, whom, min d (-G.getD j 0))] := by
    simp [tell, ← hs]
  refine ⟨by rw [ht]; exact h1.paid _ hO hb hj _, by rw [List.length_set]; exact h2, fun i => ?_, ?_⟩
  · by_cases e : j = i
    · subst e; rw [getD_set_same _ _ _ hjG]; have := h3 j; omega
    · rw [getD_set_other _ _ _ _ e]; exact h3 i
  · rw [h4, show m - j = m - (j + 1) + 1 by omega]
    conv => lhs; unfold pf
    rw [if_neg (by omega), if_pos hG]
    simp
theorem RpAt.end_ {w0 wr : World} {B g m c : Nat} {R : List Int × List (Nat × Int)} {names : List ByteArray} {whom : ByteArray} {O : List (ByteArray × ByteArray × Int)} {d : Int} {j : Nat} {G : List Int} {A : Option Addr} {c' : Nat} {pre : List (Nat × Int)}
    (h : RpAt w0 wr B g m c R names whom O d j G A c' pre) (he : d ≤ 0 ∨ m ≤ j) : RpSt w0 wr B g m c R.1 A c' (O ++ tell names whom R.2) ∧ pre = R.2 := by
  obtain ⟨h1, h2, h3, h4⟩ := h
  have : pf G j (m - j) d = (G, []) := by
    rcases he with he | he
    · exact pf_zero _ _ _ _ he
    · rw [show m - j = 0 by omega]; rfl
  rw [this] at h4
  subst h4
  simpa using h1

end Go.Proofs.Ytbcmaaoddnaoiaa
