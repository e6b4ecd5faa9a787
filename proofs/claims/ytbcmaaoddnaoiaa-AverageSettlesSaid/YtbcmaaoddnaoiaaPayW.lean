/-
  The closure of average.Pays: its walk.
-/
import Derived.Test.YtbcmaaoddnaoiaaPay
import Derived.Deep.RegionLaw
namespace Go.Proofs.Ytbcmaaoddnaoiaa
set_option linter.unusedVariables false
set_option linter.unusedSimpArgs false
open Go.RowKit

/-- Behind what was due. -/
def PayPost (w0 : World) (lb g gb ob pb : Nat) (a : Option Addr) (n cL c : Nat) (R : List Int × List (Nat × Int)) (names : List ByteArray) (whom : ByteArray) (O : List (ByteArray × ByteArray × Int)) (e : Ending) (w' : World) : Prop :=
  e = .returned (.tuple #[]) ∧ ∃ p A c', PaySt w0 w' lb g gb ob pb a n cL c R.1 p A c' (O ++ tell names whom R.2) ∧ p ≤ n ∧ ∀ j, j < p → 0 ≤ R.1.getD j 0

/-- How far it is. -/
def PayAt (w0 wr : World) (lb g gb ob pb : Nat) (a : Option Addr) (n cL c : Nat) (R : List Int × List (Nat × Int)) (names : List ByteArray) (whom : ByteArray) (O : List (ByteArray × ByteArray × Int)) (due : Int) (G : List Int) (p : Nat) (A : Option Addr) (c' : Nat) (pre : List (Nat × Int)) : Prop :=
  PaySt w0 wr lb g gb ob pb a n cL c G p A c' (O ++ tell names whom pre) ∧ G.length = n ∧ p ≤ n ∧ (∀ j, j < p → 0 ≤ G.getD j 0) ∧ due ≤ negs G ∧ (∀ i, -4398046511104 ≤ G.getD i 0 ∧ G.getD i 0 ≤ 4398046511104) ∧
  R = ((pf G p (n - p) due).1, pre ++ (pf G p (n - p) due).2)

theorem Rd.fresh (w : World) (cs : Array Value) (t : TypeId) {xs : List Value} (h : xs = cs.toList) : Rd (w.alloc (.cells cs t)) (some ⟨w.heap.size, 0, none⟩) xs := fun _ => by
  refine ⟨w.heap.size, 0, rfl, by simp, fun j v hv => ?_⟩
  rw [Nat.zero_add]
  exact (Blk.new w t cs).cell j (by rw [h] at hv; simpa using hv)
theorem one_debt (d : ByteArray × ByteArray × Int) : ∀ u ∈ cellsD [d], u.oneCell' = true := by
  intro u hu
  simp [cellsD] at hu
  rcases hu with rfl | rfl | rfl | rfl <;> rfl
theorem PayAt.end_ {w0 wr : World} {lb g gb ob pb : Nat} {a : Option Addr} {n cL c : Nat} {R : List Int × List (Nat × Int)} {names : List ByteArray} {whom : ByteArray} {O : List (ByteArray × ByteArray × Int)} {due : Int} {G : List Int} {p : Nat} {A : Option Addr} {c' : Nat} {pre : List (Nat × Int)}
    (h : PayAt w0 wr lb g gb ob pb a n cL c R names whom O due G p A c' pre) (hd : due ≤ 0) : PayPost w0 lb g gb ob pb a n cL c R names whom O (.returned (.tuple #[])) wr := by
  obtain ⟨h1, h2, h3, h4, h5, h6, h7⟩ := h
  rw [pf_zero _ _ _ _ hd, List.append_nil] at h7
  subst h7
  exact ⟨rfl, p, A, c', h1, h3, h4⟩
theorem PayAt.skip {w0 wr : World} {lb g gb ob pb : Nat} {a : Option Addr} {n cL c : Nat} {R : List Int × List (Nat × Int)} {names : List ByteArray} {whom : ByteArray} {O : List (ByteArray × ByteArray × Int)} {due : Int} {G : List Int} {p : Nat} {A : Option Addr} {c' : Nat} {pre : List (Nat × Int)}
    (h : PayAt w0 wr lb g gb ob pb a n cL c R names whom O due G p A c' pre) (hp : p < n) (hG : 0 ≤ G.getD p 0) : PayAt w0 (wr.setCell ⟨pb, 0, none⟩ (.int .i64 (p + 1 : Nat))) lb g gb ob pb a n cL c R names whom O due G (p + 1) A c' pre := by
  obtain ⟨h1, h2, h3, h4, h5, h6, h7⟩ := h
  refine ⟨h1.next (p + 1), h2, by omega, fun j hj => ?_, h5, h6, ?_⟩
  · by_cases e : j = p
    · subst e; exact hG
    · exact h4 j (by omega)
  · rw [h7, show n - p = n - (p + 1) + 1 by omega, pf_skip _ _ _ _ hG]
theorem PayAt.lt {w0 wr : World} {lb g gb ob pb : Nat} {a : Option Addr} {n cL c : Nat} {R : List Int × List (Nat × Int)} {names : List ByteArray} {whom : ByteArray} {O : List (ByteArray × ByteArray × Int)} {due : Int} {G : List Int} {p : Nat} {A : Option Addr} {c' : Nat} {pre : List (Nat × Int)}
    (h : PayAt w0 wr lb g gb ob pb a n cL c R names whom O due G p A c' pre) (hd : 0 < due) : p < n := by
  obtain ⟨h1, h2, h3, h4, h5, h6, h7⟩ := h
  obtain ⟨j, hj, hx⟩ := negs_pos G (by omega)
  rcases Nat.lt_or_ge p n with h | h
  · exact h
  · have := h4 j (by omega); omega
theorem PayAt.pay {w0 wr w1 : World} {lb g gb ob pb : Nat} {a : Option Addr} {n cL c : Nat} {R : List Int × List (Nat × Int)} {names : List ByteArray} {whom : ByteArray} {O : List (ByteArray × ByteArray × Int)} {due : Int} {G : List Int} {p : Nat} {A A' : Option Addr} {c' c2 : Nat} {pre : List (Nat × Int)}
    (h : PayAt w0 wr lb g gb ob pb a n cL c R names whom O due G p A c' pre) (hd : 0 < due) (hp : p < n) (hG : G.getD p 0 < 0) (s : ByteArray) (hs : names.getD p ⟨#[]⟩ = s)
    (hO : OwnS 4 w1 (pb + 1) 40 A' ((O ++ tell names whom pre).length + 1) c2 (cellsD (O ++ tell names whom pre) ++ cellsD [(s, whom, min due (-G.getD p 0))])) (hb : Below (pb + 1) wr w1) :
    PayAt w0 ((w1.setCell ⟨ob, 0, none⟩ (.slice A' ((O ++ tell names whom pre).length + 1) c2)).setCell ⟨g, p, none⟩ (.int .i64 (G.getD p 0 + min due (-G.getD p 0)))) lb g gb ob pb a n cL c R names whom O (due - min due (-G.getD p 0)) (G.set p (G.getD p 0 + min due (-G.getD p 0))) p A' c2 (pre ++ [(p, min due (-G.getD p 0))]) := by
  obtain ⟨h1, h2, h3, h4, h5, h6, h7⟩ := h
  have hpG : p < G.length := by omega
  have ht : O ++ tell names whom (pre ++ [(p, min due (-G.getD p 0))]) = (O ++ tell names whom pre) ++ [(s, whom, min due (-G.getD p 0))] := by
    simp [tell, ← hs]
  have hn := negs_set G p (G.getD p 0 + min due (-G.getD p 0)) hpG
  refine ⟨?_, by rw [List.length_set]; exact h2, h3, fun j hj => ?_, by omega, fun i => ?_, ?_⟩
  · rw [ht]; exact h1.paid _ hO hb hp h2 _
  · rw [getD_set_other _ _ _ _ (by omega)]; exact h4 j hj
  · by_cases e : p = i
    · subst e; rw [getD_set_same _ _ _ hpG]; have := h6 p; omega
    · rw [getD_set_other _ _ _ _ e]; exact h6 i
  · rw [h7, show n - p = n - (p + 1) + 1 by omega, pf_pay _ _ _ _ hd hG hpG]
    simp

set_option maxRecDepth 100000 in
set_option maxHeartbeats 3200000 in
theorem c_pay (w0 w1 : World) (lb g gb ob pb : Nat) (a : Option Addr) (n cL c : Nat) (names : List ByteArray) (whom : ByteArray) (O : List (ByteArray × ByteArray × Int)) (due : Int) (G : List Int) (p : Nat) (A : Option Addr) (c' : Nat)
    (L : List (ByteArray × Int)) (hL : L.length = n) (hN : names = L.map fun p => p.1) (hR : Rd w0 a (cellsI L)) (hm : n ≤ 4096) (hO : O.length ≤ 100000000) (hd : 0 ≤ due) (hd2 : due ≤ 4611686018427387904)
    (hst : PayAt w0 w1 lb g gb ob pb a n cL c (pf G p (n - p) due) names whom O due G p A c' []) :
    Calls Try.prog 45 #[.string whom, .int .i64 due, .pointer (some ⟨gb, 0, none⟩), .pointer (some ⟨pb, 0, none⟩), .pointer (some ⟨ob, 0, none⟩), .pointer (some ⟨lb, 0, none⟩)] w1 (PayPost w0 lb g gb ob pb a n cL c (pf G p (n - p) due) names whom O) := by
  obtain ⟨i0, hi, hz0, hz1, hz2⟩ := info_parts info_debt
  have HI := Lib.hid hi
  have HZ0 := Lib.hid hz0
  have HZ1 := Lib.hid hz1
  have HZ2 := Lib.hid hz2
  have HSt := Lib.hid hst
  have HR := Lib.hid hR
  have HL := Lib.hid hL
  have HN := Lib.hid hN
  have hcount : (pf G p (n - p) due).2.length ≤ 4096 := by have := pf_count (n - p) G p due; omega
  generalize pf G p (n - p) due = R at *
  clear hi hz0 hz1 hz2 hst hR hL hN
  go_enter Try.func45, Try.ntmps45
  go_wp2
  go_loopw [1] (fun x wx => ∃ (du : Int) (Gk : List Int) (q : Nat) (B : Option Addr) (cb : Nat) (pre : List (Nat × Int)), x = .int .i64 du ∧ 0 ≤ du ∧ du ≤ 4611686018427387904 ∧ Hid (PayAt w0 wx lb g gb ob pb a n cL c R names whom O du Gk q B cb pre)) (fun x _ => (intOf x).toNat)
  case atStart => exact ⟨due, G, p, A, c', [], rfl, hd, hd2, HSt.out⟩
  case round =>
    obtain ⟨du, Gk, q, B, cb, pre, rfl, du0, du1, hP⟩ := hrel
    clear HSt
    by_cases hpos : 0 < du
    · go_wp2
      obtain ⟨wo, hwo⟩ : ∃ wo : World, wo = wr := ⟨_, rfl⟩
      rw [← hwo] at hP ⊢
      clear hwo
      go_loopg [] (n - q) (fun gk wx => ∃ q' : Nat, gk = n - q' ∧ Hid (PayAt w0 wx lb g gb ob pb a n cL c R names whom O du Gk q' B cb pre))
      case atStart => exact ⟨q, rfl, hP⟩
      case round =>
        obtain ⟨q', hgk, hP'⟩ := hrel
        clear hP
        have hlt := hP'.out.lt hpos
        obtain ⟨S, hS2, hS3, hS4, hS5, hS6, hS7⟩ := hP'.out
        have c1 := S.gbx.cell 0 rfl
        have c2 := S.pbx.cell 0 rfl
        have c3 := S.obx.cell 0 rfl
        have c4 := S.lbx.cell 0 rfl
        obtain ⟨g2, e2, _, hgl, hgf, hgc, hgs⟩ := S.gets.at q' hlt
        injection e2 with e2
        injection e2 with e2
        subst e2
        have f2 := S.pbx.free 0
        have f3 := S.obx.free 0
        have hkL : q' < L.length := by rw [HL.out]; exact hlt
        obtain ⟨b5, o5, rfl, hb5, c5, c6⟩ := intr_at (HR.out.below S.below) q' hkL
        have hGq : q' < Gk.length := by rw [hS2]; exact hlt
        have hgc2 : wr.cell? ⟨g, q', none⟩ = some (.int .i64 (Gk.getD q' 0)) := by
          rw [hgc]
          simp only [vals, List.getElem?_map, List.getElem?_eq_getElem hGq, List.getD_eq_getElem?_getD, Option.getD_some, Option.map_some]
        obtain ⟨g0, g1⟩ := hS6 q'
        have hord := S.ord
        have l1 := S.obx.lt
        have l2 := S.pbx.lt
        have l3 := S.lbx.lt
        have l4 := S.gbx.lt
        have hOL : (O ++ tell names whom pre).length ≤ 100010000 := by
          have h1 := congrArg (fun r => r.2.length) hS7
          simp only [List.length_append] at h1 ⊢
          have h2 : (tell names whom pre).length = pre.length := by simp [tell]
          omega
        have hqn : (q' : Int) < n := by omega
        have HS := Lib.hid S
        have HGK := Lib.hid hgk
        clear hgc hgs S hS2 hS3 hS4 hS5 hS6 hS7 hgk
        by_cases hx : 0 ≤ Gk.getD q' 0
        · have hnext := Lib.hid (hP'.out.skip hlt hx)
          generalize Gk.getD q' 0 = x at *
          go_wp2
          go_roundg (n - (q' + 1))
          case measure => have := HGK.out; omega
          case rel => exact ⟨q' + 1, rfl, hnext⟩
        · have hxn : Gk.getD q' 0 < 0 := by omega
          have hpay := Lib.hid (fun (w1 : World) (A' : Option Addr) (c2 : Nat) s hs hO hb => hP'.out.pay (w1 := w1) (A' := A') (c2 := c2) hpos hlt hxn s hs hO hb)
          have hns := Lib.hid (show names.getD q' ⟨#[]⟩ = L[q'].1 by rw [HN.out]; simp [hkL])
          clear hx
          generalize hgx : Gk.getD q' 0 = x at *
          generalize O ++ tell names whom pre = OL at *
          generalize L[q'].1 = s at *
          have e1 : IntKind.i64.wrap (-x) = -x := IntWalk.i64_in _ (by omega)
          generalize hpm : min du (-x) = pm at *
          have HPM := Lib.hid hpm
          have HGX := Lib.hid hgx
          have pm0 : 1 ≤ pm := by omega
          have pm1 : pm ≤ -x := by omega
          have pm2 : pm ≤ du := by omega
          clear hgx
          go_wp2
          go_region_law ((with_reducible refine step_appS _ (o := ⟨some 35, _, _, _, _, _⟩) ?_ (.tmp 25) (.tmp 34) 26 ?_ 4 (by omega) (pb + 1) 40 i0 _ 56 Try.underlying26 HI.out HZ0.out HZ1.out HZ2.out ?_ B OL.length cb (cellsD OL) ?_ ?_ (some ⟨wr.heap.size, 0, none⟩) 1 1 (cellsD [(s, whom, pm)]) ?_ ?_ ?_ ?_ ?_ ?_ ?_ ?_); (focus rfl); (focus rfl); (focus rfl); (focus (simp [go_sem]; done)); (focus exact (HS.out.out.alloc _).drew); (focus (simp [go_sem]; done)); (focus rfl); (focus exact (Rd.fresh _ _ _ rfl).drew); (focus exact one_debt _); (focus (unfold maxLen; omega)); (focus omega); (focus (have hlt9 := HS.out.pbx.lt; first | (simp; done) | (simp; omega))); (intro A' c2 w2 hown hg hb2); (go_must (have hb3 : Hid (Below (pb + 1) wr w2) := Lib.hid ((((Below.refl _ _).alloc (by have := HS.out.pbx.lt; omega) _).drew).trans hb2))); (go_must (have HOwn := Lib.hid hown)); (go_must (have k3 := (HS.out.obx.below hb3.out (by omega)).cell 0 rfl)); (go_must (have kf3 := (HS.out.obx.below hb3.out (by omega)).free 0)); (clear hb2 hown hg))
          all_goals
            have HP := Lib.hid (hpay.out w2 A' c2 s hns.out HOwn.out hb3.out)
            obtain ⟨j1, j2, j3, j4⟩ := HS.out.mid hb3.out (.slice A' (OL.length + 1) c2)
            have j5 := (j3 q').trans hgc2
            have j6 := (j4 q').trans hgf
            clear j3 j4 k3 kf3
            generalize w2.setCell ⟨ob, 0, none⟩ (.slice A' (OL.length + 1) c2) = w3 at *
            have e2 : IntKind.i64.wrap (x + pm) = x + pm := IntWalk.i64_in _ (by omega)
            have e3 : IntKind.i64.wrap (du - pm) = du - pm := IntWalk.i64_in _ (by omega)
            go_wp2
            go_roundw
            case rel => exact ⟨du - pm, Gk.set q' (x + pm), q', A', c2, pre ++ [(q', pm)], rfl, by omega, by omega, HP.out⟩
            case measure => simp [intOf]; omega
    · have hend := Lib.hid (hP.out.end_ (by omega))
      go_wp2
      exact bodyPost_ret (v := .tuple #[]) (by simp [results, Try.results45, go_sem]) rfl hend.out

end Go.Proofs.Ytbcmaaoddnaoiaa
