/-
  The reference's Pays: its walk.
-/
import Derived.Test.YtbcmaaoddnaoiaaRPay
namespace Go.Proofs.Ytbcmaaoddnaoiaa
set_option linter.unusedVariables false
set_option linter.unusedSimpArgs false
open Go.RowKit

def rst (names : List ByteArray) (G : List Int) (spent : Int) : Nat → List Int × List (ByteArray × ByteArray × Int)
  | 0 => (G, [])
  | k + 1 => payS names G spent k
def rdue (names : List ByteArray) (G : List Int) (spent : Int) : Nat → Int
  | 0 => spent
  | k + 1 => (payS names G spent k).1.getD k 0
def rwho (names : List ByteArray) : Nat → ByteArray
  | 0 => ⟨#[]⟩
  | k + 1 => names.getD k ⟨#[]⟩
theorem pf_max (G : List Int) (k m : Nat) (d : Int) : pf G k m (max d 0) = pf G k m d := by
  rcases Int.lt_or_le d 0 with h | h
  · rw [pf_zero _ _ _ _ (show max d 0 ≤ 0 by omega), pf_zero _ _ _ _ (by omega)]
  · rw [show max d 0 = d by omega]
theorem rst_next (names : List ByteArray) (G : List Int) (spent : Int) (t : Nat) :
    rst names G spent (t + 1) = ((pf (rst names G spent t).1 0 G.length (rdue names G spent t)).1, (rst names G spent t).2 ++ tell names (rwho names t) (pf (rst names G spent t).1 0 G.length (rdue names G spent t)).2) := by
  cases t with
  | zero => simp [rst, rdue, rwho, payS]
  | succ k => simp only [rst, rdue, rwho, payS, pf_max]
theorem rst_count (names : List ByteArray) (G : List Int) (spent : Int) (t : Nat) : (rst names G spent t).2.length ≤ t * G.length := by
  cases t with
  | zero => simp [rst]
  | succ k => exact payS_count names G spent k

set_option maxRecDepth 100000 in
set_option maxHeartbeats 6400000 in
theorem c_rpays (a b : Option Addr) (m c d : Nat) (L : List (ByteArray × Int)) (gs : List Int) (spent : Int) (w : World) (hn : L.length = m) (hm : m ≤ 4096) (hr : Rd w a (cellsI L)) (hs : ∀ p ∈ L, p.1.size ≤ 9223372036854775807) (hg : gs.length = m) (hb : Rd w b (vals .i64 gs)) (he : wholeE L gs spent = 0) :
    Calls Try.prog 18 #[.slice a m c, .slice b m d, .int .i64 spent] w (PaysOk w (debtsOf L gs spent)) := by
  obtain ⟨i0, hi, hz0, hz1, hz2⟩ := info_parts info_debt
  have HI := Lib.hid hi
  have HZ0 := Lib.hid hz0
  have HZ1 := Lib.hid hz1
  have HZ2 := Lib.hid hz2
  have HW := c_rwhole a b m c m d L gs spent w hn hm hr hs hg (by omega) hb he
  unfold WholeOk at HW
  have F := whole_facts he
  obtain ⟨f1, f2, f3, f4⟩ := gets_facts F
  have hm1 := F.pos
  obtain ⟨s0, s1⟩ := F.sp
  have hGeq : getsOf L gs spent = subs gs (partsOf (sumL gs + spent) (valsI L)) m := by unfold getsOf; rw [hn]
  have HDb := Lib.hid (show debtsOf L gs spent = (rst (namesB L) (getsOf L gs spent) spent (m + 1)).2 by unfold debtsOf; rw [hn]; rfl)
  have HPF := Lib.hid (fun k hk => payS_facts (namesB L) (getsOf L gs spent) spent s0 f3 k hk)
  have HCt := Lib.hid (fun t => rst_count (namesB L) (getsOf L gs spent) spent t)
  have HNx := Lib.hid (fun t => rst_next (namesB L) (getsOf L gs spent) spent t)
  rw [hn] at f1 hm1
  rw [← hGeq] at HW
  have HW := Lib.hid HW
  have HF1 := Lib.hid f1
  have HF4 := Lib.hid f4
  have HR := Lib.hid hr
  have HN := Lib.hid hn
  clear hi hz0 hz1 hz2 hn hr hs hg hb he F f1 f2 f3 f4 hGeq
  generalize getsOf L gs spent = G0 at *
  go_enter Try.func18, Try.ntmps18
  go_wp2_with fail
  refine HW.out.mono ?_
  rintro e w1 ⟨b2, t2, A2, c2, rfl, hP2, hO2, hb2⟩
  have hz1 := hb2.size
  rcases hO2.form with ⟨_, h0, _⟩ | ⟨g, rfl, hg1, hg2, _⟩
  · omega
  have S0 : Hid (RpSt w (w1.alloc (.cells #[] 40)) w1.heap.size g m c2 G0 (some ⟨w1.heap.size, 0, none⟩) 0 []) := Lib.hid
    { below := hb2.alloc hz1 _
      gets := hO2.alloc _
      out := OwnS.empty 4 w1 40 w1.heap.size (Nat.le_refl _)
      ord := ⟨hg1, hg2, by simp⟩ }
  clear hP2 hO2 hb2 HW
  go_wp2_with fail
  go_loopw [11, 12] (fun y x wr => ∃ (t : Nat) (A : Option Addr) (co : Nat), y = .slice A (rst (namesB L) G0 spent t).2.length co ∧ x = .int .i64 ((t : Int) - 1) ∧ t ≤ m + 1 ∧ Hid (RpSt w wr w1.heap.size g m c2 (rst (namesB L) G0 spent t).1 A co (rst (namesB L) G0 spent t).2)) (fun _ x _ => (m - intOf x).toNat)
  case atStart => exact ⟨0, _, 0, rfl, rfl, by omega, S0.out⟩
  case round =>
    obtain ⟨t, A, co, rfl, rfl, ht, hS⟩ := hrel
    by_cases hlt : t ≤ m
    · have hGs : (rst (namesB L) G0 spent t).1.length = m ∧ ∀ i, -4398046511104 ≤ (rst (namesB L) G0 spent t).1.getD i 0 ∧ (rst (namesB L) G0 spent t).1.getD i 0 ≤ 4398046511104 := by
        cases t with
        | zero => exact ⟨HF1.out, fun i => by have := HF4.out i; show _ ≤ G0.getD i 0 ∧ G0.getD i 0 ≤ _; omega⟩
        | succ k =>
          obtain ⟨p1, p2, p3, p4⟩ := HPF.out k (by rw [HF1.out]; omega)
          refine ⟨p1.trans HF1.out, fun i => ?_⟩
          have h1 := p4 i
          have h2 := HF4.out i
          have h3 := p2 i
          show _ ≤ (payS (namesB L) G0 spent k).1.getD i 0 ∧ (payS (namesB L) G0 spent k).1.getD i 0 ≤ _
          omega
      have hdu : -4398046511104 ≤ rdue (namesB L) G0 spent t ∧ rdue (namesB L) G0 spent t ≤ 4398046511104 := by
        cases t with
        | zero => show _ ≤ spent ∧ spent ≤ _; omega
        | succ k => exact hGs.2 k
      have hnx := HNx.out t
      rw [HF1.out] at hnx
      have hct := HCt.out (t + 1)
      rw [hnx, HF1.out] at hct
      have hct2 : (t + 1) * m ≤ 4097 * 4096 := Nat.mul_le_mul (by omega) hm
      have HAt0 := Lib.hid (show RpAt w wr w1.heap.size g m c2 (pf (rst (namesB L) G0 spent t).1 0 m (rdue (namesB L) G0 spent t)) (namesB L) (rwho (namesB L) t) (rst (namesB L) G0 spent t).2 (rdue (namesB L) G0 spent t) 0 (rst (namesB L) G0 spent t).1 A co [] from ⟨by simpa [tell] using hS.out, hGs.1, hGs.2, by simp⟩)
      have HNm := Lib.hid (show namesB L = L.map fun p => p.1 from rfl)
      have hcnt : (rst (namesB L) G0 spent t).2.length + (pf (rst (namesB L) G0 spent t).1 0 m (rdue (namesB L) G0 spent t)).2.length ≤ 100000000 := by
        simp only [List.length_append, tell, List.length_map] at hct
        omega
      have HCnt := Lib.hid hcnt
      have HNxt := Lib.hid hnx
      obtain ⟨u0, u1⟩ := hdu
      have hmv : ∀ k, t = k + 1 → rdue (namesB L) G0 spent t = (rst (namesB L) G0 spent t).1.getD k 0 ∧ rwho (namesB L) t = (namesB L).getD k ⟨#[]⟩ := by rintro k rfl; exact ⟨rfl, rfl⟩
      have hmz : t = 0 → rdue (namesB L) G0 spent t = spent ∧ rwho (namesB L) t = ⟨#[]⟩ := by rintro rfl; exact ⟨rfl, rfl⟩
      clear hnx hct hct2 hcnt
      generalize hR9 : pf (rst (namesB L) G0 spent t).1 0 m (rdue (namesB L) G0 spent t) = R at *
      clear hR9
      generalize (rst (namesB L) G0 spent t).1 = Gs at *
      generalize (rst (namesB L) G0 spent t).2 = O at *
      generalize rdue (namesB L) G0 spent t = du at *
      generalize rwho (namesB L) t = whom at *
      generalize hnames : namesB L = names at *
      generalize hBB : w1.heap.size = B at *
      by_cases ht0 : t = 0
      · obtain ⟨rfl, rfl⟩ := hmz ht0
        subst ht0
        go_wp2
        go_loopw [11, 13, 15] (fun y z x wr => ∃ (j : Nat) (d : Int) (Gc : List Int) (A : Option Addr) (c' : Nat) (pre : List (Nat × Int)), y = .slice A (O ++ tell names (⟨#[]⟩ : ByteArray) pre).length c' ∧ z = .int .i64 d ∧ x = .int .i64 j ∧ j ≤ m ∧ (-4398046511104 ≤ d ∧ d ≤ 4398046511104) ∧ Hid (RpAt w wr B g m c2 R names (⟨#[]⟩ : ByteArray) O d j Gc A c' pre)) (fun _ _ x _ => m - (intOf x).toNat)
        case atStart => exact ⟨0, du, Gs, A, co, [], by simp [tell], rfl, rfl, by omega, by omega, HAt0.out⟩
        case round =>
          obtain ⟨j, d, Gc, A, c', pre, rfl, rfl, rfl, hj, ⟨d0, d1⟩, hP⟩ := hrel
          clear HAt0
          by_cases hlt : j < m
          · by_cases hpos : 0 < d
            · have S := hP.out.1
              have hbd := hP.out.2.2.1 j
              have hGl := hP.out.2.1
              have hR7 := hP.out.2.2.2
              have hjL : j < L.length := by rw [HN.out]; exact hlt
              obtain ⟨b5, o5, ha5, hb5, c5, c6⟩ := intr_at (HR.out.below S.below) j hjL
              obtain ⟨g2, e2, _, hg2l, hgf, hgc, hgs⟩ := S.gets.at j hlt
              injection e2 with e2
              injection e2 with e2
              subst e2
              have hgc2 : wr.cell? ⟨g, j, none⟩ = some (.int .i64 (Gc.getD j 0)) := by
                rw [hgc]
                have : j < Gc.length := by omega
                simp only [vals, List.getElem?_map, List.getElem?_eq_getElem this, List.getD_eq_getElem?_getD, Option.getD_some, Option.map_some]
              have hOL : (O ++ tell names (⟨#[]⟩ : ByteArray) pre).length ≤ 100010000 := by
                have h1 := congrArg (fun r => r.2.length) hR7
                have h3 := HCnt.out
                simp only [List.length_append] at h1 ⊢
                have h2 : (tell names (⟨#[]⟩ : ByteArray) pre).length = pre.length := by simp [tell]
                omega
              have hord := S.ord
              have HS := Lib.hid S
              clear S hgc hgs hR7
              by_cases hx : 0 ≤ Gc.getD j 0
              · have hnext := Lib.hid (hP.out.skip hlt hx)
                clear hP
                generalize Gc.getD j 0 = x at *
                go_wp2
                go_roundw
                case rel => exact ⟨j + 1, d, Gc, A, c', pre, rfl, rfl, by go_num, by omega, by omega, hnext.out⟩
                case measure => simp [intOf]; omega
              · have hpay := Lib.hid (fun (w1 : World) (A' : Option Addr) (c2' : Nat) s hs hO hb => hP.out.pay (w1 := w1) (A' := A') (c2 := c2') hpos hlt (by omega) s hs hO hb)
                have hns := Lib.hid (show names.getD j ⟨#[]⟩ = L[j].1 by rw [HNm.out]; simp [hjL])
                have hmid := Lib.hid (fun (W : World) (hb : Below B wr W) => HS.out.mid hb hlt hGl)
                clear hP
                generalize Gc.getD j 0 = x at *
                have hOLl : (O ++ tell names (⟨#[]⟩ : ByteArray) pre).length = O.length + pre.length := by simp [tell]
                generalize O ++ tell names (⟨#[]⟩ : ByteArray) pre = OL at *
                generalize L[j].1 = s at *
                have e1 : IntKind.i64.wrap (-x) = -x := IntWalk.i64_in _ (by omega)
                generalize hpm : min d (-x) = pm at *
                have pm0 : 1 ≤ pm := by omega
                have pm1 : pm ≤ -x := by omega
                have pm2 : pm ≤ d := by omega
                have HPM := Lib.hid hpm
                have e4 : IntKind.i64.wrap (x + pm) = x + pm := IntWalk.i64_in _ (by omega)
                have e3 : IntKind.i64.wrap (d - pm) = d - pm := IntWalk.i64_in _ (by omega)
                subst ha5
                go_wp2_with (at_builtin; refine wpList_appS _ rfl (.tmp 69) (.tmp 78) _ rfl 4 (by omega) B 40 i0 _ 56 Try.underlying26 HI.out HZ0.out HZ1.out HZ2.out rfl A OL.length c' (cellsD OL) rfl (HS.out.out.alloc _) (some ⟨wr.heap.size, 0, none⟩) 1 1 (cellsD [(s, (⟨#[]⟩ : ByteArray), pm)]) rfl rfl (Rd.fresh _ _ _ rfl) (one_debt _) (by unfold maxLen; omega) (by omega) (by simp; omega) ?_; intro A' c3 w3 hown hg3 hb3; have hb4 := (((Below.refl _ _).alloc (show B ≤ wr.heap.size by omega) _).trans hb3); obtain ⟨k0, k1, k2⟩ := hmid.out w3 hb4; have HQ := Lib.hid (hpay.out w3 A' c3 s hns.out hown hb4))
                go_roundw
                case rel => exact ⟨j + 1, d - pm, _, A', c3, _, by first | (simp [tell]; done) | (simp [tell]; omega), rfl, by go_num, by omega, by omega, HQ.out⟩
                case measure => simp [intOf]; omega
            · have hend := Lib.hid (hP.out.end_ (.inl (by omega)))
              have hz9 := hP.out.1.below.size
              clear hP
              go_wp2
              go_roundw
              case rel => exact ⟨0 + 1, A, c', by rw [HNxt.out, hend.out.2], by go_num, by omega, by show RpSt _ _ _ _ _ _ _ _ _ _; rw [HNxt.out]; exact hend.out.1⟩
              case measure => first | (simp [intOf]; done) | (simp [intOf]; omega)
          · have hend := Lib.hid (hP.out.end_ (.inr (by omega)))
            clear hP
            go_wp2
            go_roundw
            case rel => exact ⟨0 + 1, A, c', by rw [HNxt.out, hend.out.2], by go_num, by omega, by show RpSt _ _ _ _ _ _ _ _ _ _; rw [HNxt.out]; exact hend.out.1⟩
            case measure => first | (simp [intOf]; done) | (simp [intOf]; omega)
      · obtain ⟨k, rfl⟩ : ∃ k, t = k + 1 := ⟨t - 1, by omega⟩
        obtain ⟨hd9, hw9⟩ := hmv k rfl
        have hkm : k < m := by omega
        obtain ⟨j0, j1, j2⟩ := hS.out.mid (Below.refl _ _) hkm hGs.1
        rw [← hd9] at j1
        have hkL : k < L.length := by rw [HN.out]; exact hkm
        obtain ⟨b7, o7, ha7, hb7, n5, n6⟩ := intr_at (HR.out.below hS.out.below) k hkL
        have hnk : L[k].1 = whom := by rw [hw9, HNm.out]; simp [hkL]
        rw [hnk] at n5
        subst ha7
        have hx9 : ((k + 1 : Nat) : Int) - 1 = k := by omega
        rw [hx9]
        clear hd9 hw9 hnk hmv hmz
        go_wp2
        go_quiet (fail)
        generalize hwq : World.drewN wr _ = wq
        have HAq := Lib.hid (show RpAt w wq B g m c2 R names whom O du 0 Gs A co [] from hwq ▸ ⟨HAt0.out.1.drewN _, HAt0.out.2⟩)
        clear hwq HAt0 hS j0 j1 j2 n5 n6 hb7
        have HAt0 := HAq
        clear HAq
        go_wp2
        go_loopw [11, 13, 15] (fun y z x wr => ∃ (j : Nat) (d : Int) (Gc : List Int) (A : Option Addr) (c' : Nat) (pre : List (Nat × Int)), y = .slice A (O ++ tell names whom pre).length c' ∧ z = .int .i64 d ∧ x = .int .i64 j ∧ j ≤ m ∧ (-4398046511104 ≤ d ∧ d ≤ 4398046511104) ∧ Hid (RpAt w wr B g m c2 R names whom O d j Gc A c' pre)) (fun _ _ x _ => m - (intOf x).toNat)
        case atStart => exact ⟨0, du, Gs, A, co, [], by simp [tell], rfl, rfl, by omega, by omega, HAt0.out⟩
        case round =>
          obtain ⟨j, d, Gc, A, c', pre, rfl, rfl, rfl, hj, ⟨d0, d1⟩, hP⟩ := hrel
          clear HAt0
          by_cases hlt : j < m
          · by_cases hpos : 0 < d
            · have S := hP.out.1
              have hbd := hP.out.2.2.1 j
              have hGl := hP.out.2.1
              have hR7 := hP.out.2.2.2
              have hjL : j < L.length := by rw [HN.out]; exact hlt
              obtain ⟨b5, o5, ha5, hb5, c5, c6⟩ := intr_at (HR.out.below S.below) j hjL
              obtain ⟨g2, e2, _, hg2l, hgf, hgc, hgs⟩ := S.gets.at j hlt
              injection e2 with e2
              injection e2 with e2
              subst e2
              have hgc2 : wr.cell? ⟨g, j, none⟩ = some (.int .i64 (Gc.getD j 0)) := by
                rw [hgc]
                have : j < Gc.length := by omega
                simp only [vals, List.getElem?_map, List.getElem?_eq_getElem this, List.getD_eq_getElem?_getD, Option.getD_some, Option.map_some]
              have hOL : (O ++ tell names whom pre).length ≤ 100010000 := by
                have h1 := congrArg (fun r => r.2.length) hR7
                have h3 := HCnt.out
                simp only [List.length_append] at h1 ⊢
                have h2 : (tell names whom pre).length = pre.length := by simp [tell]
                omega
              have hord := S.ord
              have HS := Lib.hid S
              clear S hgc hgs hR7
              by_cases hx : 0 ≤ Gc.getD j 0
              · have hnext := Lib.hid (hP.out.skip hlt hx)
                clear hP
                generalize Gc.getD j 0 = x at *
                go_wp2
                go_roundw
                case rel => exact ⟨j + 1, d, Gc, A, c', pre, rfl, rfl, by go_num, by omega, by omega, hnext.out⟩
                case measure => simp [intOf]; omega
              · have hpay := Lib.hid (fun (w1 : World) (A' : Option Addr) (c2' : Nat) s hs hO hb => hP.out.pay (w1 := w1) (A' := A') (c2 := c2') hpos hlt (by omega) s hs hO hb)
                have hns := Lib.hid (show names.getD j ⟨#[]⟩ = L[j].1 by rw [HNm.out]; simp [hjL])
                have hmid := Lib.hid (fun (W : World) (hb : Below B wr W) => HS.out.mid hb hlt hGl)
                clear hP
                generalize Gc.getD j 0 = x at *
                have hOLl : (O ++ tell names whom pre).length = O.length + pre.length := by simp [tell]
                generalize O ++ tell names whom pre = OL at *
                generalize L[j].1 = s at *
                have e1 : IntKind.i64.wrap (-x) = -x := IntWalk.i64_in _ (by omega)
                generalize hpm : min d (-x) = pm at *
                have pm0 : 1 ≤ pm := by omega
                have pm1 : pm ≤ -x := by omega
                have pm2 : pm ≤ d := by omega
                have HPM := Lib.hid hpm
                have e4 : IntKind.i64.wrap (x + pm) = x + pm := IntWalk.i64_in _ (by omega)
                have e3 : IntKind.i64.wrap (d - pm) = d - pm := IntWalk.i64_in _ (by omega)
                obtain ⟨⟩ := ha5
                go_wp2_with (at_builtin; refine wpList_appS _ rfl (.tmp 69) (.tmp 78) _ rfl 4 (by omega) B 40 i0 _ 56 Try.underlying26 HI.out HZ0.out HZ1.out HZ2.out rfl A OL.length c' (cellsD OL) rfl (HS.out.out.alloc _) (some ⟨wr.heap.size, 0, none⟩) 1 1 (cellsD [(s, whom, pm)]) rfl rfl (Rd.fresh _ _ _ rfl) (one_debt _) (by unfold maxLen; omega) (by omega) (by simp; omega) ?_; intro A' c3 w3 hown hg3 hb3; have hb4 := (((Below.refl _ _).alloc (show B ≤ wr.heap.size by omega) _).trans hb3); obtain ⟨k0, k1, k2⟩ := hmid.out w3 hb4; have HQ := Lib.hid (hpay.out w3 A' c3 s hns.out hown hb4))
                go_roundw
                case rel => exact ⟨j + 1, d - pm, _, A', c3, _, by first | (simp [tell]; done) | (simp [tell]; omega), rfl, by go_num, by omega, by omega, HQ.out⟩
                case measure => simp [intOf]; omega
            · have hend := Lib.hid (hP.out.end_ (.inl (by omega)))
              have hz9 := hP.out.1.below.size
              clear hP
              go_wp2
              go_roundw
              case rel => exact ⟨(k + 1) + 1, A, c', by rw [HNxt.out, hend.out.2], by go_num, by omega, by show RpSt _ _ _ _ _ _ _ _ _ _; rw [HNxt.out]; exact hend.out.1⟩
              case measure => first | (simp [intOf]; done) | (simp [intOf]; omega)
          · have hend := Lib.hid (hP.out.end_ (.inr (by omega)))
            clear hP
            go_wp2
            go_roundw
            case rel => exact ⟨(k + 1) + 1, A, c', by rw [HNxt.out, hend.out.2], by go_num, by omega, by show RpSt _ _ _ _ _ _ _ _ _ _; rw [HNxt.out]; exact hend.out.1⟩
            case measure => first | (simp [intOf]; done) | (simp [intOf]; omega)
    · obtain rfl : t = m + 1 := by omega
      have hz9 := hS.out.below.size
      go_wp2
      go_ret2
      unfold PaysOk
      rw [HDb.out]
      exact ⟨A, co, rfl, hS.out.out.mono hz1, hS.out.below⟩

end Go.Proofs.Ytbcmaaoddnaoiaa
