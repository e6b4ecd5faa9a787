/-
  File.Recover: its walk.
-/
import Derived.Test.YtbcmaaoddnaoiaaClRec
import Derived.Test.YtbcmaaoddnaoiaaAppT
namespace Go.Proofs.Ytbcmaaoddnaoiaa
set_option linter.unusedVariables false
set_option linter.unusedSimpArgs false
open Go.RowKit

theorem OwnS.at {s : Nat} {w : World} {B n c : Nat} {e : TypeId} {A : Option Addr} {xs : List Value} (h : OwnS s w B e A n c xs) (i : Nat) (hi : i < n * s) : ∃ g, A = some ⟨g, 0, none⟩ ∧ B ≤ g ∧ g < w.heap.size ∧ w.frozen? ⟨g, i, none⟩ = false ∧ w.cell? ⟨g, i, none⟩ = xs[i]? ∧ (∀ u, OwnS s (w.setCell ⟨g, i, none⟩ u) B e A n c (xs.set i u)) := by
  rcases h.form with ⟨_, h0, _⟩ | ⟨g, rfl, hb, hl, cur, hg, hn, hs, ht⟩
  · subst h0; simp at hi
  · refine ⟨g, rfl, hb, hl, by simp [World.frozen?, hg], ?_, fun u => ?_⟩
    · rw [cell_of_row w g i cur e (0, 0) hg, ← ht, List.getElem?_take, if_pos hi]
      simp
    · have h2 := h.2
      have hcm : c ≤ maxLen := by
        rcases h2 with ⟨h3, _⟩ | ⟨g', cap, cur', hv, _, _, _, hm, _⟩
        · cases h3
        · injection hv with _ _ hc
          subst hc
          exact hm
      refine ⟨by have := h.1; simpa using this, .inr ⟨g, c, cur.setIfInBounds i u, rfl, hb, ?_, hn, hcm, by simpa using hs, ?_⟩⟩
      · simp [World.setCell, Array.getElem?_modify, hg]
      · rw [← ht]
        simp [List.take_set]
theorem OwnS.keepB {s : Nat} {w w' : World} {B n c B' : Nat} {e : TypeId} {A : Option Addr} {xs : List Value} (h : OwnS s w B e A n c xs) (hb : Below B' w w') (ho : ∀ k, (Value.slice A n c).ownBlock = some k → k < B') : OwnS s w' B e A n c xs := by
  refine ⟨h.1, ?_⟩
  rcases h.2 with hn | ⟨g, cap, cur, hv, hb', hg, rest⟩
  · exact .inl hn
  · have hk : g < B' := ho g (by rw [hv]; rfl)
    exact .inr ⟨g, cap, cur, hv, hb', (hb.block g hk).trans hg, rest⟩
theorem cellsM_set (L : List Pmt) (k : Nat) (h : k < L.length) (x : Int) : (cellsM L).set (k * 3 + 2) (.int .i64 x) = cellsM (L.set k ⟨L[k].n, L[k].paid, x⟩) := by
  induction L generalizing k with
  | nil => simp at h
  | cons p r ih =>
    cases k with
    | zero => rfl
    | succ k =>
      have e1 : (k + 1) * 3 + 2 = k * 3 + 2 + 1 + 1 + 1 := by omega
      rw [e1]
      have := ih k (by simpa using h)
      simp only [cellsM, List.set_cons_succ, List.getElem_cons_succ]
      rw [this]
theorem mix_get (D P : List Pmt) (k : Nat) (hD : D.length = k) (h : k < P.length) : (D ++ P.drop k)[k]'(by simp; omega) = P[k] := by
  rw [List.getElem_append_right (by omega)]
  simp [hD]
theorem mix_set (D P : List Pmt) (k : Nat) (hD : D.length = k) (h : k < P.length) (q : Pmt) : (D ++ P.drop k).set k q = (D ++ [q]) ++ P.drop (k + 1) := by
  rw [List.set_append_right _ _ (by omega), hD, Nat.sub_self, List.drop_eq_getElem_cons h, List.set_cons_zero, List.append_assoc]
  rfl
theorem Kept.then_below {g B : Nat} {r : Option Nat} {w w1 w2 : World} (h : Kept g r w w1) (hb : Below B w1 w2) (hB : w.heap.size ≤ B) : Kept g r w w2 :=
  ⟨hb.os.trans h.os, hb.tape.trans h.tape, hb.output.trans h.output, Nat.le_trans h.size hb.size, fun k hk hg hr => (hb.block k (by omega)).trans (h.block k hk hg hr)⟩
theorem Kept.then_set {g : Nat} {r : Option Nat} {w w1 : World} (h : Kept g r w w1) (b o : Nat) (v : Value) (hb : b = g ∨ some b = r ∨ w.heap.size ≤ b) : Kept g r w (w1.setCell ⟨b, o, none⟩ v) :=
  ⟨h.os, h.tape, h.output, by have := h.size; simp [World.setCell]; omega, fun k hk hg hr => by
    refine (Below.heap_setCell w1 ⟨b, o, none⟩ v k ?_).trans (h.block k hk hg hr)
    show k ≠ b
    rcases hb with rfl | hb | hb
    · exact hg
    · intro e; subst e; exact hr hb
    · omega⟩
theorem TakeSt.drew {w : World} {qs qo : Nat} {sum : Int} {A : Option Addr} {c : Nat} {L : List (ByteArray × Int)} (h : TakeSt w qs qo sum A c L) : TakeSt w.drew qs qo sum A c L := ⟨h.s, h.o, h.row, h.lt⟩
/-- The file under the closure. -/
theorem FileAt.belowB {w w' : World} {g B : Nat} {loss value back : Int} {A : Option Addr} {c : Nat} {P : List Pmt} (h : FileAt w g loss value back A c P) (hb : Below B w w') (hg : g < B) (ho : ∀ k, (Value.slice A 0 0).ownBlock = some k → k < B) : FileAt w' g loss value back A c P :=
  ⟨h.blk.below hb hg, h.row.keepB hb fun k hk => ho k (by rw [own_any A P.length c 0 0] at hk; exact hk)⟩

theorem FileAt.setBack {w : World} {g : Nat} {loss value back : Int} {A : Option Addr} {c : Nat} {M : List Pmt} (h : FileAt w g loss value back A c M) (k : Nat) (hk : k < M.length) :
    ∃ r, A = some ⟨r, 0, none⟩ ∧ g < r ∧ r < w.heap.size ∧ w.frozen? ⟨r, k * 3 + 2, none⟩ = false ∧ ∀ x, FileAt (w.setCell ⟨r, k * 3 + 2, none⟩ (.int .i64 x)) g loss value back A c (M.set k ⟨M[k].n, M[k].paid, x⟩) := by
  obtain ⟨r, ha, h1, h2, h3, _, h4⟩ := h.row.at (k * 3 + 2) (by omega)
  refine ⟨r, ha, by omega, h2, h3, fun x => ⟨?_, ?_⟩⟩
  · rw [List.length_set]
    exact h.blk.far (by simp; omega) _
  · rw [List.length_set, ← cellsM_set M k hk]
    exact h4 _
theorem FileAt.mixBack {w : World} {g r : Nat} {loss value back : Int} {c : Nat} {D P : List Pmt} {k : Nat} (h : FileAt w g loss value back (some ⟨r, 0, none⟩) c (D ++ P.drop k)) (hD : D.length = k) (hk : k < P.length) (x : Int) :
    w.frozen? ⟨r, k * 3 + 2, none⟩ = false ∧ FileAt (w.setCell ⟨r, k * 3 + 2, none⟩ (.int .i64 x)) g loss value back (some ⟨r, 0, none⟩) c ((D ++ [⟨P[k].n, P[k].paid, x⟩]) ++ P.drop (k + 1)) := by
  have hl : k < (D ++ P.drop k).length := by rw [List.length_append, hD, List.length_drop]; omega
  obtain ⟨r', ha, _, _, h3, h4⟩ := h.setBack k hl
  injection ha with ha
  injection ha with ha _ _
  subst ha
  refine ⟨h3, ?_⟩
  have := h4 x
  rw [mix_set D P k hD hk, mix_get D P k hD hk] at this
  exact this
theorem FileAt.setOwn {w : World} {g : Nat} {loss value back : Int} {A : Option Addr} {c : Nat} {M : List Pmt} (h : FileAt w g loss value back A c M) (x : Int) : FileAt (w.setCell ⟨g, 3, none⟩ (.int .i64 x)) g loss value x A c M :=
  ⟨h.blk.set 3 _, h.row.far (by simp) _⟩
/-- What is wrong with what comes back: nothing is 0. -/
def recE (loss back : Int) (P : List Pmt) (sum : Int) : Int := if sum < 1 ∨ 1099511627776 < sum then 3 else if loss - sumP P - back + outP P < sum then 10 else 0
set_option maxRecDepth 100000 in
set_option maxHeartbeats 3200000 in
theorem c_recover_bad (g : Nat) (loss value back : Int) (A : Option Addr) (c : Nat) (P : List Pmt) (sum : Int) (w : World) (h : FileAt w g loss value back A c P) (hok : FileOk loss value back P) (hm : P.length ≤ 4000) (he : recE loss back P sum ≠ 0) :
    Calls Try.prog 33 #[.pointer (some ⟨g, 0, none⟩), .int .i64 sum] w fun e w' => e = .returned (.tuple #[.slice none 0 0, .int .i64 (recE loss back P sum)]) ∧ Below w.heap.size w w' := by
  have HO := Lib.hid (fun w h => c_out g loss value back A c P w h hok (by omega))
  have HF := Lib.hid h
  clear h hok
  obtain ⟨E, hE⟩ : ∃ E, E = recE loss back P sum := ⟨_, rfl⟩
  rw [← hE] at he ⊢
  unfold recE at hE
  generalize loss - sumP P - back + outP P = out at *
  by_cases h1 : sum < 1
  · obtain rfl : E = 3 := by rw [hE, if_pos (.inl h1)]
    clear hE he
    go_enter Try.func33, Try.ntmps33
    go_wp2
    go_ret2
    exact ⟨rfl, (Below.refl _ _).alloc (Nat.le_refl _) _⟩
  · by_cases h2 : 1099511627776 < sum
    · obtain rfl : E = 3 := by rw [hE, if_pos (.inr h2)]
      clear hE he
      go_enter Try.func33, Try.ntmps33
      go_wp2
      go_ret2
      exact ⟨rfl, (Below.refl _ _).alloc (Nat.le_refl _) _⟩
    · rw [if_neg (by omega)] at hE
      by_cases h3 : out < sum
      · obtain rfl : E = 10 := by rw [hE, if_pos h3]
        clear hE he
        go_enter Try.func33, Try.ntmps33
        go_wp2
        have k0 : (w.alloc (.cells #[.int .i64 sum] 2)).cell? ⟨w.heap.size, 0, none⟩ = some (.int .i64 sum) := World.cell?_alloc_new _ _ _ _
        go_region_held3 (fun wx => wx.cell? ⟨w.heap.size, 0, none⟩ = some (.int .i64 sum)) (go_keep) ((go_at_call 66; (with_reducible refine (HO.out _ (HF.out.alloc _).drew).mono ?_); rintro e w1 ⟨rfl, hb1⟩; have j0 := ((Blk.new w 2 #[.int .i64 sum]).drew.below hb1 (by simp [World.drew])).cell 0 rfl; have HB := Lib.hid (((Below.refl w.heap.size w).alloc (Nat.le_refl _) _).drew.trans (hb1.mono (by simp [World.drew]))); clear hb1))
        go_wp2
        go_ret2
        exact ⟨rfl, HB.out⟩
      · rw [if_neg h3] at hE
        exact absurd hE he

/-- What came back. -/
def RecOk (g : Nat) (loss value back : Int) (A : Option Addr) (c : Nat) (P : List Pmt) (sum : Int) (w : World) (e : Ending) (w' : World) : Prop :=
  ∃ A' c', e = .returned (.tuple #[.slice A' ((recGo sum P).2.1 ++ oneE ⟨#[]⟩ (recGo sum P).2.2).length c', .int .i64 0]) ∧ OwnS 3 w' w.heap.size 70 A' ((recGo sum P).2.1 ++ oneE ⟨#[]⟩ (recGo sum P).2.2).length c' (cellsE ((recGo sum P).2.1 ++ oneE ⟨#[]⟩ (recGo sum P).2.2)) ∧
    FileAt w' g loss value (back + (recGo sum P).2.2) A c (recGo sum P).1 ∧ Kept g (Value.slice A 0 0).ownBlock w w'

set_option maxRecDepth 100000 in
set_option maxHeartbeats 6400000 in
theorem c_recover_ok (g : Nat) (loss value back : Int) (A : Option Addr) (c : Nat) (P : List Pmt) (sum : Int) (w : World) (h : FileAt w g loss value back A c P) (hok : FileOk loss value back P) (hm : P.length ≤ 4000) (he : recE loss back P sum = 0) :
    Calls Try.prog 33 #[.pointer (some ⟨g, 0, none⟩), .int .i64 sum] w (RecOk g loss value back A c P sum w) := by
  have eg : ∀ args w, (callFunc 67 args).run Try.prog w = .ok (.enter 67 args) w := e_take
  have HO := Lib.hid (fun w h => c_out g loss value back A c P w h hok (by omega))
  have HL := Lib.hid (fun w h => c_left g loss value back A c P w h hok (by omega))
  have HF := Lib.hid h
  have hbd := sumP_bd hok.p P.length
  rw [List.take_length] at hbd
  obtain ⟨s1, _, s2, s3, _⟩ := hbd
  obtain ⟨v0, v1⟩ := hok.v
  obtain ⟨l0, l1⟩ := hok.l
  have b0 := hok.b
  have s0 := hok.s
  have HPos := Lib.hid hok.p
  have HMem := Lib.hid (fun x hx => sumP_mem hok.p x hx)
  unfold recE at he
  have a1 : ¬ (sum < 1 ∨ 1099511627776 < sum) := fun h => by rw [if_pos h] at he; cases he
  have a2 : ¬ loss - sumP P - back + outP P < sum := fun h => by rw [if_neg a1, if_pos h] at he; cases he
  have HRest := Lib.hid (fun k => recGo_rest sum (P.take k) (by omega) (fun x hx => hok.p x (List.mem_of_mem_take hx)))
  have hrest := recGo_rest sum P (by omega) hok.p
  have q0 : 1 ≤ sum := by omega
  have q1 : sum ≤ 1099511627776 := by omega
  have q2 : sum ≤ loss - sumP P - back + outP P := by omega
  have hrl : (recGo sum P).2.2 ≤ loss - sumP P - back ∧ 0 ≤ (recGo sum P).2.2 ∧ (recGo sum P).2.2 ≤ 1099511627776 := by omega
  obtain ⟨r0, r1, r2⟩ := hrl
  obtain ⟨n, hn⟩ : ∃ n, n = P.length := ⟨_, rfl⟩
  have HN := Lib.hid hn.symm
  rw [← hn] at hm
  have hgl := h.blk.lt
  have hown := h.row.own
  have hrow : ∀ k, (Value.slice A 0 0).ownBlock = some k → g + 1 ≤ k ∧ k < w.heap.size := fun k hk => by
    rw [own_any A 0 0 P.length c] at hk
    exact hown k hk
  have HRow := Lib.hid hrow
  clear h hok he a1 a2 hrest hn hown hrow
  generalize hlf : loss - sumP P - back = lf at *
  generalize hot : outP P = ot at *
  have lf0 : 0 ≤ lf := by omega
  have lf1 : lf ≤ 1099511627776 := by omega
  have HLf := Lib.hid hlf
  clear hlf hot
  go_enter Try.func33, Try.ntmps33
  go_wp2
  have k0 : (w.alloc (.cells #[.int .i64 sum] 2)).cell? ⟨w.heap.size, 0, none⟩ = some (.int .i64 sum) := World.cell?_alloc_new _ _ _ _
  go_region_held3 (fun wx => wx.cell? ⟨w.heap.size, 0, none⟩ = some (.int .i64 sum)) (go_keep) ((go_at_call 66; (with_reducible refine (HO.out _ (HF.out.alloc _).drew).mono ?_); rintro e w1 ⟨rfl, hb1⟩; have B0 := Lib.hid ((Blk.new w 2 #[.int .i64 sum]).drew.below hb1 (by simp [World.drew])); have j0 := B0.out.cell 0 rfl; have HB := Lib.hid (((Below.refl w.heap.size w).alloc (Nat.le_refl _) _).drew.trans (hb1.mono (by simp [World.drew]))); have HF1 := Lib.hid ((HF.out.alloc _).drew.below hb1); have z1 : w.heap.size < w1.heap.size := B0.out.lt; clear hb1))
  clear k0
  go_wp2_with fail
  refine (HL.out _ (HF1.out.alloc _)).mono ?_
  rintro e w2 ⟨rfl, hb2⟩
  have HF2 := Lib.hid ((HF1.out.alloc (.cells #[.slice none 0 0] 66)).below hb2)
  have HB2 := Lib.hid ((HB.out.alloc HB.out.size (.cells #[.slice none 0 0] 66)).trans (hb2.mono (by simp; omega)))
  have HT2 := Lib.hid (show TakeSt w2 w.heap.size w1.heap.size sum none 0 [] from ⟨(B0.out.alloc _).below hb2 (by simp; omega), (Blk.new w1 _ _).below hb2 (by simp), OwnS.nil _ _ _, z1⟩)
  have k2 := HF2.out.blk.cell 2 rfl
  have z2 : w1.heap.size < w2.heap.size := HT2.out.o.lt
  rw [HN.out] at k2
  clear hb2 HF1 HB B0 j0
  generalize w1.heap.size = qo at *
  go_wp2_with fail
  clear k2
  go_loopw [29] (fun x wr => ∃ (k : Nat) (A' : Option Addr) (c' : Nat), x = .int .i64 k ∧ k ≤ n ∧ Hid (TakeSt wr w.heap.size qo (recGo sum (P.take k)).2.2 A' c' (recGo sum (P.take k)).2.1) ∧ Hid (FileAt wr g loss value back A c ((recGo sum (P.take k)).1 ++ P.drop k)) ∧ Hid (Kept g (Value.slice A 0 0).ownBlock w wr)) (fun x _ => n - (intOf x).toNat)
  case atStart => exact ⟨0, none, 0, rfl, by omega, HT2.out, HF2.out, Kept.of_below HB2.out⟩
  case round =>
    obtain ⟨k, A', c', rfl, hk, hT, hFl, hK⟩ := hrel
    by_cases hlt : k < n
    · have hkP : k < P.length := by rw [HN.out]; exact hlt
      have hsucc := recGo_take_succ sum P k hkP
      have hDl : (recGo sum (P.take k)).1.length = k := by rw [recGo_length, List.length_take]; omega
      have hEl : (recGo sum (P.take k)).2.1.length ≤ k := by
        have := recGo_few sum (P.take k)
        rw [List.length_take] at this
        omega
      obtain ⟨w0, w1', _⟩ := HRest.out k
      have hmix := mix_get (recGo sum (P.take k)).1 P k hDl hkP
      have hml : ((recGo sum (P.take k)).1 ++ P.drop k).length = n := by rw [List.length_append, hDl, List.length_drop, HN.out]; omega
      have hpos := HPos.out _ (List.getElem_mem hkP)
      have hmem := HMem.out _ (List.getElem_mem hkP)
      obtain ⟨b5, o5, ha5, hb5, c0, c1, c2⟩ := pmt_at hFl.out.row.rd k (by rw [hml]; exact hlt)
      obtain ⟨r, ha6, hr1, hr2, f2, hx6⟩ := hFl.out.setBack k (by rw [hml]; exact hlt)
      clear hx6
      rw [hmix] at c0 c1 c2
      rw [ha6] at ha5
      injection ha5 with ha5
      injection ha5 with ha5a ha5b _
      subst ha5a ha5b
      subst ha6
      rw [Nat.zero_add] at c0 c1 c2
      have hrw := (HRow.out r rfl).2
      have k2 := hFl.out.blk.cell 2 rfl
      rw [hml] at k2
      have hmx := fun (w5 : World) (x : Int) (h : FileAt w5 g loss value back (some ⟨r, 0, none⟩) c ((recGo sum (P.take k)).1 ++ P.drop k)) => h.mixBack hDl hkP x
      have HSucc := Lib.hid hsucc
      have HMl := Lib.hid hml
      have HT := Lib.hid hT.out
      have HFl := Lib.hid hFl.out
      clear hsucc hmix hml hT hFl
      generalize (recGo sum (P.take k)).1 = D at *
      generalize (recGo sum (P.take k)).2.1 = E at *
      generalize (recGo sum (P.take k)).2.2 = sk at *
      generalize P[k] = p at *
      obtain ⟨pn, pp, pb⟩ := p
      simp only at c0 c1 c2 hpos hmem HSucc hmx
      obtain ⟨p0, p1⟩ := hpos
      have htk := fun w h => c_take pn (pp - pb) sk w.heap.size qo A' c' E w h
      have HMix := Lib.hid hmx
      have htk := fun (wx : World) (h : TakeSt wx w.heap.size qo sk A' c' E) => c_take pn (pp - pb) sk w.heap.size qo A' c' E wx h ⟨w0, by omega⟩ ⟨by omega, by omega⟩ (by omega)
      clear hmx
      generalize hnn : min sk (pp - pb) = nn at *
      have nn0 : 0 ≤ nn := by omega
      have nn1 : nn ≤ pp - pb := by omega
      unfold TakeOk at htk
      have HTk := Lib.hid htk
      clear htk hnn
      have e0 : IntKind.i64.wrap (pp - pb) = pp - pb := IntWalk.i64_in _ (by omega)
      have e1 : IntKind.i64.wrap (pb + nn) = pb + nn := IntWalk.i64_in _ (by omega)
      have hK2 := hK
      clear hK
      go_wp2
      refine wp_region_noPanic ?_
      refine wp_region_held_drew (S := fun wx => wx.cell? ⟨r, k * 3, none⟩ = some (.string pn) ∧ wx.cell? ⟨r, k * 3 + 1, none⟩ = some (.int .i64 pp)) (by kernel_rfl) ?_ (fun hHeld => ?_)
      focus ((try dsimp only); (first | exact ⟨m0, m1⟩ | exact ⟨d0, d1⟩ | go_keep))
      refine wpAnyH_take (i := 0) (oi := ⟨some 38, _, _, _, _, _⟩) (v := .pointer (some ⟨r, k * 3, none⟩)) rfl (by kernel_rfl) (by kernel_rfl) (by kernel_rfl) (fun _ _ _ h => h) (Or.inl ⟨by rfl, ?_⟩) (by assumption) ?_
      focus (intro w hSw; (try dsimp only at hSw); go_simp; try with_reducible rfl)
      try simp only [Act.put, List.setIfInBounds_toArray, List.set_cons_zero, List.set_cons_succ]
      refine wpAnyH_take (i := 1) (oi := ⟨some 39, _, _, _, _, _⟩) (v := .pointer (some ⟨r, k * 3, none⟩)) rfl (by kernel_rfl) (by kernel_rfl) (by kernel_rfl) (fun _ _ _ h => h) (Or.inl ⟨by rfl, ?_⟩) (by assumption) ?_
      focus (intro w hSw; (try dsimp only at hSw); go_simp; try with_reducible rfl)
      try simp only [Act.put, List.setIfInBounds_toArray, List.set_cons_zero, List.set_cons_succ]
      refine wpAnyH_take (i := 2) (oi := ⟨some 40, _, _, _, _, _⟩) (v := .pointer (some ⟨r, k * 3 + 2, none⟩)) rfl (by kernel_rfl) (by kernel_rfl) (by kernel_rfl) (fun _ _ _ h => h) (Or.inl ⟨by rfl, ?_⟩) (by assumption) ?_
      focus (intro w hSw; (try dsimp only at hSw); go_simp; try with_reducible rfl)
      try simp only [Act.put, List.setIfInBounds_toArray, List.set_cons_zero, List.set_cons_succ]
      refine wpAnyH_take (i := 4) (oi := ⟨some 42, _, _, _, _, _⟩) (v := .func (.func 67) #[] #[.pointer (some ⟨w.heap.size, 0, none⟩), .pointer (some ⟨qo, 0, none⟩)]) rfl (by kernel_rfl) (by kernel_rfl) (by kernel_rfl) (fun _ _ _ h => h) (Or.inl ⟨by rfl, ?_⟩) (by assumption) ?_
      focus (intro w hSw; (try dsimp only at hSw); go_simp; try with_reducible rfl)
      try simp only [Act.put, List.setIfInBounds_toArray, List.set_cons_zero, List.set_cons_succ]
      refine wpAnyH_take (i := 5) (oi := ⟨some 43, _, _, _, _, _⟩) (v := .pointer (some ⟨r, k * 3, none⟩)) rfl (by kernel_rfl) (by kernel_rfl) (by kernel_rfl) (fun _ _ _ h => h) (Or.inl ⟨by rfl, ?_⟩) (by assumption) ?_
      focus (intro w hSw; (try dsimp only at hSw); go_simp; try with_reducible rfl)
      try simp only [Act.put, List.setIfInBounds_toArray, List.set_cons_zero, List.set_cons_succ]
      refine wpAnyH_take (i := 6) (oi := ⟨some 44, _, _, _, _, _⟩) (v := .pointer (some ⟨r, k * 3, none⟩)) rfl (by kernel_rfl) (by kernel_rfl) (by kernel_rfl) (fun _ _ _ h => h) (Or.inl ⟨by rfl, ?_⟩) (by assumption) ?_
      focus (intro w hSw; (try dsimp only at hSw); go_simp; try with_reducible rfl)
      try simp only [Act.put, List.setIfInBounds_toArray, List.set_cons_zero, List.set_cons_succ]
      refine wpAnyH_take (i := 7) (oi := ⟨some 45, _, _, _, _, _⟩) (v := .pointer (some ⟨r, k * 3, none⟩)) rfl (by kernel_rfl) (by kernel_rfl) (by kernel_rfl) (fun _ _ _ h => h) (Or.inl ⟨by rfl, ?_⟩) (by assumption) ?_
      focus (intro w hSw; (try dsimp only at hSw); go_simp; try with_reducible rfl)
      try simp only [Act.put, List.setIfInBounds_toArray, List.set_cons_zero, List.set_cons_succ]
      refine wpAnyH_take (i := 8) (oi := ⟨some 46, _, _, _, _, _⟩) (v := .string pn) rfl (by kernel_rfl) (by kernel_rfl) (by kernel_rfl) (fun _ _ _ h => h) (Or.inl ⟨by rfl, ?_⟩) (by assumption) ?_
      focus (intro w hSw; (try dsimp only at hSw); go_simp; try with_reducible rfl)
      try simp only [Act.put, List.setIfInBounds_toArray, List.set_cons_zero, List.set_cons_succ]
      refine wpAnyH_take (i := 9) (oi := ⟨some 47, _, _, _, _, _⟩) (v := .pointer (some ⟨r, k * 3, none⟩)) rfl (by kernel_rfl) (by kernel_rfl) (by kernel_rfl) (fun _ _ _ h => h) (Or.inl ⟨by rfl, ?_⟩) (by assumption) ?_
      focus (intro w hSw; (try dsimp only at hSw); go_simp; try with_reducible rfl)
      try simp only [Act.put, List.setIfInBounds_toArray, List.set_cons_zero, List.set_cons_succ]
      refine wpAnyH_take (i := 10) (oi := ⟨some 48, _, _, _, _, _⟩) (v := .pointer (some ⟨r, k * 3, none⟩)) rfl (by kernel_rfl) (by kernel_rfl) (by kernel_rfl) (fun _ _ _ h => h) (Or.inl ⟨by rfl, ?_⟩) (by assumption) ?_
      focus (intro w hSw; (try dsimp only at hSw); go_simp; try with_reducible rfl)
      try simp only [Act.put, List.setIfInBounds_toArray, List.set_cons_zero, List.set_cons_succ]
      refine wpAnyH_take (i := 11) (oi := ⟨some 49, _, _, _, _, _⟩) (v := .pointer (some ⟨r, k * 3 + 1, none⟩)) rfl (by kernel_rfl) (by kernel_rfl) (by kernel_rfl) (fun _ _ _ h => h) (Or.inl ⟨by rfl, ?_⟩) (by assumption) ?_
      focus (intro w hSw; (try dsimp only at hSw); go_simp; try with_reducible rfl)
      try simp only [Act.put, List.setIfInBounds_toArray, List.set_cons_zero, List.set_cons_succ]
      refine wpAnyH_take (i := 12) (oi := ⟨some 50, _, _, _, _, _⟩) (v := .int .i64 pp) rfl (by kernel_rfl) (by kernel_rfl) (by kernel_rfl) (fun _ _ _ h => h) (Or.inl ⟨by rfl, ?_⟩) (by assumption) ?_
      focus (intro w hSw; (try dsimp only at hSw); go_simp; try with_reducible rfl)
      try simp only [Act.put, List.setIfInBounds_toArray, List.set_cons_zero, List.set_cons_succ]
      refine wpAnyH_take (i := 13) (oi := ⟨some 51, _, _, _, _, _⟩) (v := .pointer (some ⟨r, k * 3, none⟩)) rfl (by kernel_rfl) (by kernel_rfl) (by kernel_rfl) (fun _ _ _ h => h) (Or.inl ⟨by rfl, ?_⟩) (by assumption) ?_
      focus (intro w hSw; (try dsimp only at hSw); go_simp; try with_reducible rfl)
      try simp only [Act.put, List.setIfInBounds_toArray, List.set_cons_zero, List.set_cons_succ]
      refine wpAnyH_take (i := 14) (oi := ⟨some 52, _, _, _, _, _⟩) (v := .pointer (some ⟨r, k * 3, none⟩)) rfl (by kernel_rfl) (by kernel_rfl) (by kernel_rfl) (fun _ _ _ h => h) (Or.inl ⟨by rfl, ?_⟩) (by assumption) ?_
      focus (intro w hSw; (try dsimp only at hSw); go_simp; try with_reducible rfl)
      try simp only [Act.put, List.setIfInBounds_toArray, List.set_cons_zero, List.set_cons_succ]
      refine wpAnyH_take (i := 15) (oi := ⟨some 53, _, _, _, _, _⟩) (v := .pointer (some ⟨r, k * 3 + 2, none⟩)) rfl (by kernel_rfl) (by kernel_rfl) (by kernel_rfl) (fun _ _ _ h => h) (Or.inl ⟨by rfl, ?_⟩) (by assumption) ?_
      focus (intro w hSw; (try dsimp only at hSw); go_simp; try with_reducible rfl)
      try simp only [Act.put, List.setIfInBounds_toArray, List.set_cons_zero, List.set_cons_succ]
      refine wpAnyH_ready (rs := [3, 16]) (by kernel_rfl) (by simp) ?_
      refine AllReadyH.cons (o := ⟨some 41, _, _, _, _, _⟩) rfl (fun K hK => ?_) ?_
      focus
        go_simp
        refine hK.out _ _ ?_ (fun hHeld => ?_)
        focus ((try dsimp only); (first | exact ⟨m0, m1⟩ | exact ⟨d0, d1⟩ | go_keep))
        clear hK K
        try simp only [Act.put, List.setIfInBounds_toArray, List.set_cons_zero, List.set_cons_succ]
        refine wpAnyH_ready (rs := [16]) (by kernel_rfl) (by simp) ?_
        refine AllReadyH.cons (o := ⟨some 54, _, _, _, _, _⟩) rfl (fun K hK => ?_) ?_
        focus
          go_simp
          refine hK.out _ _ ?_ (fun hHeld => ?_)
          focus ((try dsimp only); (first | exact ⟨m0, m1⟩ | exact ⟨d0, d1⟩ | go_keep))
          clear hK K
          try simp only [Act.put, List.setIfInBounds_toArray, List.set_cons_zero, List.set_cons_succ]
          refine wpAnyH_take (i := 17) (oi := ⟨some 55, _, _, _, _, _⟩) (v := .int .i64 (pp - pb)) rfl (by kernel_rfl) (by kernel_rfl) (by kernel_rfl) (fun _ _ _ h => h) (Or.inl ⟨by rfl, ?_⟩) (by assumption) ?_
          focus (intro w hSw; (try dsimp only at hSw); go_simp; try with_reducible rfl)
          try simp only [Act.put, List.setIfInBounds_toArray, List.set_cons_zero, List.set_cons_succ]
          refine wpAnyH_ready (rs := [18]) (by kernel_rfl) (by simp) ?_
          refine AllReadyH.cons (o := ⟨some 56, _, _, _, _, _⟩) rfl (fun K hK => ?_) ?_
          focus
            go_simp
            go_at_call 67; (with_reducible refine (HTk.out _ HT.out.drew).mono ?_); rintro e w5 ⟨A5, c5, rfl, hT5, hb5⟩; have HT5 := Lib.hid hT5; have HB5 := Lib.hid ((Below.refl w.heap.size wr).drew.trans hb5); have HF5 := Lib.hid (HFl.out.belowB HB5.out hgl (fun k hk => (HRow.out k hk).2)); have d0 := (HB5.out.cell (p := ⟨r, k * 3, none⟩) hrw).trans c0; have d1 := (HB5.out.cell (p := ⟨r, k * 3 + 1, none⟩) hrw).trans c1; have d2 := (HB5.out.cell (p := ⟨r, k * 3 + 2, none⟩) hrw).trans c2; have df := (HMix.out w5 (pb + nn) HF5.out).1; have m0 := (World.cell?_setCell_other (w := w5) (a := ⟨r, k * 3 + 2, none⟩) (b := ⟨r, k * 3, none⟩) (v := .int .i64 (pb + nn)) (by simp)).trans d0; have m1 := (World.cell?_setCell_other (w := w5) (a := ⟨r, k * 3 + 2, none⟩) (b := ⟨r, k * 3 + 1, none⟩) (v := .int .i64 (pb + nn)) (by simp)).trans d1; clear hT5 hb5; (try go_wp2_with fail)
            refine hK.out _ _ ?_ (fun hHeld => ?_)
            focus ((try dsimp only); (first | exact ⟨m0, m1⟩ | exact ⟨d0, d1⟩ | go_keep))
            clear hK K
            try simp only [Act.put, List.setIfInBounds_toArray, List.set_cons_zero, List.set_cons_succ]
            refine wpAnyH_take (i := 19) (oi := ⟨some 57, _, _, _, _, _⟩) (v := .int .i64 (pb + nn)) rfl (by kernel_rfl) (by kernel_rfl) (by kernel_rfl) (fun _ _ _ h => h) (Or.inl ⟨by rfl, ?_⟩) (by assumption) ?_
            focus (intro w hSw; (try dsimp only at hSw); go_simp; try with_reducible rfl)
            try simp only [Act.put, List.setIfInBounds_toArray, List.set_cons_zero, List.set_cons_succ]
            refine wpAnyH_take (i := 20) (oi := ⟨some 58, _, _, _, _, _⟩) (v := .pointer (some ⟨r, k * 3, none⟩)) rfl (by kernel_rfl) (by kernel_rfl) (by kernel_rfl) (fun _ _ _ h => h) (Or.inl ⟨by rfl, ?_⟩) (by assumption) ?_
            focus (intro w hSw; (try dsimp only at hSw); go_simp; try with_reducible rfl)
            try simp only [Act.put, List.setIfInBounds_toArray, List.set_cons_zero, List.set_cons_succ]
            refine wpAnyH_take (i := 21) (oi := ⟨some 59, _, _, _, _, _⟩) (v := .pointer (some ⟨r, k * 3 + 2, none⟩)) rfl (by kernel_rfl) (by kernel_rfl) (by kernel_rfl) (fun _ _ _ h => h) (Or.inl ⟨by rfl, ?_⟩) (by assumption) ?_
            focus (intro w hSw; (try dsimp only at hSw); go_simp; try with_reducible rfl)
            try simp only [Act.put, List.setIfInBounds_toArray, List.set_cons_zero, List.set_cons_succ]
            refine wpAnyH_ready (rs := [22]) (by kernel_rfl) (by simp) ?_
            refine AllReadyH.cons (o := ⟨none, _, _, _, _, _⟩) rfl (fun K hK => ?_) ?_
            focus
              go_simp
              refine hK.out _ _ ?_ (fun hHeld => ?_)
              focus ((try dsimp only); (first | exact ⟨m0, m1⟩ | exact ⟨d0, d1⟩ | go_keep))
              clear hK K
              try simp only [Act.put, List.setIfInBounds_toArray, List.set_cons_zero, List.set_cons_succ]
              refine wpAnyH_done (by kernel_rfl) ?_ _
              refine NoPanic.normal ?_
              have HFn := Lib.hid (HMix.out w5 (pb + nn) HF5.out).2
              have HTn := Lib.hid (show TakeSt (w5.setCell ⟨r, k * 3 + 2, none⟩ (.int .i64 (pb + nn))) w.heap.size qo (sk - nn) A5 c5 (E ++ oneE pn nn) from ⟨HT5.out.s.far (by simp; omega) _, HT5.out.o.far (by simp; omega) _, HT5.out.row.far (by simp; omega) _, HT5.out.lt⟩)
              have HKn := Lib.hid ((hK2.out.then_below HB5.out (Nat.le_refl _)).then_set r (k * 3 + 2) (.int .i64 (pb + nn)) (.inr (.inl rfl)))
              go_wp2
              go_roundw
              case rel =>
                refine ⟨k + 1, A5, c5, ?_⟩
                rw [HSucc.out]
                exact ⟨by go_num, by omega, HTn.out, HFn.out, HKn.out⟩
              case measure => simp [intOf]; omega
            exact AllReadyH.nil
          exact AllReadyH.nil
        exact AllReadyH.nil
      refine AllReadyH.cons (o := ⟨some 54, _, _, _, _, _⟩) rfl (fun K hK => ?_) ?_
      focus
        go_simp
        refine hK.out _ _ ?_ (fun hHeld => ?_)
        focus ((try dsimp only); (first | exact ⟨m0, m1⟩ | exact ⟨d0, d1⟩ | go_keep))
        clear hK K
        try simp only [Act.put, List.setIfInBounds_toArray, List.set_cons_zero, List.set_cons_succ]
        refine wpAnyH_take (i := 17) (oi := ⟨some 55, _, _, _, _, _⟩) (v := .int .i64 (pp - pb)) rfl (by kernel_rfl) (by kernel_rfl) (by kernel_rfl) (fun _ _ _ h => h) (Or.inl ⟨by rfl, ?_⟩) (by assumption) ?_
        focus (intro w hSw; (try dsimp only at hSw); go_simp; try with_reducible rfl)
        try simp only [Act.put, List.setIfInBounds_toArray, List.set_cons_zero, List.set_cons_succ]
        refine wpAnyH_ready (rs := [3, 18]) (by kernel_rfl) (by simp) ?_
        refine AllReadyH.cons (o := ⟨some 41, _, _, _, _, _⟩) rfl (fun K hK => ?_) ?_
        focus
          go_simp
          refine hK.out _ _ ?_ (fun hHeld => ?_)
          focus ((try dsimp only); (first | exact ⟨m0, m1⟩ | exact ⟨d0, d1⟩ | go_keep))
          clear hK K
          try simp only [Act.put, List.setIfInBounds_toArray, List.set_cons_zero, List.set_cons_succ]
          refine wpAnyH_ready (rs := [18]) (by kernel_rfl) (by simp) ?_
          refine AllReadyH.cons (o := ⟨some 56, _, _, _, _, _⟩) rfl (fun K hK => ?_) ?_
          focus
            go_simp
            go_at_call 67; (with_reducible refine (HTk.out _ HT.out.drew).mono ?_); rintro e w5 ⟨A5, c5, rfl, hT5, hb5⟩; have HT5 := Lib.hid hT5; have HB5 := Lib.hid ((Below.refl w.heap.size wr).drew.trans hb5); have HF5 := Lib.hid (HFl.out.belowB HB5.out hgl (fun k hk => (HRow.out k hk).2)); have d0 := (HB5.out.cell (p := ⟨r, k * 3, none⟩) hrw).trans c0; have d1 := (HB5.out.cell (p := ⟨r, k * 3 + 1, none⟩) hrw).trans c1; have d2 := (HB5.out.cell (p := ⟨r, k * 3 + 2, none⟩) hrw).trans c2; have df := (HMix.out w5 (pb + nn) HF5.out).1; have m0 := (World.cell?_setCell_other (w := w5) (a := ⟨r, k * 3 + 2, none⟩) (b := ⟨r, k * 3, none⟩) (v := .int .i64 (pb + nn)) (by simp)).trans d0; have m1 := (World.cell?_setCell_other (w := w5) (a := ⟨r, k * 3 + 2, none⟩) (b := ⟨r, k * 3 + 1, none⟩) (v := .int .i64 (pb + nn)) (by simp)).trans d1; clear hT5 hb5; (try go_wp2_with fail)
            refine hK.out _ _ ?_ (fun hHeld => ?_)
            focus ((try dsimp only); (first | exact ⟨m0, m1⟩ | exact ⟨d0, d1⟩ | go_keep))
            clear hK K
            try simp only [Act.put, List.setIfInBounds_toArray, List.set_cons_zero, List.set_cons_succ]
            refine wpAnyH_take (i := 19) (oi := ⟨some 57, _, _, _, _, _⟩) (v := .int .i64 (pb + nn)) rfl (by kernel_rfl) (by kernel_rfl) (by kernel_rfl) (fun _ _ _ h => h) (Or.inl ⟨by rfl, ?_⟩) (by assumption) ?_
            focus (intro w hSw; (try dsimp only at hSw); go_simp; try with_reducible rfl)
            try simp only [Act.put, List.setIfInBounds_toArray, List.set_cons_zero, List.set_cons_succ]
            refine wpAnyH_take (i := 20) (oi := ⟨some 58, _, _, _, _, _⟩) (v := .pointer (some ⟨r, k * 3, none⟩)) rfl (by kernel_rfl) (by kernel_rfl) (by kernel_rfl) (fun _ _ _ h => h) (Or.inl ⟨by rfl, ?_⟩) (by assumption) ?_
            focus (intro w hSw; (try dsimp only at hSw); go_simp; try with_reducible rfl)
            try simp only [Act.put, List.setIfInBounds_toArray, List.set_cons_zero, List.set_cons_succ]
            refine wpAnyH_take (i := 21) (oi := ⟨some 59, _, _, _, _, _⟩) (v := .pointer (some ⟨r, k * 3 + 2, none⟩)) rfl (by kernel_rfl) (by kernel_rfl) (by kernel_rfl) (fun _ _ _ h => h) (Or.inl ⟨by rfl, ?_⟩) (by assumption) ?_
            focus (intro w hSw; (try dsimp only at hSw); go_simp; try with_reducible rfl)
            try simp only [Act.put, List.setIfInBounds_toArray, List.set_cons_zero, List.set_cons_succ]
            refine wpAnyH_ready (rs := [22]) (by kernel_rfl) (by simp) ?_
            refine AllReadyH.cons (o := ⟨none, _, _, _, _, _⟩) rfl (fun K hK => ?_) ?_
            focus
              go_simp
              refine hK.out _ _ ?_ (fun hHeld => ?_)
              focus ((try dsimp only); (first | exact ⟨m0, m1⟩ | exact ⟨d0, d1⟩ | go_keep))
              clear hK K
              try simp only [Act.put, List.setIfInBounds_toArray, List.set_cons_zero, List.set_cons_succ]
              refine wpAnyH_done (by kernel_rfl) ?_ _
              refine NoPanic.normal ?_
              have HFn := Lib.hid (HMix.out w5 (pb + nn) HF5.out).2
              have HTn := Lib.hid (show TakeSt (w5.setCell ⟨r, k * 3 + 2, none⟩ (.int .i64 (pb + nn))) w.heap.size qo (sk - nn) A5 c5 (E ++ oneE pn nn) from ⟨HT5.out.s.far (by simp; omega) _, HT5.out.o.far (by simp; omega) _, HT5.out.row.far (by simp; omega) _, HT5.out.lt⟩)
              have HKn := Lib.hid ((hK2.out.then_below HB5.out (Nat.le_refl _)).then_set r (k * 3 + 2) (.int .i64 (pb + nn)) (.inr (.inl rfl)))
              go_wp2
              go_roundw
              case rel =>
                refine ⟨k + 1, A5, c5, ?_⟩
                rw [HSucc.out]
                exact ⟨by go_num, by omega, HTn.out, HFn.out, HKn.out⟩
              case measure => simp [intOf]; omega
            exact AllReadyH.nil
          exact AllReadyH.nil
        refine AllReadyH.cons (o := ⟨some 56, _, _, _, _, _⟩) rfl (fun K hK => ?_) ?_
        focus
          go_simp
          go_at_call 67; (with_reducible refine (HTk.out _ HT.out.drew).mono ?_); rintro e w5 ⟨A5, c5, rfl, hT5, hb5⟩; have HT5 := Lib.hid hT5; have HB5 := Lib.hid ((Below.refl w.heap.size wr).drew.trans hb5); have HF5 := Lib.hid (HFl.out.belowB HB5.out hgl (fun k hk => (HRow.out k hk).2)); have d0 := (HB5.out.cell (p := ⟨r, k * 3, none⟩) hrw).trans c0; have d1 := (HB5.out.cell (p := ⟨r, k * 3 + 1, none⟩) hrw).trans c1; have d2 := (HB5.out.cell (p := ⟨r, k * 3 + 2, none⟩) hrw).trans c2; have df := (HMix.out w5 (pb + nn) HF5.out).1; have m0 := (World.cell?_setCell_other (w := w5) (a := ⟨r, k * 3 + 2, none⟩) (b := ⟨r, k * 3, none⟩) (v := .int .i64 (pb + nn)) (by simp)).trans d0; have m1 := (World.cell?_setCell_other (w := w5) (a := ⟨r, k * 3 + 2, none⟩) (b := ⟨r, k * 3 + 1, none⟩) (v := .int .i64 (pb + nn)) (by simp)).trans d1; clear hT5 hb5; (try go_wp2_with fail)
          refine hK.out _ _ ?_ (fun hHeld => ?_)
          focus ((try dsimp only); (first | exact ⟨m0, m1⟩ | exact ⟨d0, d1⟩ | go_keep))
          clear hK K
          try simp only [Act.put, List.setIfInBounds_toArray, List.set_cons_zero, List.set_cons_succ]
          refine wpAnyH_ready (rs := [3]) (by kernel_rfl) (by simp) ?_
          refine AllReadyH.cons (o := ⟨some 41, _, _, _, _, _⟩) rfl (fun K hK => ?_) ?_
          focus
            go_simp
            refine hK.out _ _ ?_ (fun hHeld => ?_)
            focus ((try dsimp only); (first | exact ⟨m0, m1⟩ | exact ⟨d0, d1⟩ | go_keep))
            clear hK K
            try simp only [Act.put, List.setIfInBounds_toArray, List.set_cons_zero, List.set_cons_succ]
            refine wpAnyH_take (i := 19) (oi := ⟨some 57, _, _, _, _, _⟩) (v := .int .i64 (pb + nn)) rfl (by kernel_rfl) (by kernel_rfl) (by kernel_rfl) (fun _ _ _ h => h) (Or.inl ⟨by rfl, ?_⟩) (by assumption) ?_
            focus (intro w hSw; (try dsimp only at hSw); go_simp; try with_reducible rfl)
            try simp only [Act.put, List.setIfInBounds_toArray, List.set_cons_zero, List.set_cons_succ]
            refine wpAnyH_take (i := 20) (oi := ⟨some 58, _, _, _, _, _⟩) (v := .pointer (some ⟨r, k * 3, none⟩)) rfl (by kernel_rfl) (by kernel_rfl) (by kernel_rfl) (fun _ _ _ h => h) (Or.inl ⟨by rfl, ?_⟩) (by assumption) ?_
            focus (intro w hSw; (try dsimp only at hSw); go_simp; try with_reducible rfl)
            try simp only [Act.put, List.setIfInBounds_toArray, List.set_cons_zero, List.set_cons_succ]
            refine wpAnyH_take (i := 21) (oi := ⟨some 59, _, _, _, _, _⟩) (v := .pointer (some ⟨r, k * 3 + 2, none⟩)) rfl (by kernel_rfl) (by kernel_rfl) (by kernel_rfl) (fun _ _ _ h => h) (Or.inl ⟨by rfl, ?_⟩) (by assumption) ?_
            focus (intro w hSw; (try dsimp only at hSw); go_simp; try with_reducible rfl)
            try simp only [Act.put, List.setIfInBounds_toArray, List.set_cons_zero, List.set_cons_succ]
            refine wpAnyH_ready (rs := [22]) (by kernel_rfl) (by simp) ?_
            refine AllReadyH.cons (o := ⟨none, _, _, _, _, _⟩) rfl (fun K hK => ?_) ?_
            focus
              go_simp
              refine hK.out _ _ ?_ (fun hHeld => ?_)
              focus ((try dsimp only); (first | exact ⟨m0, m1⟩ | exact ⟨d0, d1⟩ | go_keep))
              clear hK K
              try simp only [Act.put, List.setIfInBounds_toArray, List.set_cons_zero, List.set_cons_succ]
              refine wpAnyH_done (by kernel_rfl) ?_ _
              refine NoPanic.normal ?_
              have HFn := Lib.hid (HMix.out w5 (pb + nn) HF5.out).2
              have HTn := Lib.hid (show TakeSt (w5.setCell ⟨r, k * 3 + 2, none⟩ (.int .i64 (pb + nn))) w.heap.size qo (sk - nn) A5 c5 (E ++ oneE pn nn) from ⟨HT5.out.s.far (by simp; omega) _, HT5.out.o.far (by simp; omega) _, HT5.out.row.far (by simp; omega) _, HT5.out.lt⟩)
              have HKn := Lib.hid ((hK2.out.then_below HB5.out (Nat.le_refl _)).then_set r (k * 3 + 2) (.int .i64 (pb + nn)) (.inr (.inl rfl)))
              go_wp2
              go_roundw
              case rel =>
                refine ⟨k + 1, A5, c5, ?_⟩
                rw [HSucc.out]
                exact ⟨by go_num, by omega, HTn.out, HFn.out, HKn.out⟩
              case measure => simp [intOf]; omega
            exact AllReadyH.nil
          exact AllReadyH.nil
        exact AllReadyH.nil
      exact AllReadyH.nil
    · obtain rfl : k = n := by omega
      have ht := hT.out
      have hf := hFl.out
      rw [List.take_of_length_le (by rw [HN.out]; exact Nat.le_refl _)] at ht hf
      rw [List.drop_of_length_le (by rw [HN.out]; exact Nat.le_refl _), List.append_nil] at hf
      have hEl : (recGo sum P).2.1.length ≤ k := by have := recGo_few sum P; rw [HN.out] at this; exact this
      have hDl : (recGo sum P).1.length = k := by rw [recGo_length, HN.out]
      obtain ⟨E, hE⟩ : ∃ E, E = (recGo sum P).2.1 := ⟨_, rfl⟩
      obtain ⟨D, hD⟩ : ∃ D, D = (recGo sum P).1 := ⟨_, rfl⟩
      obtain ⟨rs, hrs⟩ : ∃ rs, rs = (recGo sum P).2.2 := ⟨_, rfl⟩
      rw [← hE] at ht hEl
      rw [← hD] at hf hDl
      rw [← hrs] at ht r0 r1 r2
      have HE := Lib.hid hE
      have HD := Lib.hid hD
      have HRs := Lib.hid hrs
      have HT := Lib.hid ht
      have HFl := Lib.hid hf
      have k3 := hf.blk.cell 3 rfl
      have hK2 := hK
      have htk := fun (wx : World) (h : TakeSt wx w.heap.size qo rs A' c' E) => c_take ⟨#[]⟩ lf rs w.heap.size qo A' c' E wx h ⟨r1, r2⟩ ⟨by omega, by omega⟩ (by omega)
      rw [show min rs lf = rs by omega] at htk
      unfold TakeOk at htk
      have HTk := Lib.hid htk
      have e1 : IntKind.i64.wrap (back + rs) = back + rs := IntWalk.i64_in _ (by have := HLf.out; omega)
      have hgq : g ≠ qo := by omega
      clear ht hf hT hFl hE hD hrs htk hK
      go_wp2
      go_region_with (go_at_call 67; (with_reducible refine (HTk.out _ HT.out.drew).mono ?_); rintro e w5 ⟨A5, c5, rfl, hT5, hb5⟩; have HT5 := Lib.hid hT5; have HB5 := Lib.hid ((Below.refl w.heap.size wr).drew.trans hb5); have HF5 := Lib.hid (HFl.out.belowB HB5.out hgl (fun k hk => (HRow.out k hk).2)); have d3 := HF5.out.blk.cell 3 rfl; have df := HF5.out.blk.free 3; have dq := HT5.out.o.cell 0 rfl; clear hT5 hb5)
      all_goals
        have HFn := Lib.hid (HF5.out.setOwn (back + rs))
        have HOn := Lib.hid ((HT5.out.row.far (p := ⟨g, 3, none⟩) (by simp; omega) (.int .i64 (back + rs))).mono (show w.heap.size ≤ qo + 1 by omega))
        have HKn := Lib.hid ((hK2.out.then_below HB5.out (Nat.le_refl _)).then_set g 3 (.int .i64 (back + rs)) (.inl rfl))
        have dq2 := (World.cell?_setCell_other (w := w5) (a := ⟨g, 3, none⟩) (b := ⟨qo, 0, none⟩) (v := .int .i64 (back + rs)) (by simp [hgq])).trans dq
        generalize hEE : E ++ oneE (⟨#[]⟩ : ByteArray) rs = EE at *
        have HEE := Lib.hid hEE
        clear hEE
        go_wp2
        go_ret2
        unfold RecOk
        rw [← HE.out, ← HD.out, ← HRs.out, HEE.out]
        exact ⟨A5, c5, rfl, HOn.out, HFn.out, HKn.out⟩

end Go.Proofs.Ytbcmaaoddnaoiaa
