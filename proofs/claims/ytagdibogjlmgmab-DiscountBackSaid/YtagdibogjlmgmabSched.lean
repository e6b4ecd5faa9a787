/-
  discount.Schedule and what it calls: their walks.
-/
import Derived.Test.YtagdibogjlmgmabEven
import Derived.Test.YtagdibogjlmgmabBackNum
import Derived.Test.YtagdibogjlmgmabApp
namespace Go.Proofs.Ytagdibogjlmgmab
set_option linter.unusedVariables false
set_option linter.unusedSimpArgs false
open Go.RowKit

set_option maxHeartbeats 400000 in
theorem c_near0 (w : World) :
    Calls Try.prog 11 #[.agg #[.int .i64 0, .int .i64 0]] w fun e w' => e = .returned (.int .i64 0) ∧ Below w.heap.size w w' := by
  go_enter Try.func11, Try.ntmps11
  go_wp2
  go_ret
  exact ⟨rfl, (Below.refl _ _).alloc (Nat.le_refl _) _⟩

theorem Blk.grown {w w' : World} {g : Nat} {t : TypeId} {cs : Array Value} {row : Option Nat} (h : Blk w g t cs) (hb : w.grownBy w' row) (hg : some g ≠ row) : Blk w' g t cs := (hb.block g h.lt hg).trans h
theorem below_grown {w w' : World} (h : Below w.heap.size w w') (row : Option Nat) : w.grownBy w' row := ⟨h.os, h.tape, h.output, h.size, fun k hk _ => h.block k hk⟩
theorem grown_trans {a b c : World} {row : Option Nat} (h : a.grownBy b row) (k : b.grownBy c row) : a.grownBy c row :=
  ⟨k.os.trans h.os, k.tape.trans h.tape, k.output.trans h.output, Nat.le_trans h.size k.size, fun i hi hr => (k.block i (Nat.lt_of_lt_of_le hi h.size) hr).trans (h.block i hi hr)⟩
theorem grown_set (w : World) (b o : Nat) (v : Value) : w.grownBy (w.setCell ⟨b, o, none⟩ v) (some b) :=
  ⟨rfl, rfl, rfl, by simp [World.setCell], fun k _ hk => Below.heap_setCell w ⟨b, o, none⟩ v k (by simpa using hk)⟩
theorem grown_below {w w' : World} {B b : Nat} (h : w.grownBy w' (some b)) (hB : B ≤ w.heap.size) (hb : B ≤ b) : Below B w w' :=
  (Below.refl _ _).grown h hB fun k hk => by cases hk; exact hb

/-- What the closure made: one cell turned, all else as it was. -/
def DuePost (w w' : World) (lb : Nat) (tl : TypeId) (v : Int) : Prop := w.grownBy w' (some lb) ∧ Blk w' lb tl #[.int .i64 v]

set_option maxHeartbeats 1600000 in
theorem c_due (p L n d t base : Int) (lb pb tb bb : Nat) (tl tp tt tbb : TypeId) (w : World) (h1 : Blk w lb tl #[.int .i64 L]) (h2 : Blk w pb tp #[.int .i64 n, .int .i64 d]) (h3 : Blk w tb tt #[.int .i64 t]) (h4 : Blk w bb tbb #[.int .i64 base])
    (b1 : -9223372036854775808 ≤ L - p) (b2 : L - p ≤ 9223372036854775807) (b : Bool) (hB : intB L n d t base = b) :
    Calls Try.prog 10 #[.int .i64 p, .pointer (some ⟨lb, 0, none⟩), .pointer (some ⟨pb, 0, none⟩), .pointer (some ⟨tb, 0, none⟩), .pointer (some ⟨bb, 0, none⟩)] w fun e w' =>
      e = .returned (.tuple #[.int .i64 (if b = true then dueV L n d t base else 0), .bool b]) ∧ DuePost w w' lb tl (L - p) := by
  have c0 := h1.cell 0 rfl
  have c1 := h2.cell 0 rfl
  have c2 := h2.cell 1 rfl
  have c3 := h3.cell 0 rfl
  have c4 := h4.cell 0 rfl
  have l1 := h1.lt
  have H1 := Lib.hid h1
  have e1 : IntKind.i64.wrap (L - p) = L - p := IntWalk.i64_in _ (by omega)
  clear h1 h2 h3 h4
  cases b
  · have HI := Lib.hid (fun w => c_interest_f L n d t base w hB)
    clear hB
    go_enter Try.func10, Try.ntmps10
    go_wp2_with fail
    refine (HI.out _).mono ?_
    rintro e w1 ⟨rfl, hb⟩
    have B1 := Lib.hid (H1.out.below hb l1)
    have q0 := B1.out.cell 0 rfl
    have q1 := B1.out.free 0
    have z1 : lb < w1.heap.size := B1.out.lt
    have HB := Lib.hid hb
    clear c0 c1 c2 c3 c4 hb
    go_wp2_with fail
    refine (c_near0 _).mono ?_
    rintro e w2 ⟨rfl, hb⟩
    have HB2 := Lib.hid hb
    clear hb
    go_wp2_with fail
    go_ret2
    refine ⟨rfl, ?_, ?_⟩
    · exact grown_trans (grown_trans (grown_trans (below_grown HB.out _) (grown_set _ _ _ _)) (World.grownBy_alloc _ _ _)) (below_grown HB2.out _)
    · exact Blk.below (((B1.out.set 0 (.int .i64 (L - p)))).alloc _) HB2.out (by simp [World.setCell]; omega)
  · have HI := Lib.hid (fun w => c_interest_t L n d t base w hB)
    obtain ⟨f1, f2, f3, f4, f5, f6⟩ := int_facts hB
    have HN := Lib.hid (fun w => c_near (intN L n d t base) (intD L n d t base) w f3 f4 f5 (by omega))
    clear hB
    go_enter Try.func10, Try.ntmps10
    go_wp2_with fail
    refine (HI.out _).mono ?_
    rintro e w1 ⟨rfl, hb⟩
    have B1 := Lib.hid (H1.out.below hb l1)
    have q0 := B1.out.cell 0 rfl
    have q1 := B1.out.free 0
    have z1 : lb < w1.heap.size := B1.out.lt
    have HB := Lib.hid hb
    clear c0 c1 c2 c3 c4 hb
    go_wp2_with fail
    refine (HN.out _).mono ?_
    rintro e w2 ⟨rfl, hb⟩
    have HB2 := Lib.hid hb
    clear hb
    go_wp2_with fail
    go_ret2
    refine ⟨rfl, ?_, ?_⟩
    · exact grown_trans (grown_trans (grown_trans (below_grown HB.out _) (grown_set _ _ _ _)) (World.grownBy_alloc _ _ _)) (below_grown HB2.out _)
    · exact Blk.below (((B1.out.set 0 (.int .i64 (L - p)))).alloc _) HB2.out (by simp [World.setCell]; omega)

theorem e_due : EntersIs 10 := enters_of Try.func10 (by kernel_rfl) rfl

/-- Where Schedule stands behind k payments. -/
structure Sch (w wr : World) (lb b : Nat) (tb : TypeId) (S n d t base : Int) (bs : List Int) (k : Nat) (A : Option Addr) (c : Nat) : Prop where
  own : Own wr (lb + 1) 2 A k c (vals .i64 (dues S n d t base bs k))
  left : Blk wr lb 2 #[.int .i64 (leftAt S bs k)]
  per : Blk wr w.heap.size 23 #[.int .i64 n, .int .i64 d]
  days : Blk wr (w.heap.size + 1) 3 #[.int .i64 t]
  bas : Blk wr (w.heap.size + 1 + 1) 3 #[.int .i64 base]
  back : Blk wr b tb (rowI .i64 bs)
  below : Below w.heap.size w wr
  lt : w.heap.size + 2 < lb ∧ b < lb
  all : ∀ i, i < k → intB (leftAt S bs i) n d t base = true
theorem Sch.due {w wr w' : World} {lb b : Nat} {tb : TypeId} {S n d t base : Int} {bs : List Int} {k : Nat} {A : Option Addr} {c : Nat} (h : Sch w wr lb b tb S n d t base bs k A c) (v : Int) (hd : DuePost wr w' lb 2 v) :
    Own w' (lb + 1) 2 A k c (vals .i64 (dues S n d t base bs k)) ∧ Blk w' w.heap.size 23 #[.int .i64 n, .int .i64 d] ∧ Blk w' (w.heap.size + 1) 3 #[.int .i64 t] ∧ Blk w' (w.heap.size + 1 + 1) 3 #[.int .i64 base] ∧ Blk w' b tb (rowI .i64 bs) ∧ Below w.heap.size w w' ∧ lb < w'.heap.size := by
  obtain ⟨hg, hl⟩ := hd
  have h1 := h.lt
  refine ⟨?_, h.per.grown hg (by simp; omega), h.days.grown hg (by simp; omega), h.bas.grown hg (by simp; omega), h.back.grown hg (by simp; omega), h.below.trans (grown_below hg h.below.size (by omega)), hl.lt⟩
  refine World.ownsRow.kept h.own hg ?_
  rcases h.own.form with ⟨rfl, _⟩ | ⟨g, rfl, hg2, _⟩
  · exact .inl rfl
  · refine .inr ?_
    simp [Value.ownBlock]
    omega

set_option maxHeartbeats 800000 in
theorem c_sched_no (S n d m t base : Int) (w : World) (h : m < 1 ∨ (1 ≤ m ∧ 4096 < m)) :
    Calls Try.prog 5 #[.int .i64 S, .agg #[.int .i64 n, .int .i64 d], .int .i64 m, .int .i64 t, .int .i64 base] w fun e w' => e = .returned (.tuple #[.slice none 0 0, .slice none 0 0, .bool false]) ∧ Below w.heap.size w w' := by
  rcases h with h | ⟨h, h2⟩
  all_goals
    go_enter Try.func5, Try.ntmps5
    go_wp2
    go_ret3
    exact ⟨rfl, (((Below.refl _ _).alloc (Nat.le_refl _) _).alloc (by simp) _).alloc (by simp; omega) _⟩

set_option maxHeartbeats 800000 in
theorem c_sched_bad (S n d t base : Int) (m : Nat) (w : World) (h1 : 1 ≤ m) (h2 : m ≤ 4096) (he : errS S (ones m) ≠ 0) :
    Calls Try.prog 5 #[.int .i64 S, .agg #[.int .i64 n, .int .i64 d], .int .i64 (m : Int), .int .i64 t, .int .i64 base] w fun e w' => e = .returned (.tuple #[.slice none 0 0, .slice none 0 0, .bool false]) ∧ Below w.heap.size w w' := by
  have tm : ((0 : Int) == m) = false := by simp; omega
  go_enter Try.func5, Try.ntmps5
  go_wp2_with fail
  refine (c_even_bad S m _ h1 h2 he).mono ?_
  rintro e w1 ⟨rfl, hb⟩
  have hB := Lib.hid (((((Below.refl w.heap.size w).alloc (Nat.le_refl _) (.cells #[.int .i64 n, .int .i64 d] 23)).alloc (by simp) (.cells #[.int .i64 t] 3)).alloc (by simp; omega) (.cells #[.int .i64 base] 3)).trans (hb.mono (by simp; omega)))
  clear hb
  go_wp2_with fail
  go_loop [16, 33] (fun y x => y = .slice none 0 0 ∧ x = .int .i64 0) (fun _ _ => 0)
  case atStart => exact ⟨rfl, rfl⟩
  case round =>
    obtain ⟨rfl, rfl⟩ := hrel
    go_wp2
    go_ret3
    exact ⟨rfl, hB.out.alloc hB.out.size _⟩

/-- Schedule's answer where there is one. -/
def SchedOk (w : World) (S n d t base : Int) (m : Nat) (e : Ending) (w' : World) : Prop :=
  (e = .returned (.tuple #[.slice none 0 0, .slice none 0 0, .bool false])) ∨
  ∃ b tb A c, e = .returned (.tuple #[.slice (some ⟨b, 0, none⟩) m m, .slice A m c, .bool true]) ∧ Blk w' b tb (rowI .i64 (partsOf S (ones m))) ∧ Rd w' A (vals .i64 (dues S n d t base (partsOf S (ones m)) m)) ∧ ∀ i, i < m → intB (leftAt S (partsOf S (ones m)) i) n d t base = true

theorem left_bounds (S : Int) (m : Nat) (h1 : 1 ≤ m) (h2 : m ≤ 4096) (hS : 0 ≤ S) (k : Nat) : 0 ≤ leftAt S (partsOf S (ones m)) k ∧ leftAt S (partsOf S (ones m)) k ≤ S := by
  have hz : ∀ x ∈ ones m, (0 : Int) ≤ x := by intro x hx; simp [ones] at hx; omega
  have hp := parts_nonneg S (ones m) hS hz
  have hs := parts_sum S (ones m) (by rw [sumL_ones]; omega)
  have h := sumL_take_le _ hp k
  unfold leftAt
  omega

theorem info_i64s : (Try.prog.info? 2).map (fun i => (i.zero, i.size, i.bytes)) = some (some (.int .i64 0), 1, 8) := by kernel_rfl

set_option maxRecDepth 100000 in
set_option maxHeartbeats 3200000 in
theorem c_sched (S n d t base : Int) (m : Nat) (w : World) (h1 : 1 ≤ m) (h2 : m ≤ 4096) (he : errS S (ones m) = 0) :
    Calls Try.prog 5 #[.int .i64 S, .agg #[.int .i64 n, .int .i64 d], .int .i64 (m : Int), .int .i64 t, .int .i64 base] w fun e w' => SchedOk w S n d t base m e w' ∧ Below w.heap.size w w' := by
  obtain ⟨hS, hS2, _⟩ := errS_zero he
  have eg : ∀ args w, (callFunc 10 args).run Try.prog w = .ok (.enter 10 args) w := e_due
  obtain ⟨i0, hi, hz0, hz1, hz2⟩ := info_parts info_i64s
  have HI := Lib.hid hi
  have HZ0 := Lib.hid hz0
  have HZ1 := Lib.hid hz1
  have HZ2 := Lib.hid hz2
  have HLB := Lib.hid (left_bounds S m h1 h2 hS)
  have hlen : (partsOf S (ones m)).length = m := by simp
  have HLen := Lib.hid hlen
  have HE := Lib.hid he
  have hpn := parts_nonneg S (ones m) hS (by intro x hx; simp [ones] at hx; omega)
  have HPN := Lib.hid hpn
  clear hi hz0 hz1 hz2 hlen he hpn
  go_enter Try.func5, Try.ntmps5
  go_wp2_with fail
  refine (c_even S m _ h1 h2 HE.out).mono ?_
  rintro e w1 ⟨b, tb, rfl, hl, hb, hP⟩
  have hW : Below w.heap.size w (((w.alloc (.cells #[.int .i64 n, .int .i64 d] 23)).alloc (.cells #[.int .i64 t] 3)).alloc (.cells #[.int .i64 base] 3)) :=
    (((Below.refl w.heap.size w).alloc (Nat.le_refl _) _).alloc (by simp) _).alloc (by simp; omega) _
  have p1 : Blk (((w.alloc (.cells #[.int .i64 n, .int .i64 d] 23)).alloc (.cells #[.int .i64 t] 3)).alloc (.cells #[.int .i64 base] 3)) w.heap.size 23 #[.int .i64 n, .int .i64 d] := ((Blk.new _ _ _).alloc _).alloc _
  have p2 : Blk (((w.alloc (.cells #[.int .i64 n, .int .i64 d] 23)).alloc (.cells #[.int .i64 t] 3)).alloc (.cells #[.int .i64 base] 3)) (w.heap.size + 1) 3 #[.int .i64 t] := (Blk.at _ _ _ (by simp)).alloc _
  have p3 : Blk (((w.alloc (.cells #[.int .i64 n, .int .i64 d] 23)).alloc (.cells #[.int .i64 t] 3)).alloc (.cells #[.int .i64 base] 3)) (w.heap.size + 1 + 1) 3 #[.int .i64 base] := Blk.at _ _ _ (by simp)
  have hsz : w.heap.size + 3 ≤ w1.heap.size := by have := hb.size; simp at this; omega
  have F0 : Hid (Sch w (w1.alloc (.cells #[.int .i64 S] 2)) w1.heap.size b tb S n d t base (partsOf S (ones m)) 0 none 0) := Lib.hid
    { own := Own.nil _ _ _
      left := by
        have : leftAt S (partsOf S (ones m)) 0 = S := by simp [leftAt, sumL]
        rw [this]
        exact Blk.new _ _ _
      per := (p1.below hb p1.lt).alloc _
      days := (p2.below hb p2.lt).alloc _
      bas := (p3.below hb p3.lt).alloc _
      back := hP.alloc _
      below := (hW.trans (hb.mono (by simp; omega))).alloc (by omega) _
      lt := ⟨by omega, hP.lt⟩
      all := fun i hi => by omega }
  clear hW p1 p2 p3 hP hb hl
  go_wp2_with fail
  have HBk : Hid (w.heap.size + 3 ≤ w1.heap.size) := Lib.hid hsz
  generalize hlb : w1.heap.size = lb at *
  have hlb' := Lib.hid hlb
  generalize w1.alloc (.cells #[.int .i64 S] 2) = wa at F0 ⊢
  clear hlb
  go_loopw [16, 33] (fun y x wr => ∃ (k : Nat) (A : Option Addr) (c : Nat), y = .slice A k c ∧ x = .int .i64 k ∧ k ≤ m ∧ Sch w wr lb b tb S n d t base (partsOf S (ones m)) k A c) (fun _ x _ => m - (intOf x).toNat)
  case atStart => exact ⟨0, none, 0, rfl, rfl, by omega, F0.out⟩
  case round =>
    obtain ⟨k, A, c, rfl, rfl, hk, F⟩ := hrel
    clear F0
    by_cases hlt : k < m
    · have pc := F.back.cell k (rowI_get .i64 (partsOf S (ones m)) k (by rw [HLen.out]; exact hlt))
      have hkp : k < (partsOf S (ones m)).length := by rw [HLen.out]; exact hlt
      have pe : (partsOf S (ones m)).getD k 0 = (partsOf S (ones m))[k] := by simp [hlt]
      have hls := leftAt_succ S (partsOf S (ones m)) k hkp
      have hl0 := HLB.out k
      have hl1 := HLB.out (k + 1)
      have hds := dues_succ S n d t base (partsOf S (ones m)) k
      rw [pe] at pc
      rw [hls] at hl1
      obtain ⟨l0, l1⟩ := hl0
      obtain ⟨l2, l3⟩ := hl1
      have HF := Lib.hid F
      have HLS := Lib.hid hls
      have HDS := Lib.hid hds
      clear F pe hls hds
      generalize hp : (partsOf S (ones m))[k] = p at *
      generalize hL : leftAt S (partsOf S (ones m)) k = L at *
      have HL := Lib.hid hL
      clear hp hL
      have hleft := HF.out.left
      rw [HL.out] at hleft
      have HLeft := Lib.hid hleft
      clear hleft
      cases hB : intB L n d t base
      · have hdue := c_due p L n d t base lb w.heap.size (w.heap.size + 1) (w.heap.size + 1 + 1) _ _ _ _ wr HLeft.out HF.out.per HF.out.days HF.out.bas (by omega) (by omega) false hB
        have HD := Lib.hid hdue
        clear hdue hB
        go_wp2_with (go_at_fn 10; refine HD.out.mono ?_; rintro e w2 ⟨rfl, hd⟩; have HS := Lib.hid (HF.out.due _ hd); clear hd)
        go_ret3
        exact ⟨.inl rfl, HS.out.2.2.2.2.2.1⟩
      · have hdue := c_due p L n d t base lb w.heap.size (w.heap.size + 1) (w.heap.size + 1 + 1) _ _ _ _ wr HLeft.out HF.out.per HF.out.days HF.out.bas (by omega) (by omega) true hB
        have HD := Lib.hid hdue
        have HBt := Lib.hid hB
        clear hdue hB
        go_wp2_with (first | (go_at_fn 10; refine HD.out.mono ?_; rintro e w2 ⟨rfl, hd⟩; have HS := Lib.hid (HF.out.due _ hd); have HDP := Lib.hid hd; clear hd; rw [if_pos rfl]; generalize hq : dueV L n d t base = q at *; have HQ := Lib.hid hq; clear hq) | (at_builtin; refine wpList_app _ rfl (.tmp 47) (.tmp 49) _ rfl (lb + 1) 2 i0 _ 8 Try.underlying25 HI.out HZ0.out HZ1.out HZ2.out rfl A k c _ rfl (HS.out.1.alloc _) (some ⟨w2.heap.size, 0, none⟩) 1 1 (vals .i64 [q]) rfl rfl (Rd.blk' (t := 2) (Blk.at _ _ _ rfl)) (one_vals _ _) (by unfold maxLen; omega) (by omega) (by have := HS.out.2.2.2.2.2.2; simp; omega) ?_; intro A' c' w3 hown hg hb3))
        go_roundw
        case rel =>
          refine ⟨k + 1, A', c', rfl, by go_num, by omega, ?_⟩
          obtain ⟨s1, s2, s3, s4, s5, s6, s7⟩ := HS.out
          have h1 := HF.out.lt
          have hdl := HDP.out.2
          have hb4 : Below (lb + 1) w2 w3 := ((Below.refl _ _).alloc (by omega) _).trans hb3
          rw [vals_append] at hown
          exact {
            own := by rw [HDS.out]; exact hown
            left := by rw [HLS.out]; exact hdl.below hb4 (by omega)
            per := s2.below hb4 (by omega)
            days := s3.below hb4 (by omega)
            bas := s4.below hb4 (by omega)
            back := s5.below hb4 (by omega)
            below := s6.trans (hb4.mono (by omega))
            lt := h1
            all := fun i hi => by
              by_cases e : i = k
              · subst e; rw [HL.out]; exact HBt.out
              · exact HF.out.all i (by omega) }
        case measure => simp [intOf]; omega
    · obtain rfl : k = m := by omega
      have tm : ((k : Int) == k) = true := by simp
      have HF := Lib.hid F
      clear F
      go_wp2
      go_ret3
      exact ⟨.inr ⟨b, tb, A, c, rfl, HF.out.back, HF.out.own.rd, HF.out.all⟩, HF.out.below⟩

end Go.Proofs.Ytagdibogjlmgmab
