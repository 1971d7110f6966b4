/-
  Walks: Bad's visitor. Condition: the log and its copies lie in memory; each copy that is there has the pieces of the record.
-/
import Derived.Test.YtjpkdhnponcciaaGreatDoorCO
import Derived.Test.YtjpkdhnponcciaaGreatDoorCM8
namespace Go.Proofs.YtjpkdhnponcciaaGreatDoor
open Go.RowKit Go.Sort

theorem LgAt.keep {w w' : World} {lb : Nat} {ka kb : Bk} {A B : Cp} {S : List Nat} (h : LgAt w lb ka kb A B) (ho : Only S w w') (hd : ∀ x ∈ S, x ≠ lb ∧ x ∉ ka.s ∧ x ∉ kb.s) : LgAt w' lb ka kb A B :=
  ⟨ho.heap h.row (fun hm => (hd _ hm).1 rfl), h.a.only ho (fun x hx hm => (hd x hm).2.1 hx), h.b.only ho (fun x hx hm => (hd x hm).2.2 hx), h.dis, fun x hx => Nat.lt_of_lt_of_le (h.lt x hx) ho.size, h.lbn⟩
theorem nilR_w (p : Nat) (W : World) : (nilAhead 513 25 (memV p) "Read").run Tryz.prog W = .ok (some false) W := by kernel_rfl
theorem methR_w (p : Nat) (W : World) : (method 513 25 (memV p) "Read").run Tryz.prog W = .ok (301, memV p) W := by kernel_rfl
section
attribute [local go_sem ↓] loadHd_down storeHd_down loadLr_down storeLr_down loadA2_down
attribute [local go_sem] Oper.semAt_some
attribute [local go_sem ↓] askedIn_wide
attribute [local simp ↓] askedIn_wide
set_option maxRecDepth 100000 in
set_option maxHeartbeats 16000000 in
theorem bad1_w (w : World) (lb : Nat) (ka kb : Bk) (A B : Cp) (h : Hw) (q1 q2 q3 : Nat) (r : Rc) (a : Option Addr) (cap k n base : Nat) (hL : LgAt w lb ka kb A B) (hf : HdFit h A B)
    (hq1 : w.heap[q1]? = some (.cells #[.pointer (some ⟨lb, 0, none⟩)] 26 (0, 0))) (hq2 : w.heap[q2]? = some (.cells h.cs 105 (0, 0)))
    (hrow : ChRow w base (.slice a r.l.length cap) r.l) (hv : r.valid = true) (hk : 1 ≤ k ∧ k < h.n)
    (hA : ∀ i, i < cntW r.b.length → ∀ M, A = some M → M.rd (h.place k i) = some (pieceS r.num.toNat i r.b)) (hB : ∀ i, i < cntW r.b.length → ∀ M, B = some M → M.rd (h.place k i) = some (pieceS r.num.toNat i r.b)) :
    Calls Tryz.prog 51 #[.agg (lrC r.num r.unit a r.l.length cap), .int .i64 (k : Nat), .int .i64 (n : Nat), .pointer (some ⟨q1, 0, none⟩), .pointer (some ⟨q2, 0, none⟩), .pointer (some ⟨q3, 0, none⟩)] w fun e w' =>
      e = .returned (.bool true) ∧ Below w.heap.size w w' := by
  obtain ⟨w1, hw1⟩ : ∃ w1, w1 = (w.alloc (.cells (lrC r.num r.unit a r.l.length cap) 50)).alloc (.cells #[.int .i64 (k : Nat)] 3) := ⟨_, rfl⟩
  have hx : w1.heap[w.heap.size]? = some (.cells (lrC r.num r.unit a r.l.length cap) 50 (0, 0)) := by
    rw [hw1]; exact (halloc _ _ (by simp)).trans (heap_alloc_new w _)
  have hy : w1.heap[w.heap.size + 1]? = some (.cells #[.int .i64 (k : Nat)] 3 (0, 0)) := by
    rw [hw1]
    have := heap_alloc_new (w.alloc (.cells (lrC r.num r.unit a r.l.length cap) 50)) (.cells #[.int .i64 (k : Nat)] 3)
    rwa [World.size_alloc] at this
  have hb1 : Below w.heap.size w w1 := by rw [hw1]; exact ((Below.refl _ w).alloc (Nat.le_refl _) _).alloc (by simp) _
  obtain ⟨a', cap', e', _, _, hch⟩ := chs_of_row hrow
  cases e'
  obtain ⟨⟨hn1, hn2⟩, hl1, hl2⟩ := Rc.valid_num hv
  have hvs := Rc.valid_iff.1 hv
  have HEn := Lib.hid (encode_w w1 w.heap.size ⟨r.num, r.unit, a, cap, r.l⟩ (hch.below hb1) hb1.size (show r.l.length ≤ 1000000 by omega) (Rc.valid_chs hv))
  have HEt := Lib.hid (show encT ⟨r.num, r.unit, a, cap, r.l⟩ = #[.string ⟨r.b.toArray⟩, .int .i64 0] from by
    show (if r.sound = false then #[Value.string ⟨#[]⟩, Value.int .i64 1] else if 16384 < r.b.length then #[Value.string ⟨#[]⟩, Value.int .i64 8] else #[Value.string ⟨r.b.toArray⟩, Value.int .i64 0]) = _
    rw [if_neg (by rw [hvs.1]; simp), if_neg (by omega)])
  rw [HEt.out] at HEn
  have ldr := loadLr_at hx rfl
  have HW := Lib.hid hw1
  have HX := Lib.hid hx
  have HY := Lib.hid hy
  have HB1 := Lib.hid hb1
  have HL := Lib.hid hL
  have HF := Lib.hid hf
  have HQ1 := Lib.hid hq1
  have HQ2 := Lib.hid hq2
  have HA := Lib.hid hA
  have HB := Lib.hid hB
  have hb0 := r.b_pos
  obtain ⟨s, hs⟩ : ∃ s, s = r.b := ⟨_, rfl⟩
  rw [← hs] at HEn HA HB hb0 hvs
  obtain ⟨N, hN⟩ : ∃ N : Nat, N = r.num.toNat := ⟨_, rfl⟩
  rw [← hN] at HA HB
  have hrN : r.num = (N : Int) := by omega
  rw [hrN] at HEn ldr HX HW ⊢
  have hNle : N ≤ 1099511627776 := by omega
  have hsl : s.length ≤ 16384 := hvs.2
  clear hw1 hx hy hb1 hL hf hq1 hq2 hA hB hrow hch hvs hv hs HEt hN hrN hn1 hn2 hl1 hl2
  refine (callsIn_wide (n := 0)).1 (callsIn_of_wp_marks Tryz.func51 rfl trivial ?_ rfl)
  refine (wpIn_wide (n := 0)).2 ?_
  simp only [Tryz.ntmps51, List.size_toArray, List.length_cons, List.length_nil, Nat.reduceAdd, Nat.reduceSub, Array.replicate_succ, Array.replicate_zero, List.push_toArray, List.append_toArray, List.nil_append, List.cons_append]
  go_upto_region 1 with fail
  rw [← HW.out]
  go_wp2_with fail
  refine HEn.out.mono ?_
  rintro e w2 ⟨rfl, hb2⟩
  have HB2 := Lib.hid (HB1.out.trans (hb2.mono HB1.out.size))
  have HX2 := heap_below hb2 (lt_of_block HX.out) HX.out
  have HY2 := Lib.hid (heap_below hb2 (lt_of_block HY.out) HY.out)
  have cr2 : w2.cell? ⟨w.heap.size, 0, none⟩ = some (.int .i64 N) := cell_at HX2 rfl
  have HPw := Lib.hid (fun V => pieces_w V N s hsl)
  clear ldr hb2 HX2
  go_wp2_with fail
  refine (HPw.out _).mono ?_
  rintro e w8 ⟨bs, bn, sb, rfl, hpc, hbs, hbn, hsb, hb8⟩
  have HB8 := Lib.hid (HB2.out.trans (hb8.mono HB2.out.size))
  have HY8 := Lib.hid (heap_below hb8 (lt_of_block HY2.out) HY2.out)
  have HPc := Lib.hid hpc
  have HL8 := Lib.hid (HL.out.below HB8.out)
  have HQ18 := Lib.hid (heap_below HB8.out (lt_of_block HQ1.out) HQ1.out)
  have HQ28 := Lib.hid (heap_below HB8.out (lt_of_block HQ2.out) HQ2.out)
  have HLt := Lib.hid (show w.heap.size + 1 < w8.heap.size ∧ q1 < w8.heap.size ∧ q2 < w8.heap.size ∧ lb < w8.heap.size ∧ w.heap.size ≤ w8.heap.size from ⟨lt_of_block HY8.out, lt_of_block HQ18.out, lt_of_block HQ28.out, lt_of_block HL8.out.row, HB8.out.size⟩)
  clear hb8 hbs hbn hsb cr2 hpc HPw
  go_wp2_with fail
  have hin : ∀ i, i ∈ ownB w8.heap.size (7 + 2) → w8.heap.size ≤ i ∧ i < w8.heap.size + 9 := fun i hi => by rw [ownB_mem] at hi; exact hi
  have hps : ∀ x ∈ pcsA N s, x.size = 2 := fun x hx => by simp [pcsA] at hx; obtain ⟨_, _, rfl⟩ := hx; rfl
  refine (wpIn_wide (n := 0)).1 ?_
  refine wpIn_rangeFunc_o (gf := 95) (lb := #[.pointer (some ⟨bs, 0, none⟩), .pointer (some ⟨bn, 0, none⟩), .pointer (some ⟨sb, 0, none⟩)]) rfl (enters_of Tryz.func95 (by kernel_rfl) rfl)
    (pieces_o s N hsl hb0 hNle bs bn sb w8 HPc.out) (Below.refl _ _) (fun x hx => by simp at hx; have := HPc.out.lt; omega) hps (fun _ W => Only (ownB w8.heap.size 9) w8 W) (fun _ _ _ => False) (fun _ P Q h1 h2 => h1.trans h2) (fun _ _ _ _ hf _ => hf) (Only.refl _ _) ?round ?done ?stop
  case round =>
    intro rl i hi Wr R' hR'
    have hpl : (pcsA N s).length = cntW s.length := by simp [pcsA]
    have hic : i < cntW s.length := by rw [← hpl]; exact hi
    have hLi : (pcsA N s)[i] = #[.int .i64 (i : Nat), .string ⟨(pieceS N i s).toArray⟩] := by simp [pcsA]
    rw [hLi]
    have hi171 : i < 171 := by have := cntW_le hsl; omega
    have HRda := Lib.hid (HA.out i hic)
    have HRdb := Lib.hid (HB.out i hic)
    obtain ⟨Y, hY⟩ : ∃ Y, Y = pieceS N i s := ⟨_, rfl⟩
    rw [← hY] at HRda HRdb ⊢
    clear hps hpl hLi hY hic hi
    gi_wp2
    rintro W2 hI hsz
    have hout : ∀ {x : Nat}, x < w8.heap.size → x ∉ ownB w8.heap.size 9 := fun hx hm => by have := hin _ hm; omega
    have hLW := HL8.out.keep hI (fun x hx => ⟨fun e => hout HLt.out.2.2.2.1 (e ▸ hx), fun hm => hout (HL8.out.lt x (Or.inl hm)) hx, fun hm => hout (HL8.out.lt x (Or.inr hm)) hx⟩)
    have HLW := Lib.hid hLW
    have c1 : W2.cell? ⟨q1, 0, none⟩ = some (.pointer (some ⟨lb, 0, none⟩)) := cell_at (i := 0) (hI.heap HQ18.out (hout HLt.out.2.1)) rfl
    have HHW := Lib.hid (hI.heap HQ28.out (hout HLt.out.2.2.1))
    have HYW := Lib.hid (hI.heap HY8.out (hout HLt.out.1))
    have HI := Lib.hid hI
    have HSz := Lib.hid hsz
    have ld := loadA2_at hLW.row rfl
    have HPl := Lib.hid (fun V => place_w h HF.out.n k i ⟨hk.1, by have := HF.out.n; omega⟩ (by omega) V)
    have hplt := place_lt (h := h) (by have := HF.out.n; omega) k i
    have HRA := Lib.hid (fun (M : Mm) (e : A = some M) (V : World) (hV : Below W2.heap.size W2 V) => show Calls Tryz.prog 301 #[memV ka.p, .int .i64 (h.place k i : Nat)] V fun e w' => e = .returned (.tuple #[.string ⟨Y.toArray⟩, .int .i64 0]) ∧ V = w' by
      have := read_w V ka M (h.place k i) ((HLW.out.below hV).a M e) (by have := HF.out.a M e; omega)
      rw [HRda.out M e] at this
      exact this)
    have HRB := Lib.hid (fun (M : Mm) (e : B = some M) (V : World) (hV : Below W2.heap.size W2 V) => show Calls Tryz.prog 301 #[memV kb.p, .int .i64 (h.place k i : Nat)] V fun e w' => e = .returned (.tuple #[.string ⟨Y.toArray⟩, .int .i64 0]) ∧ V = w' by
      have := read_w V kb M (h.place k i) ((HLW.out.below hV).b M e) (by have := HF.out.b M e; omega)
      rw [HRdb.out M e] at this
      exact this)
    generalize h.place k i = P at HPl HRA HRB
    clear hI hsz hLW hplt
    gi_wp2
    clear ld c1
    gi_loopw [33] (fun x wr => ∃ j : Nat, j ≤ 2 ∧ x = .int .i64 j ∧ Below W2.heap.size W2 wr) (fun x _ => 3 - (intOf x).toNat)
    case atStart => exact ⟨0, by omega, rfl, Below.refl _ _⟩
    case round =>
      obtain ⟨j, hj, rfl, hb⟩ := hrel
      have HBr := Lib.hid hb
      have i0 := idx0
      have i1 := idx1
      have HHr := Lib.hid (heap_below hb (lt_of_block HHW.out) HHW.out)
      have HYr := heap_below hb (lt_of_block HYW.out) HYW.out
      have HAr := Lib.hid (show wr.cell? ⟨w.heap.size + 1, 0, none⟩ = some (.int .i64 k) from cell_at HYr rfl)
      have HAl := Lib.hid (lt_of_block HYr)
      have e0 := loadHd_at (w := wr.drew) HHr.out rfl
      have e1 : wr.drew.cell? ⟨w.heap.size + 1, 0, none⟩ = some (.int .i64 k) := HAr.out
      clear hb HYr
      rcases (show j = 0 ∨ j = 1 ∨ j = 2 by omega) with rfl | rfl | rfl
      · cases hA : A with
        | none =>
          rw [show ifC ka none = .nilIface from rfl]
          gi_wp2
          go_roundw
          case rel => exact ⟨1, by omega, by simp, HBr.out⟩
          case measure => simp [intOf]
        | some M =>
          have HRA := Lib.hid (fun V (hV : Below wr.heap.size wr V) => HRA.out M hA V (HBr.out.trans (hV.mono HBr.out.size)))
          rw [show ifC ka (some M) = .iface 25 (memV ka.p) from rfl]
          have nA := nilR_w ka.p
          have mE := methR_w ka.p
          gi_upto_region 9 with fail
          refine wpIn_region_held_round rl (S := fun w' => (loadHd ⟨q2, 0, none⟩).run Tryz.prog w' = .ok (.agg h.cs) w' ∧ w'.cell? ⟨w.heap.size + 1, 0, none⟩ = some (.int .i64 k)) (by kernel_rfl) (by kernel_rfl) ⟨e0, e1⟩ (fun hHeld => ?_)
          refine take_at (i := 0) (v := (.iface 25 (memV ka.p))) (d := some 40) rfl rfl (by kernel_rfl) (by kernel_rfl) (by kernel_rfl) (fun _ _ _ h => h) (Or.inl ⟨by rfl, ?hyt1⟩) (by assumption) ?restt1
          case hyt1 =>
            intro W hSw
            (try dsimp only at hSw)
            go_simp
          try simp only [Act.put, List.setIfInBounds_toArray, List.set_cons_zero, List.set_cons_succ]
          refine take_at (i := 1) (v := .agg h.cs) (d := some 41) rfl rfl (by kernel_rfl) (by kernel_rfl) (by kernel_rfl) (fun _ _ _ h => h) (Or.inl ⟨by rfl, ?hyt2⟩) (by assumption) ?restt2
          case hyt2 =>
            intro W hSw
            (try dsimp only at hSw)
            go_simp
          try simp only [Act.put, List.setIfInBounds_toArray, List.set_cons_zero, List.set_cons_succ]
          refine take_at (i := 2) (v := .int .i64 k) (d := some 42) rfl rfl (by kernel_rfl) (by kernel_rfl) (by kernel_rfl) (fun _ _ _ h => h) (Or.inl ⟨by rfl, ?hyt3⟩) (by assumption) ?restt3
          case hyt3 =>
            intro W hSw
            (try dsimp only at hSw)
            go_simp
          try simp only [Act.put, List.setIfInBounds_toArray, List.set_cons_zero, List.set_cons_succ]
          refine take_at (i := 3) (v := .int .i64 i) (d := some 43) rfl rfl (by kernel_rfl) (by kernel_rfl) (by kernel_rfl) (fun _ _ _ h => h) (Or.inl ⟨by rfl, ?hyt4⟩) (by assumption) ?restt4
          case hyt4 =>
            intro W hSw
            (try dsimp only at hSw)
            go_simp
          try simp only [Act.put, List.setIfInBounds_toArray, List.set_cons_zero, List.set_cons_succ]
          refine take_at (i := 5) (v := .func (.method "Read") #[(.iface 25 (memV ka.p))] #[]) (d := some 45) rfl rfl (by kernel_rfl) (by kernel_rfl) (by kernel_rfl) (fun _ _ _ h => h) (Or.inl ⟨by rfl, ?hyt5⟩) (by assumption) ?restt5
          case hyt5 =>
            intro W hSw
            (try dsimp only at hSw)
            go_simp
          try simp only [Act.put, List.setIfInBounds_toArray, List.set_cons_zero, List.set_cons_succ]
          refine take_at (i := 6) (v := .func (.method "Read") #[(.iface 25 (memV ka.p))] #[]) (d := some 46) rfl rfl (by kernel_rfl) (by kernel_rfl) (by kernel_rfl) (fun _ _ _ h => h) (Or.inl ⟨by rfl, ?hyt6⟩) (by assumption) ?restt6
          case hyt6 =>
            intro W hSw
            (try dsimp only at hSw)
            go_simp
          try simp only [Act.put, List.setIfInBounds_toArray, List.set_cons_zero, List.set_cons_succ]
          refine take_at (i := 7) (v := (.iface 25 (memV ka.p))) (d := some 47) rfl rfl (by kernel_rfl) (by kernel_rfl) (by kernel_rfl) (fun _ _ _ h => h) (Or.inl ⟨by rfl, ?hyt7⟩) (by assumption) ?restt7
          case hyt7 =>
            intro W hSw
            (try dsimp only at hSw)
            go_simp
          try simp only [Act.put, List.setIfInBounds_toArray, List.set_cons_zero, List.set_cons_succ]
          refine wpAnyH_ready (rs := [4]) (by kernel_rfl) (by simp) ?_
          refine AllReadyH.cons rfl (fun K hK => ?_) AllReadyH.nil
          go_simp
          refine (HPl.out _).mono ?_
          rintro e V1 ⟨rfl, hb1⟩
          have HV1 := Lib.hid (show Below wr.heap.size wr V1 from below_drew1.trans hb1)
          clear hb1
          (try go_wp2_with fail)
          refine hK.out _ _ (⟨loadHd_at (heap_below HV1.out (lt_of_block HHr.out) HHr.out) rfl, (HV1.out.cell (p := ⟨w.heap.size + 1, 0, none⟩) HAl.out).trans HAr.out⟩) (fun hHeld => ?_)
          clear hK K
          try simp only [Act.put, List.setIfInBounds_toArray, List.set_cons_zero, List.set_cons_succ]
          refine wpAnyH_ready (rs := [8]) (by kernel_rfl) (by simp) ?_
          refine AllReadyH.cons rfl (fun K hK => ?_) AllReadyH.nil
          go_simp
          refine (HRA.out V1 HV1.out).mono ?_
          rintro e V2 ⟨rfl, rfl⟩
          (try go_wp2_with fail)
          refine hK.out _ _ (⟨loadHd_at (heap_below HV1.out (lt_of_block HHr.out) HHr.out) rfl, (HV1.out.cell (p := ⟨w.heap.size + 1, 0, none⟩) HAl.out).trans HAr.out⟩) (fun hHeld => ?_)
          clear hK K
          try simp only [Act.put, List.setIfInBounds_toArray, List.set_cons_zero, List.set_cons_succ]
          refine take_at (i := 9) (v := .tuple #[.string ⟨Y.toArray⟩, .int .i64 0]) (d := some 39) rfl rfl (by kernel_rfl) (by kernel_rfl) (by kernel_rfl) (fun _ _ _ h => h) (Or.inl ⟨by rfl, ?hyt8⟩) (by assumption) ?restt8
          case hyt8 =>
            intro W hSw
            (try dsimp only at hSw)
            go_simp
          try simp only [Act.put, List.setIfInBounds_toArray, List.set_cons_zero, List.set_cons_succ]
          refine take_at (i := 10) (v := .string ⟨Y.toArray⟩) (d := some 49) rfl rfl (by kernel_rfl) (by kernel_rfl) (by kernel_rfl) (fun _ _ _ h => h) (Or.inl ⟨by rfl, ?hyt9⟩) (by assumption) ?restt9
          case hyt9 =>
            intro W hSw
            (try dsimp only at hSw)
            go_simp
          try simp only [Act.put, List.setIfInBounds_toArray, List.set_cons_zero, List.set_cons_succ]
          refine take_at (i := 11) (v := .int .i64 0) (d := some 50) rfl rfl (by kernel_rfl) (by kernel_rfl) (by kernel_rfl) (fun _ _ _ h => h) (Or.inl ⟨by rfl, ?hyt10⟩) (by assumption) ?restt10
          case hyt10 =>
            intro W hSw
            (try dsimp only at hSw)
            go_simp
          try simp only [Act.put, List.setIfInBounds_toArray, List.set_cons_zero, List.set_cons_succ]
          refine take_at (i := 12) (v := .string ⟨Y.toArray⟩) (d := some 16) rfl rfl (by kernel_rfl) (by kernel_rfl) (by kernel_rfl) (fun _ _ _ h => h) (Or.inl ⟨by rfl, ?hyt11⟩) (by assumption) ?restt11
          case hyt11 =>
            intro W hSw
            (try dsimp only at hSw)
            go_simp
          try simp only [Act.put, List.setIfInBounds_toArray, List.set_cons_zero, List.set_cons_succ]
          refine take_at (i := 13) (v := .int .i64 0) (d := some 17) rfl rfl (by kernel_rfl) (by kernel_rfl) (by kernel_rfl) (fun _ _ _ h => h) (Or.inl ⟨by rfl, ?hyt12⟩) (by assumption) ?restt12
          case hyt12 =>
            intro W hSw
            (try dsimp only at hSw)
            go_simp
          try simp only [Act.put, List.setIfInBounds_toArray, List.set_cons_zero, List.set_cons_succ]
          refine wpAnyH_done (by kernel_rfl) (NoOut.normal ?_) _
          gi_wp2
          go_roundw
          case rel => exact ⟨1, by omega, by simp, HBr.out.trans (HV1.out.mono HBr.out.size)⟩
          case measure => simp [intOf]
      · cases hB : B with
        | none =>
          rw [show ifC kb none = .nilIface from rfl]
          gi_wp2
          go_roundw
          case rel => exact ⟨2, by omega, by simp, HBr.out⟩
          case measure => simp [intOf]
        | some M =>
          have HRB := Lib.hid (fun V (hV : Below wr.heap.size wr V) => HRB.out M hB V (HBr.out.trans (hV.mono HBr.out.size)))
          rw [show ifC kb (some M) = .iface 25 (memV kb.p) from rfl]
          have nA := nilR_w kb.p
          have mE := methR_w kb.p
          gi_upto_region 9 with fail
          refine wpIn_region_held_round rl (S := fun w' => (loadHd ⟨q2, 0, none⟩).run Tryz.prog w' = .ok (.agg h.cs) w' ∧ w'.cell? ⟨w.heap.size + 1, 0, none⟩ = some (.int .i64 k)) (by kernel_rfl) (by kernel_rfl) ⟨e0, e1⟩ (fun hHeld => ?_)
          refine take_at (i := 0) (v := (.iface 25 (memV kb.p))) (d := some 40) rfl rfl (by kernel_rfl) (by kernel_rfl) (by kernel_rfl) (fun _ _ _ h => h) (Or.inl ⟨by rfl, ?hyt13⟩) (by assumption) ?restt13
          case hyt13 =>
            intro W hSw
            (try dsimp only at hSw)
            go_simp
          try simp only [Act.put, List.setIfInBounds_toArray, List.set_cons_zero, List.set_cons_succ]
          refine take_at (i := 1) (v := .agg h.cs) (d := some 41) rfl rfl (by kernel_rfl) (by kernel_rfl) (by kernel_rfl) (fun _ _ _ h => h) (Or.inl ⟨by rfl, ?hyt14⟩) (by assumption) ?restt14
          case hyt14 =>
            intro W hSw
            (try dsimp only at hSw)
            go_simp
          try simp only [Act.put, List.setIfInBounds_toArray, List.set_cons_zero, List.set_cons_succ]
          refine take_at (i := 2) (v := .int .i64 k) (d := some 42) rfl rfl (by kernel_rfl) (by kernel_rfl) (by kernel_rfl) (fun _ _ _ h => h) (Or.inl ⟨by rfl, ?hyt15⟩) (by assumption) ?restt15
          case hyt15 =>
            intro W hSw
            (try dsimp only at hSw)
            go_simp
          try simp only [Act.put, List.setIfInBounds_toArray, List.set_cons_zero, List.set_cons_succ]
          refine take_at (i := 3) (v := .int .i64 i) (d := some 43) rfl rfl (by kernel_rfl) (by kernel_rfl) (by kernel_rfl) (fun _ _ _ h => h) (Or.inl ⟨by rfl, ?hyt16⟩) (by assumption) ?restt16
          case hyt16 =>
            intro W hSw
            (try dsimp only at hSw)
            go_simp
          try simp only [Act.put, List.setIfInBounds_toArray, List.set_cons_zero, List.set_cons_succ]
          refine take_at (i := 5) (v := .func (.method "Read") #[(.iface 25 (memV kb.p))] #[]) (d := some 45) rfl rfl (by kernel_rfl) (by kernel_rfl) (by kernel_rfl) (fun _ _ _ h => h) (Or.inl ⟨by rfl, ?hyt17⟩) (by assumption) ?restt17
          case hyt17 =>
            intro W hSw
            (try dsimp only at hSw)
            go_simp
          try simp only [Act.put, List.setIfInBounds_toArray, List.set_cons_zero, List.set_cons_succ]
          refine take_at (i := 6) (v := .func (.method "Read") #[(.iface 25 (memV kb.p))] #[]) (d := some 46) rfl rfl (by kernel_rfl) (by kernel_rfl) (by kernel_rfl) (fun _ _ _ h => h) (Or.inl ⟨by rfl, ?hyt18⟩) (by assumption) ?restt18
          case hyt18 =>
            intro W hSw
            (try dsimp only at hSw)
            go_simp
          try simp only [Act.put, List.setIfInBounds_toArray, List.set_cons_zero, List.set_cons_succ]
          refine take_at (i := 7) (v := (.iface 25 (memV kb.p))) (d := some 47) rfl rfl (by kernel_rfl) (by kernel_rfl) (by kernel_rfl) (fun _ _ _ h => h) (Or.inl ⟨by rfl, ?hyt19⟩) (by assumption) ?restt19
          case hyt19 =>
            intro W hSw
            (try dsimp only at hSw)
            go_simp
          try simp only [Act.put, List.setIfInBounds_toArray, List.set_cons_zero, List.set_cons_succ]
          refine wpAnyH_ready (rs := [4]) (by kernel_rfl) (by simp) ?_
          refine AllReadyH.cons rfl (fun K hK => ?_) AllReadyH.nil
          go_simp
          refine (HPl.out _).mono ?_
          rintro e V1 ⟨rfl, hb1⟩
          have HV1 := Lib.hid (show Below wr.heap.size wr V1 from below_drew1.trans hb1)
          clear hb1
          (try go_wp2_with fail)
          refine hK.out _ _ (⟨loadHd_at (heap_below HV1.out (lt_of_block HHr.out) HHr.out) rfl, (HV1.out.cell (p := ⟨w.heap.size + 1, 0, none⟩) HAl.out).trans HAr.out⟩) (fun hHeld => ?_)
          clear hK K
          try simp only [Act.put, List.setIfInBounds_toArray, List.set_cons_zero, List.set_cons_succ]
          refine wpAnyH_ready (rs := [8]) (by kernel_rfl) (by simp) ?_
          refine AllReadyH.cons rfl (fun K hK => ?_) AllReadyH.nil
          go_simp
          refine (HRB.out V1 HV1.out).mono ?_
          rintro e V2 ⟨rfl, rfl⟩
          (try go_wp2_with fail)
          refine hK.out _ _ (⟨loadHd_at (heap_below HV1.out (lt_of_block HHr.out) HHr.out) rfl, (HV1.out.cell (p := ⟨w.heap.size + 1, 0, none⟩) HAl.out).trans HAr.out⟩) (fun hHeld => ?_)
          clear hK K
          try simp only [Act.put, List.setIfInBounds_toArray, List.set_cons_zero, List.set_cons_succ]
          refine take_at (i := 9) (v := .tuple #[.string ⟨Y.toArray⟩, .int .i64 0]) (d := some 39) rfl rfl (by kernel_rfl) (by kernel_rfl) (by kernel_rfl) (fun _ _ _ h => h) (Or.inl ⟨by rfl, ?hyt20⟩) (by assumption) ?restt20
          case hyt20 =>
            intro W hSw
            (try dsimp only at hSw)
            go_simp
          try simp only [Act.put, List.setIfInBounds_toArray, List.set_cons_zero, List.set_cons_succ]
          refine take_at (i := 10) (v := .string ⟨Y.toArray⟩) (d := some 49) rfl rfl (by kernel_rfl) (by kernel_rfl) (by kernel_rfl) (fun _ _ _ h => h) (Or.inl ⟨by rfl, ?hyt21⟩) (by assumption) ?restt21
          case hyt21 =>
            intro W hSw
            (try dsimp only at hSw)
            go_simp
          try simp only [Act.put, List.setIfInBounds_toArray, List.set_cons_zero, List.set_cons_succ]
          refine take_at (i := 11) (v := .int .i64 0) (d := some 50) rfl rfl (by kernel_rfl) (by kernel_rfl) (by kernel_rfl) (fun _ _ _ h => h) (Or.inl ⟨by rfl, ?hyt22⟩) (by assumption) ?restt22
          case hyt22 =>
            intro W hSw
            (try dsimp only at hSw)
            go_simp
          try simp only [Act.put, List.setIfInBounds_toArray, List.set_cons_zero, List.set_cons_succ]
          refine take_at (i := 12) (v := .string ⟨Y.toArray⟩) (d := some 16) rfl rfl (by kernel_rfl) (by kernel_rfl) (by kernel_rfl) (fun _ _ _ h => h) (Or.inl ⟨by rfl, ?hyt23⟩) (by assumption) ?restt23
          case hyt23 =>
            intro W hSw
            (try dsimp only at hSw)
            go_simp
          try simp only [Act.put, List.setIfInBounds_toArray, List.set_cons_zero, List.set_cons_succ]
          refine take_at (i := 13) (v := .int .i64 0) (d := some 17) rfl rfl (by kernel_rfl) (by kernel_rfl) (by kernel_rfl) (fun _ _ _ h => h) (Or.inl ⟨by rfl, ?hyt24⟩) (by assumption) ?restt24
          case hyt24 =>
            intro W hSw
            (try dsimp only at hSw)
            go_simp
          try simp only [Act.put, List.setIfInBounds_toArray, List.set_cons_zero, List.set_cons_succ]
          refine wpAnyH_done (by kernel_rfl) (NoOut.normal ?_) _
          gi_wp2
          go_roundw
          case rel => exact ⟨2, by omega, by simp, HBr.out.trans (HV1.out.mono HBr.out.size)⟩
          case measure => simp [intOf]
      · gi_wp2
        refine ⟨(Only.of_below (S := []) HBr.out).kept (fun x _ hm => by simp at hm), HI.out.trans (Only.of_below HBr.out)⟩
  case done =>
    rintro W hI hlt hK
    have HZ := Lib.hid (show Below w.heap.size w (W.putObj w8.heap.size (.deferred none)) from by
      have ho := (hI.mono (fun x hx _ => hx)).trans ((only_putObj W w8.heap.size (.deferred none)).mono (T := ownB w8.heap.size 9) (fun x hx _ => by rw [List.mem_singleton] at hx; rw [ownB_mem]; omega))
      exact HB8.out.trans (ho.below HLt.out.2.2.2.2 (fun x hx => by have := hin x hx; have := HLt.out.2.2.2.2; omega)))
    have HK := Lib.hid hK
    clear hI hlt hK hps hin
    go_wp2_with fail
    refine ⟨by simp, .inl ⟨_, _, rfl, run_takeDeferred HK.out, ?_⟩⟩
    refine ⟨.bool true, by simp [results, Tryz.f51, go_sem], ?_⟩
    exact ⟨rfl, HZ.out⟩
  case stop =>
    intro d k W hk hf
    exact hf.elim
end
end Go.Proofs.YtjpkdhnponcciaaGreatDoor
