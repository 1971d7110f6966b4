/-
  Walks: whether records are allowed, and the number of sectors, by the reference. Conditions: a valid description; at most 60 sectors, 12 records.
  Walk: the number of sectors with further records, by the reference. Conditions: a valid description; at most 60 sectors, 12 records.
  Walk: the writes of further records, by the reference. Conditions: a valid description; at most 60 sectors, 12 records.
-/
import Derived.Test.YthkpcalopmddpaaGreatDoorHD
import Derived.Test.YthkpcalopmddpaaGreatDoorHE
import Derived.Test.YthkpcalopmddpaaGreatDoorU18
import Derived.Test.YthkpcalopmddpaaGreatDoorGJ
import Derived.Test.YthkpcalopmddpaaGreatDoorT42
import Derived.Test.YthkpcalopmddpaaGreatDoorT43
namespace Go.Proofs.YthkpcalopmddpaaGreatDoor

section
open Go.RowKit Go.Sort
attribute [local go_sem ↓] loadDs_down

set_option maxRecDepth 100000 in
set_option maxHeartbeats 1000000 in
theorem rallowed_any (fmt : Int) (len blk : Nat) (w : World) (B : Nat) (a : Option Addr) (cap : Nat) (l : List By) (h : Strs w B a l) (hB : B ≤ w.heap.size) (hl : l.length ≤ 40000) (hd : dsV 0 fmt len blk = true) :
    Calls Tryz.prog 46 #[.agg (dsv 0 fmt len blk), .slice a l.length cap] w fun e w' => e = .returned (.bool (alwV fmt len l)) ∧ Below w.heap.size w w' := by
  have HD0 := Lib.hid (heap_alloc_new w (.cells (dsv 0 fmt len blk) 29))
  have HB0 := Lib.hid (box_below w (dsv 0 fmt len blk) 29)
  have HP := Lib.hid (rpack_any fmt len blk (w.alloc (.cells (dsv 0 fmt len blk) 29)) B a cap l (h.below (HB0.out.mono hB)) (Nat.le_trans hB HB0.out.size) hl hd)
  generalize packV fmt len blk l = V at HP
  generalize alwV fmt len l = ok at HP ⊢
  have dl := loadDs_at HD0.out rfl
  go_enter Tryz.func46, Tryz.ntmps46
  go_wp2_with fail
  refine HP.out.mono ?_
  rintro e w1 hP
  have HB1 := Lib.hid (HB0.out.trans (hP.bel.mono HB0.out.size))
  cases ok with
  | true =>
    obtain ⟨v, rfl, _⟩ := hP.good rfl
    clear hP dl
    go_wp2_with fail
    go_ret
    exact ⟨rfl, HB1.out⟩
  | false =>
    obtain rfl := hP.bad rfl
    clear hP dl
    go_wp2_with fail
    go_ret
    exact ⟨rfl, HB1.out⟩

/-- The bounds of what is built when records are appended. -/
theorem more_bounds {fmt : Int} {len blk : Nat} {l rs : List By} {c : Con} (hd : dsV 0 fmt len blk = true) (hl : l.length ≤ 60) (hrl : rs.length ≤ 12) (ha : alwV fmt len rs = true) (hc : readV fmt len blk l = .ok c) :
    (c.recs ++ rs).length ≤ 8000 ∧ alwV fmt len (c.recs ++ rs) = true ∧ (streamOf (packV fmt len blk (c.recs ++ rs))).length ≤ 20000000 ∧ (packV fmt len blk (c.recs ++ rs)).length ≤ 10000000 ∧ ∀ x ∈ packV fmt len blk (c.recs ++ rs), x.length ≤ 1024 := by
  have hRO := readV_ok hd hc
  have h1 := hRO.few
  have h2 : alwV fmt len (c.recs ++ rs) = true := by rw [alwV_append, hRO.alw, ha]; rfl
  have h3 : (c.recs ++ rs).length ≤ 8000 := by rw [List.length_append]; omega
  have h4 := stream_big hd _ h2 h3
  exact ⟨h3, h2, h4.1, h4.2, (packV_bm fmt len blk _ hd h2 (by omega)).sml⟩
end

section
open Go.RowKit Go.Sort
attribute [local go_sem ↓] loadDs_down

theorem newsAt_all {w : World} {base : Nat} {v : Value} {l : List By} (h : w.ownsRow base 9 1 v l.length (l.map sv)) : ∃ a c, v = .slice a l.length c ∧ l.length ≤ c ∧ NewsAt w w.heap.size a l.length c (l.map sv) ∧ True := by
  obtain ⟨a, c, rfl, hn, _⟩ := newsAt_of_row h
  obtain ⟨a', c', he, _, hc, _⟩ := row_all h
  obtain ⟨rfl, _, rfl⟩ := Value.slice.inj he
  exact ⟨_, _, rfl, hc, hn, trivial⟩

set_option maxRecDepth 100000 in
set_option maxHeartbeats 8000000 in
theorem rneed_ok (w : World) (B : Nat) (a : Option Addr) (cap : Nat) (l : List By) (fmt : Int) (len blk : Nat) (rsv : Value) (rs : List By) (h : Strs w B a l) (hr : Txt w B rsv rs) (hB : B ≤ w.heap.size) (hl : l.length ≤ 60) (hrl : rs.length ≤ 12) (hdv : dsV 0 fmt len blk = true) (ha : alwV fmt len rs = true) :
    Calls Tryz.prog 24 #[.agg (dsv 0 fmt len blk), .slice a l.length cap, rsv] w fun e w' => NPost w (needT fmt len blk rs (readV fmt len blk l)) e w' := by
  obtain ⟨i0, hi0, hz0, hz1, hz2⟩ := info_parts info9
  obtain ⟨ra, rc, rfl, hSR, hNR, _, _⟩ := hr.at_
  have HD0 := Lib.hid (heap_alloc_new w (.cells (dsv 0 fmt len blk) 29))
  have HB0 := Lib.hid (box_below w (dsv 0 fmt len blk) 29)
  have hrv := fun W => rvalid_any 0 fmt len blk W
  rw [hdv] at hrv
  have HV := Lib.hid hrv
  have hal := fun W b1 b2 => rallowed_any fmt len blk W B ra rc rs b1 b2 (by omega) hdv
  rw [ha] at hal
  have HAL := Lib.hid hal
  have HR := Lib.hid (fun W b1 b2 => rread_any W B a cap l fmt len blk b1 b2 (by omega) hdv)
  have HER := Lib.hid (fun k (hk : readV fmt len blk l = .error k) => readV_bad hk)
  have HMB := Lib.hid (fun c (hc : readV fmt len blk l = .ok c) => more_bounds hdv hl hrl ha hc)
  have HDV := Lib.hid hdv
  have HS0 := Lib.hid h
  have HSR := Lib.hid hSR
  have HNRW := Lib.hid hNR
  generalize readV fmt len blk l = T at HR HER HMB ⊢
  have dl := loadDs_at HD0.out rfl
  clear hrv hal h hr hSR hNR hdv ha
  go_enter Tryz.func24, Tryz.ntmps24
  go_wp2_with fail
  refine (HV.out _).mono ?_
  rintro e w1 ⟨rfl, hb1⟩
  have HB1 := Lib.hid (HB0.out.trans (hb1.mono HB0.out.size))
  have HD1 := Lib.hid ((hb1.block w.heap.size (lt_of_block HD0.out)).trans HD0.out)
  clear hb1 dl
  have dl := loadDs_at HD1.out rfl
  go_wp2_with fail
  refine (HAL.out _ (HSR.out.below (HB1.out.mono hB)) (Nat.le_trans hB HB1.out.size)).mono ?_
  rintro e w2 ⟨rfl, hb2⟩
  have HB2 := Lib.hid (HB1.out.trans (hb2.mono HB1.out.size))
  have HD2 := Lib.hid ((hb2.block w.heap.size (lt_of_block HD1.out)).trans HD1.out)
  clear hb2 dl
  have dl := loadDs_at HD2.out rfl
  go_wp2_with fail
  refine (HR.out _ (HS0.out.below (HB2.out.mono hB)) (Nat.le_trans hB HB2.out.size)).mono ?_
  rintro e w3 hP
  have HB3 := Lib.hid (HB2.out.trans (hP.bel.mono HB2.out.size))
  have HD3 := Lib.hid ((hP.bel.block w.heap.size (lt_of_block HD2.out)).trans HD2.out)
  clear dl
  cases T with
  | error k' =>
    obtain rfl := hP.bad k' rfl
    have hk0 := HER.out k' rfl
    have e1 : (k' == 0) = false := by simp [hk0]
    have e2 : (k' != 0) = true := by simp [hk0]
    clear hP hk0 HER HMB
    go_wp2_with fail
    go_ret2
    exact ⟨fun n hn => (by cases hn), fun k hk => (by cases hk; rfl), HB3.out⟩
  | ok c =>
    obtain ⟨bv, rv, rfl, hbo, hro⟩ := hP.good c rfl
    obtain ⟨m1, m2, m3, m4, m5⟩ := HMB.out c rfl
    obtain ⟨oa, oc, rfl, _, hNO, _⟩ := newsAt_all hro
    obtain ⟨ba, bc, rfl, hBS, _, _⟩ := row_all hbo
    have HBS := Lib.hid hBS
    have HNO := Lib.hid hNO
    have HNR := Lib.hid (HNRW.out.below (HB3.out.mono hB))
    have hz3 : B ≤ w3.heap.size := Nat.le_trans hB HB3.out.size
    have hrc : c.recs.length ≤ 8000 := by rw [List.length_append] at m1; omega
    obtain ⟨R, hR⟩ : ∃ R, R = c.recs ++ rs := ⟨_, rfl⟩
    rw [← hR] at m1 m2 m3 m4 m5
    have HRR := Lib.hid hR
    have HBD := Lib.hid (fun (W : World) (pa : Option Addr) (pc : Nat) (hps : Strs W W.heap.size pa R) => (show Calls Tryz.prog 47 #[.agg (dsv 0 fmt len blk), .int .i64 0, .slice pa R.length pc] W fun e w' => WPost W (writesOf 0 R.length (streamOf (packV fmt len blk R))) 0 e w' from rbuildOk_any fmt len blk 0 W W.heap.size pa pc R hps (Nat.le_refl _) (by omega) m4 m5 (by omega) HDV.out (by decide) m2))
    have HNT := Lib.hid (show (.ok (writesOf 0 R.length (streamOf (packV fmt len blk R))).length : Except Int Nat) = needT fmt len blk rs (.ok c) by
      show _ = Except.ok (1 + (secA (streamOf (packV fmt len blk (c.recs ++ rs))).length (streamOf (packV fmt len blk (c.recs ++ rs)))).length)
      rw [← hR]; unfold writesOf; rw [List.length_cons, wr1_length, Nat.add_comm])
    clear hP hbo hro hBS hNO HER HMB m2 m5 hR
    go_wp2_with fail
    have dlq : (loadDs ⟨w.heap.size, 0, none⟩).run Tryz.prog w3.drew = .ok (.agg (dsv 0 fmt len blk)) w3.drew := loadDs_at (w := w3.drew) HD3.out rfl
    have dla : (loadDs ⟨w.heap.size, 0, none⟩).run Tryz.prog (w3.alloc (.cells #[] 9)).drew = .ok (.agg (dsv 0 fmt len blk)) (w3.alloc (.cells #[] 9)).drew := loadDs_at (w := (w3.alloc (.cells #[] 9)).drew) ((halloc w3 _ (lt_of_block HD3.out)).trans HD3.out) rfl
    go_region_held3 (fun w' => (loadDs ⟨w.heap.size, 0, none⟩).run Tryz.prog w' = .ok (.agg (dsv 0 fmt len blk)) w') (first | (with_reducible exact dl6) | (with_reducible exact dl5) | (with_reducible exact dl4) | (with_reducible exact dla) | (with_reducible exact dlq) | exact dl6 | exact dl5 | exact dl4 | exact dla | exact dlq | fail)
      ((first
        | (go_at_call 47
           (with_reducible refine (HBD.out w5 pa pc HPS.out).mono ?_)
           rintro e w6 hW6
           obtain ⟨v6, rfl, ho6⟩ := hW6.out
           have hb6 := hW6.bel
           have HB6 := Lib.hid (HB5.out.trans (hb6.mono HB5.out.size))
           have HO6 := Lib.hid ho6
           have dl6 := loadDs_at ((HB6.out.block w.heap.size (lt_of_block HD3.out)).trans HD3.out) rfl
           clear hW6 ho6 hb6)
        | (refine step_append_row w3.heap.size 9 i0 (.string ByteArray.empty) 1 16 hi0 hz0 hz1 hz2 rfl (by decide) (by decide) rfl (.tmp 36) (.tmp 37) 24 rfl Tryz.underlying24 _ rfl _ _ ho4 ra rs.length rc rfl (rs.map sv) (by simp) (HNR.out.below (HB4.out.mono hz3)).out (one_sv _) (by omega) HB4.out.size ?_
           intro v5 w5 ho5 hg5
           have hb5 : Below w3.heap.size w3 w5 := HB4.out.grown hg5 HB4.out.size (fun k hk => row_own ho4 hk)
           have HB5 := Lib.hid hb5
           have ho5' : w5.ownsRow w3.heap.size 9 1 v5 R.length (R.map sv) := by rw [HRR.out, List.length_append, List.map_append]; exact ho5
           obtain ⟨pa, pc, rfl, hps, _, _⟩ := row_all ho5'
           have HPS := Lib.hid hps
           have dl5 := loadDs_at ((hb5.block w.heap.size (lt_of_block HD3.out)).trans HD3.out) rfl
           clear ho5 ho5' hps hg5 hb5)
        | (refine step_append_row w3.heap.size 9 i0 (.string ByteArray.empty) 1 16 hi0 hz0 hz1 hz2 rfl (by decide) (by decide) rfl (.tmp 34) (.tmp 35) 24 rfl Tryz.underlying24 _ rfl 0 [] ?own oa c.recs.length oc rfl (c.recs.map sv) ?len ?src ?one ?small ?base ?_
           case own => exact (lit0 (W := w3) 9 rfl (Nat.le_refl _)).drew
           case len => simp
           case src => exact (HNO.out.below bel_a1).out
           case one => exact one_sv _
           case small => omega
           case base => simp
           intro v4 w4 ho4 hg4
           have hb4 : Below w3.heap.size w3 w4 := (bel_a1 (w := w3)).grown hg4 (by simp) (fun k hk => by have : w3.heap.size = k := Option.some.inj hk; omega)
           have HB4 := Lib.hid hb4
           replace ho4 : w4.ownsRow w3.heap.size 9 1 v4 c.recs.length (c.recs.map sv) := by simpa using ho4
           have dl4 := loadDs_at ((hb4.block w.heap.size (lt_of_block HD3.out)).trans HD3.out) rfl
           clear hg4 hb4)
        | fail))
    all_goals
      obtain ⟨va, vc, rfl, _⟩ := wrs_of_row HO6.out
      have HBF := Lib.hid (HB3.out.trans (HB6.out.mono HB3.out.size))
      go_wp2_with fail
      go_ret2
      exact ⟨fun n hn => (by rw [← HNT.out] at hn; obtain rfl := Except.ok.inj hn; rfl), fun k hk => (by rw [← HNT.out] at hk; cases hk), HBF.out⟩
end

section
open Go.RowKit Go.Sort
attribute [local go_sem ↓] loadDs_down

section
variable {P : Program} {w : World}
/-- append where there is room, with the memory behind it. -/
theorem wpList_append_in {ops : Array Oper} {rest : List Oper} {o : Oper} {a : Act} {Q : Exit → Act → World → Prop} (hgd : o.guard = none) (s x : Operand) (t : TypeId)
    (ho : o.op = .call { callee := .builtin .append, args := #[s, x], argTypes := #[t, t] })
    (e : TypeId) (i : TypeInfo) (size : Nat) (ht : P.underlying t = some (.slice e)) (hi : P.info? e = some i) (hsize : i.size = size)
    (g sLen sCap : Nat) (cur : Array Value) (hg : w.heap[g]? = some (.cells cur e (0, 0))) (hs : a.eval s = .slice (some ⟨g, 0, none⟩) sLen sCap)
    (ad : Addr) (m c : Nat) (news : List Value) (hx : a.eval x = .slice (some ad) m c) (hl : news.length = m * size)
    (hnews : ∀ (j : Nat) (u : Value), news[j]? = some u → w.cell? (ad.add j) = some u) (h1 : ∀ u ∈ news, u.oneCell' = true)
    (hroom : sLen + m ≤ sCap) (hfit : sLen * size + news.length ≤ cur.size)
    (h : wpList P ops Q rest (a.put o.dst (.slice (some ⟨g, 0, none⟩) (sLen + m) sCap)) (w.setRow g (cur.toList.take (sLen * size) ++ news ++ cur.toList.drop (sLen * size + news.length)).toArray)) : wpList P ops Q (o :: rest) a w := by
  subst hsize
  refine wpList_plain hgd fun K hK => ?_
  unfold Oper.wp execOp
  simp only [ho, resolve, invoke, builtin, Sem.run_bind, Sem.run_pure, Result.andThen_ok, List.map_toArray, List.map_cons, List.map_nil, hs, hx, run_append_room (P := P) w t o.type e i ht hi g sLen sCap cur hg ad m c news hl hnews h1 hroom hfit]
  exact hK _ _ h
end
theorem in_place (C : List Value) (x y : Value) (k : Nat) (h : k * 2 + 2 ≤ C.length) :
    (C.take (k * 2) ++ x :: y :: C.drop (k * 2 + 2)).length = C.length ∧ (C.take (k * 2) ++ x :: y :: C.drop (k * 2 + 2)).take ((k + 1) * 2) = C.take (k * 2) ++ [x, y] ∧
    ∀ p, k * 2 + 2 ≤ p → (C.take (k * 2) ++ x :: y :: C.drop (k * 2 + 2))[p]? = C[p]? := by
  have e : C.take (k * 2) ++ x :: y :: C.drop (k * 2 + 2) = (C.take (k * 2) ++ [x, y]) ++ C.drop (k * 2 + 2) := by simp
  have hl : (C.take (k * 2) ++ [x, y]).length = k * 2 + 2 := by rw [List.length_append, List.length_take]; simp; omega
  rw [e]
  refine ⟨?_, ?_, fun p hp => ?_⟩
  · rw [List.length_append, hl, List.length_drop]; omega
  · rw [show (k + 1) * 2 = (C.take (k * 2) ++ [x, y]).length by rw [hl]; omega, List.take_left']; rfl
  · rw [List.getElem?_append_right (by omega), hl, List.getElem?_drop]
    congr 1; omega
/-- What the loop of the reference's Append holds. -/
structure ApSt (W7 : World) (g cap : Nat) (A AW : List (Nat × By)) (BB TT : List By) (W : World) (j : Nat) (ws : List (Nat × By)) : Prop where
  only : Only [g] W7 W
  ex : ∃ cur : Array Value, W.heap[g]? = some (.cells cur 59 (0, 0)) ∧ cur.size = cap * 2 ∧ cur.toList.take (ws.length * 2) = flatW ws ∧ ∀ p, (j + 1) * 2 ≤ p → p < A.length * 2 → cur.toList[p]? = (flatW A)[p]?
  few : ws.length ≤ j + 1
  le : j ≤ TT.length
  tot : AW = ws ++ chgW BB j (TT.drop j)

set_option maxRecDepth 100000 in
set_option maxHeartbeats 8000000 in
theorem rapp_ok (w : World) (B : Nat) (a : Option Addr) (cap : Nat) (l : List By) (fmt : Int) (len blk n : Nat) (rsv : Value) (rs : List By) (h : Strs w B a l) (hr : Txt w B rsv rs) (hB : B ≤ w.heap.size) (hl : l.length ≤ 60) (hrl : rs.length ≤ 12) (hdv : dsV 0 fmt len blk = true) (hnv : numV n = true) (ha : alwV fmt len rs = true) :
    Calls Tryz.prog 22 #[.agg (dsv 0 fmt len blk), .slice a l.length cap, .int .i64 n, rsv] w fun e w' => WPost w (appT fmt len blk n rs (readV fmt len blk l)).1 (appT fmt len blk n rs (readV fmt len blk l)).2 e w' := by
  obtain ⟨i0, hi0, hz0, hz1, hz2⟩ := info_parts info9
  obtain ⟨ra, rc, rfl, hSR, hNR, _, _⟩ := hr.at_
  have HD0 := Lib.hid (heap_alloc_new w (.cells (dsv 0 fmt len blk) 29))
  have HB0 := Lib.hid (box_below w (dsv 0 fmt len blk) 29)
  have hrv := fun W => rvalid_any 0 fmt len blk W
  rw [hdv] at hrv
  have HV := Lib.hid hrv
  have hal := fun W b1 b2 => rallowed_any fmt len blk W B ra rc rs b1 b2 (by omega) hdv
  rw [ha] at hal
  have HAL := Lib.hid hal
  have HR := Lib.hid (fun W b1 b2 => rread_any W B a cap l fmt len blk b1 b2 (by omega) hdv)
  have HER := Lib.hid (fun k (hk : readV fmt len blk l = .error k) => readV_bad hk)
  have HMB := Lib.hid (fun c (hc : readV fmt len blk l = .ok c) => more_bounds hdv hl hrl ha hc)
  have HDV := Lib.hid hdv
  have hnum := rnum_valid (n : Int)
  rw [hnv] at hnum
  have HNV := Lib.hid hnum
  have HNN := Lib.hid hnv
  have HOK := Lib.hid (fun c (hc : readV fmt len blk l = .ok c) => readV_ok hdv hc)
  clear hnum hnv
  have HS0 := Lib.hid h
  have HSR := Lib.hid hSR
  have HNRW := Lib.hid hNR
  generalize readV fmt len blk l = T at HR HER HMB HOK ⊢
  have dl := loadDs_at HD0.out rfl
  clear hrv hal h hr hSR hNR hdv ha
  go_enter Tryz.func22, Tryz.ntmps22
  go_wp2_with fail
  refine (HV.out _).mono ?_
  rintro e w1 ⟨rfl, hb1⟩
  have HB1 := Lib.hid (HB0.out.trans (hb1.mono HB0.out.size))
  have HD1 := Lib.hid ((hb1.block w.heap.size (lt_of_block HD0.out)).trans HD0.out)
  clear hb1 dl
  have dl := loadDs_at HD1.out rfl
  go_wp2_with fail
  refine (HNV.out _).mono ?_
  rintro e _ ⟨rfl, rfl⟩
  go_wp2_with fail
  refine (HAL.out _ (HSR.out.below (HB1.out.mono hB)) (Nat.le_trans hB HB1.out.size)).mono ?_
  rintro e w2 ⟨rfl, hb2⟩
  have HB2 := Lib.hid (HB1.out.trans (hb2.mono HB1.out.size))
  have HD2 := Lib.hid ((hb2.block w.heap.size (lt_of_block HD1.out)).trans HD1.out)
  clear hb2 dl
  have dl := loadDs_at HD2.out rfl
  go_wp2_with fail
  refine (HR.out _ (HS0.out.below (HB2.out.mono hB)) (Nat.le_trans hB HB2.out.size)).mono ?_
  rintro e w3 hP
  have HB3 := Lib.hid (HB2.out.trans (hP.bel.mono HB2.out.size))
  have HD3 := Lib.hid ((hP.bel.block w.heap.size (lt_of_block HD2.out)).trans HD2.out)
  clear dl
  cases T with
  | error k' =>
    obtain rfl := hP.bad k' rfl
    have hk0 := HER.out k' rfl
    have e1 : (k' == 0) = false := by simp [hk0]
    have e2 : (k' != 0) = true := by simp [hk0]
    clear hP hk0 HER HMB
    go_wp2_with fail
    go_ret2
    exact WPost.none k' HB3.out
  | ok c =>
    obtain ⟨bv, rv, rfl, hbo, hro⟩ := hP.good c rfl
    obtain ⟨m1, m2, m3, m4, m5⟩ := HMB.out c rfl
    obtain ⟨oa, oc, rfl, _, hNO, _⟩ := newsAt_all hro
    obtain ⟨ba, bc, rfl, hBS, _, _⟩ := row_all hbo
    have HBS := Lib.hid hBS
    have HNO := Lib.hid hNO
    have HNR := Lib.hid (HNRW.out.below (HB3.out.mono hB))
    have hz3 : B ≤ w3.heap.size := Nat.le_trans hB HB3.out.size
    have hrc : c.recs.length ≤ 8000 := by rw [List.length_append] at m1; omega
    obtain ⟨R, hR⟩ : ∃ R, R = c.recs ++ rs := ⟨_, rfl⟩
    rw [← hR] at m1 m2 m3 m4 m5
    have HRR := Lib.hid hR
    have HBD := Lib.hid (fun (W : World) (pa : Option Addr) (pc : Nat) (hps : Strs W W.heap.size pa R) => (show Calls Tryz.prog 47 #[.agg (dsv 0 fmt len blk), .int .i64 n, .slice pa R.length pc] W fun e w' => WPost W (writesOf n R.length (streamOf (packV fmt len blk R))) 0 e w' from rbuildOk_any fmt len blk n W W.heap.size pa pc R hps (Nat.le_refl _) (by omega) m4 m5 (by omega) HDV.out HNN.out m2))
    have hRO := HOK.out c rfl
    have hcs := hRO.sl
    have HCE := Lib.hid (show streamOf c.blk = c.str by rw [hRO.blks, hRO.str])
    have HCS := Lib.hid (show c.str.length ≤ 7680 by omega)
    have HCB := Lib.hid (show c.blk.length ≤ 3840 by have := stream_ge c.blk; rw [HCE.out] at this; omega)
    have HCX := Lib.hid (fun r (hr : r ∈ c.blk) => show r.length ≤ 1024 from by rw [hRO.blks] at hr; exact (packV_bm fmt len blk _ HDV.out hRO.alw (by omega)).sml r hr)
    have hAPT : appT fmt len blk n rs (.ok c) = (appW n R.length c.str (streamOf (packV fmt len blk R)), 0) := by rw [hR]; rfl
    obtain ⟨j0, hj0, _, hw1, _⟩ := info_parts infoW
    clear HOK hRO hcs
    clear hP hbo hro hBS hNO HER HMB m2 m5 hR
    go_wp2_with fail
    have dlq : (loadDs ⟨w.heap.size, 0, none⟩).run Tryz.prog w3.drew = .ok (.agg (dsv 0 fmt len blk)) w3.drew := loadDs_at (w := w3.drew) HD3.out rfl
    have dla : (loadDs ⟨w.heap.size, 0, none⟩).run Tryz.prog (w3.alloc (.cells #[] 9)).drew = .ok (.agg (dsv 0 fmt len blk)) (w3.alloc (.cells #[] 9)).drew := loadDs_at (w := (w3.alloc (.cells #[] 9)).drew) ((halloc w3 _ (lt_of_block HD3.out)).trans HD3.out) rfl
    go_region_held3 (fun w' => (loadDs ⟨w.heap.size, 0, none⟩).run Tryz.prog w' = .ok (.agg (dsv 0 fmt len blk)) w') (first | (with_reducible exact dl6) | (with_reducible exact dl5) | (with_reducible exact dl4) | (with_reducible exact dla) | (with_reducible exact dlq) | exact dl6 | exact dl5 | exact dl4 | exact dla | exact dlq | fail)
      ((first
        | (go_at_call 47
           (with_reducible refine (HBD.out w5 pa pc HPS.out).mono ?_)
           rintro e w6 hW6
           obtain ⟨v6, rfl, ho6⟩ := hW6.out
           have hb6 := hW6.bel
           have HB6 := Lib.hid (HB5.out.trans (hb6.mono HB5.out.size))
           have HO6 := Lib.hid ho6
           have dl6 := loadDs_at ((HB6.out.block w.heap.size (lt_of_block HD3.out)).trans HD3.out) rfl
           clear hW6 ho6 hb6)
        | (refine step_append_row w3.heap.size 9 i0 (.string ByteArray.empty) 1 16 hi0 hz0 hz1 hz2 rfl (by decide) (by decide) rfl (.tmp 47) (.tmp 48) 24 rfl Tryz.underlying24 _ rfl _ _ ho4 ra rs.length rc rfl (rs.map sv) (by simp) (HNR.out.below (HB4.out.mono hz3)).out (one_sv _) (by omega) HB4.out.size ?_
           intro v5 w5 ho5 hg5
           have hb5 : Below w3.heap.size w3 w5 := HB4.out.grown hg5 HB4.out.size (fun k hk => row_own ho4 hk)
           have HB5 := Lib.hid hb5
           have ho5' : w5.ownsRow w3.heap.size 9 1 v5 R.length (R.map sv) := by rw [HRR.out, List.length_append, List.map_append]; exact ho5
           obtain ⟨pa, pc, rfl, hps, _, _⟩ := row_all ho5'
           have HPS := Lib.hid hps
           have dl5 := loadDs_at ((hb5.block w.heap.size (lt_of_block HD3.out)).trans HD3.out) rfl
           clear ho5 ho5' hps hg5 hb5)
        | (refine step_append_row w3.heap.size 9 i0 (.string ByteArray.empty) 1 16 hi0 hz0 hz1 hz2 rfl (by decide) (by decide) rfl (.tmp 45) (.tmp 46) 24 rfl Tryz.underlying24 _ rfl 0 [] ?own oa c.recs.length oc rfl (c.recs.map sv) ?len ?src ?one ?small ?base ?_
           case own => exact (lit0 (W := w3) 9 rfl (Nat.le_refl _)).drew
           case len => simp
           case src => exact (HNO.out.below bel_a1).out
           case one => exact one_sv _
           case small => omega
           case base => simp
           intro v4 w4 ho4 hg4
           have hb4 : Below w3.heap.size w3 w4 := (bel_a1 (w := w3)).grown hg4 (by simp) (fun k hk => by have : w3.heap.size = k := Option.some.inj hk; omega)
           have HB4 := Lib.hid hb4
           replace ho4 : w4.ownsRow w3.heap.size 9 1 v4 c.recs.length (c.recs.map sv) := by simpa using ho4
           have dl4 := loadDs_at ((hb4.block w.heap.size (lt_of_block HD3.out)).trans HD3.out) rfl
           clear hg4 hb4)
        | fail))
    all_goals
      clear HBD HNO HNR
      obtain ⟨va, vc, rfl, _⟩ := wrs_of_row HO6.out
      have HBF := Lib.hid (HB3.out.trans (HB6.out.mono HB3.out.size))
      have hst := rstream_any w6 w3.heap.size ba bc c.blk (HBS.out.below HB6.out) HB6.out.size (by have := HCB.out; omega) (by rw [HCE.out]; have := HCS.out; omega) (fun r hr => by have := HCX.out r hr; omega)
      rw [HCE.out] at hst
      have HST := Lib.hid hst
      clear hst
      have hcl : c.str.length ≤ 1000000000 := by have := HCS.out; omega
      generalize hSO : c.str = SO at *
      generalize streamOf (packV fmt len blk R) = S at *
      generalize R.length = RL at *
      go_wp2_with fail
      refine HST.out.mono ?_
      rintro e w7 ⟨rfl, hb7⟩
      have HB7 := Lib.hid hb7
      clear hb7
      go_wp2_with fail
      refine (rcut_any SO w7 hcl).mono ?_
      rintro e w8 ⟨v8, rfl, ho8, hb8⟩
      rw [show secB SO.length SO 0 = secA SO.length SO by rw [secB_eq]; rfl] at ho8
      have HA := Lib.hid (show writesOf n RL S = (0, headB n RL S.length) :: wr1 1 (secA S.length S) from rfl)
      have HAW := Lib.hid (show appW n RL SO S = (0, headB n RL S.length) :: chgW (secA SO.length SO) 0 (secA S.length S) from rfl)
      have htl := secA_le S.length S
      have hbl := secA_le SO.length SO
      generalize writesOf n RL S = A at *
      generalize appW n RL SO S = AW at *
      generalize headB n RL S.length = hd at *
      generalize secA SO.length SO = BB at *
      generalize secA S.length S = TT at *
      obtain ⟨ea, ec, rfl, hES⟩ := strsIn_of_row ho8
      have HB68 := Lib.hid (HB7.out.trans (hb8.mono HB7.out.size))
      have HES := Lib.hid hES
      have HB8 := Lib.hid (HBF.out.trans (HB68.out.mono HBF.out.size))
      have hAl : A.length = TT.length + 1 := by rw [HA.out, List.length_cons, wr1_length]
      obtain ⟨hfl, hor⟩ := HO6.out
      rcases hor with ⟨_, hn0⟩ | ⟨g, cap', cur, hv, hgb, hblk, q1, q2, q3, q4⟩
      · omega
      have hgl : g < w6.heap.size := lt_of_block hblk
      obtain ⟨rfl, _, rfl⟩ := Value.slice.inj hv
      replace hblk := (HB68.out.block g hgl).trans hblk
      have hg8 : w3.heap.size ≤ g := Nat.le_trans HB5.out.size hgb
      have HGW := Lib.hid (show w.heap.size ≤ g from Nat.le_trans HB3.out.size hg8)
      have HG7 := Lib.hid (show g < w7.heap.size from Nat.lt_of_lt_of_le hgl HB7.out.size)
      have hS0 : ApSt w8 g vc A AW BB TT w8 0 [(0, hd)] := by
        refine ⟨Only.refl _ _, ⟨cur, hblk, q3, ?_, fun p _ hp => ?_⟩, by simp, Nat.zero_le _, HAW.out⟩
        · have := congrArg (List.take 2) q4
          rw [List.take_take, Nat.min_eq_left (by omega)] at this
          rw [show [(0, hd)].length * 2 = 2 from rfl, this, HA.out]; rfl
        · rw [← q4, List.getElem?_take_of_lt hp]
      have HS := Lib.hid hS0
      have HQ := Lib.hid (show A.length ≤ vc ∧ vc ≤ maxLen from ⟨q1, q2⟩)
      have HFW := Lib.hid (flatW_length A)
      have HPT := Lib.hid hAPT
      clear hS0 hfl hv hblk q1 q2 q3 q4 ho8 hES hb8 hgb hg8 hgl hAPT
      have hT1 : (1 : Int) ≤ (A.length : Int) := by omega
      have hTc : (1 : Int) ≤ (vc : Int) := by have := HQ.out.1; omega
      go_wp2_with fail
      go_loopw [17, 18] (fun o k wr => ∃ (j : Nat) (ws : List (Nat × By)), k = .int .i64 ((j : Int) + 1) ∧ o = .slice (some ⟨g, 0, none⟩) ws.length vc ∧ ApSt w8 g vc A AW BB TT wr j ws) (fun _ k _ => TT.length + 1 - (intOf k).toNat)
      case atStart => exact ⟨0, [(0, hd)], rfl, rfl, HS.out⟩
      case round =>
        clear HS
        obtain ⟨j, ws, rfl, rfl, hS⟩ := hrel
        have hfew := hS.few
        have hle := hS.le
        have hon := hS.only
        obtain ⟨cur, hcur, hcs, hct, hcr⟩ := hS.ex
        by_cases hlt : j < TT.length
        · have hltI : (j : Int) + 1 < (A.length : Int) := by omega
          have hlt0 : (0 : Int) ≤ (j : Int) + 1 := by omega
          have htot := hS.tot
          rw [List.drop_eq_getElem_cons hlt, chgW] at htot
          have hAg := flatW_get A (j + 1) (by omega)
          have hAe : A[j + 1]'(by omega) = (1 + j, TT[j]) := by
            have h1 := wr1_get TT 1 j (by rw [wr1_length]; exact hlt)
            have h2 : ∀ (X : List (Nat × By)) (hx : j + 1 < X.length), X = (0, hd) :: wr1 1 TT → X[j + 1] = (wr1 1 TT)[j]'(by rw [wr1_length]; exact hlt) := by
              intro X hx e; subst e; rfl
            rw [h2 A (by omega) HA.out]
            have h3 := h1.2
            rw [List.getElem?_eq_getElem hlt] at h3
            exact Prod.ext h1.1 (Option.some.inj h3).symm
          rw [hAe] at hAg
          have hx0 := (hcr ((j + 1) * 2) (Nat.le_refl _) (by omega)).trans hAg.1
          have hx1 := (hcr ((j + 1) * 2 + 1) (by omega) (by omega)).trans hAg.2
          clear hAg hAe
          generalize TT[j] = d at htot hx0 hx1
          have y0 : wr.cell? ⟨g, (j + 1) * 2, none⟩ = some (.int .i64 (1 + (j : Int))) := by
            rw [cell_of_row wr g _ cur _ (0, 0) hcur]
            have h := hx0
            rw [Array.getElem?_toList] at h
            rw [h]; simp
          have y1 : wr.cell? ⟨g, (j + 1) * 2 + 1, none⟩ = some (.string ⟨d.toArray⟩) := by
            rw [cell_of_row wr g _ cur _ (0, 0) hcur]
            have h := hx1
            rw [Array.getElem?_toList] at h
            rw [h]; rfl
          have HON := Lib.hid hon
          have HCT := Lib.hid hct
          have HCR := Lib.hid hcr
          have HCU := Lib.hid hcur
          have hcs2 : cur.size = vc * 2 := hcs
          have hvc : A.length ≤ vc := HQ.out.1
          clear hS hon hct hcr hcs hx0 hx1 hcur
          by_cases hge : BB.length ≤ j
          · have hgI : (BB.length : Int) < (j : Int) + 1 := by omega
            have hgD : decide ((BB.length : Int) < (j : Int) + 1) = true := decide_eq_true hgI
            have HN := Lib.hid (show AW = (ws ++ [(1 + j, d)]) ++ chgW BB (j + 1) (TT.drop (j + 1)) by rw [htot, if_pos (Or.inl hge), List.append_assoc]; rfl)
            clear htot hge
            go_wp2_with fail
            go_quiet (fail)
            obtain ⟨W, hW⟩ : ∃ W, W = wr.drewN nq := ⟨_, rfl⟩
            have hcurW : W.heap[g]? = some (.cells cur 59 (0, 0)) := by rw [hW]; exact HCU.out
            have y0W : W.cell? ⟨g, (j + 1) * 2, none⟩ = some (.int .i64 (1 + (j : Int))) := by rw [hW]; exact y0
            have y1W : W.cell? ⟨g, (j + 1) * 2 + 1, none⟩ = some (.string ⟨d.toArray⟩) := by rw [hW]; exact y1
            have HONW := Lib.hid (show Only [g] w8 W by rw [hW]; exact HON.out.drewN nq)
            rw [← hW]
            clear hW y0 y1 
            have hgW := lt_of_block hcurW
            have HCW := Lib.hid hcurW
            clear hcurW
            go_wp2_with (refine wpList_append_in rfl _ _ 48 rfl 59 j0 2 Tryz.underlying48 hj0 hw1 g ws.length vc cur ((halloc W _ hgW).trans HCW.out) rfl _ 1 1 [.int .i64 (1 + (j : Int)), .string ⟨d.toArray⟩] rfl rfl ?f1a ?f2a ?f3a ?f4a ?_)
            try (case f1a => exact news_at (cs := #[.int .i64 (1 + (j : Int)), .string ⟨d.toArray⟩]) (heap_alloc_new _ _))
            try (case f2a => simp [Value.oneCell'])
            try (case f3a => omega)
            try (case f4a => simp; omega)
            have hcl2 : cur.toList.length = cur.size := Array.length_toList
            obtain ⟨l1, l2, l3⟩ := in_place cur.toList (Value.int .i64 (1 + (j : Int))) (Value.string ⟨d.toArray⟩) ws.length (by omega)
            have HZ := Lib.hid (show ApSt w8 g vc A AW BB TT ((W.alloc (.cells #[.int .i64 (1 + (j : Int)), .string ⟨d.toArray⟩] 59)).setRow g (cur.toList.take (ws.length * 2) ++ Value.int .i64 (1 + (j : Int)) :: Value.string ⟨d.toArray⟩ :: cur.toList.drop (ws.length * 2 + 2)).toArray) (j + 1) (ws ++ [(1 + j, d)]) from
              ⟨(HONW.out.alloc _).setRow (Or.inl (by simp)) _, ⟨_, setRow_heap _ _ _ _ _ _ ((halloc W _ hgW).trans HCW.out), by rw [List.size_toArray, l1, hcl2]; exact hcs2, by
                  rw [List.length_append, List.length_singleton]
                  show List.take ((ws.length + 1) * 2) _ = _
                  rw [l2, HCT.out, flatW_append]; simp [flatW, wrC, sv], fun p h1 h2 => (l3 p (by omega)).trans (HCR.out p (by omega) h2)⟩, by rw [List.length_append, List.length_singleton]; omega, by omega, HN.out⟩)
            clear y0W y1W l1 l2 l3 hcl2
            go_wp2_with fail
            go_roundw
            case rel => exact ⟨j + 1, ws ++ [(1 + j, d)], by go_num, by simp, HZ.out⟩
            case measure => simp [intOf]; omega
          · have hgI : ¬ (BB.length : Int) < (j : Int) + 1 := by omega
            have hgD : decide ((BB.length : Int) < (j : Int) + 1) = false := decide_eq_false hgI
            have hjB : j < BB.length := by omega
            have hjI : (j : Int) < (BB.length : Int) := by omega
            have hjI0 : (0 : Int) ≤ (j : Int) := by omega
            obtain ⟨b, rfl, hlo, hbl2, hbc⟩ := HES.out.cells (fun e => by rw [e] at hjB; simp at hjB)
            have z := (HON.out.cell (p := ⟨b, j, none⟩) hbl2 (by have := HG7.out; simp; omega)).trans (hbc j hjB)
            have hBj : BB[j]? = some BB[j] := List.getElem?_eq_getElem hjB
            generalize BB[j] = x at z hBj
            by_cases hxd : x = d
            · subst hxd
              have HN := Lib.hid (show AW = ws ++ chgW BB (j + 1) (TT.drop (j + 1)) by
                rw [htot, if_neg]
                rintro (h | h)
                · omega
                · exact h hBj)
              clear htot hge hbc hBj
              go_wp2_with fail
              go_quiet (fail)
              have HZ := Lib.hid (show ApSt w8 g vc A AW BB TT (wr.drewN nq) (j + 1) ws from ⟨HON.out.drewN nq, ⟨cur, HCU.out, hcs2, HCT.out, fun p h1 h2 => HCR.out p (by omega) h2⟩, by omega, by omega, HN.out⟩)
              clear y0 y1 z
              go_wp2_with fail
              go_roundw
              case rel => exact ⟨j + 1, ws, by go_num, rfl, HZ.out⟩
              case measure => simp [intOf]; omega
            · have HN := Lib.hid (show AW = (ws ++ [(1 + j, d)]) ++ chgW BB (j + 1) (TT.drop (j + 1)) by
                rw [htot, if_pos (Or.inr (by rw [hBj]; exact fun h => hxd (Option.some.inj h))), List.append_assoc]; rfl)
              have hxb : (x == d) = false := by simpa using hxd
              have hxc : (x != d) = true := by simpa using hxd
              clear htot hge hbc hBj hxd
              go_wp2_with fail
              go_quiet (fail)
              obtain ⟨W, hW⟩ : ∃ W, W = wr.drewN nq := ⟨_, rfl⟩
              have hcurW : W.heap[g]? = some (.cells cur 59 (0, 0)) := by rw [hW]; exact HCU.out
              have y0W : W.cell? ⟨g, (j + 1) * 2, none⟩ = some (.int .i64 (1 + (j : Int))) := by rw [hW]; exact y0
              have y1W : W.cell? ⟨g, (j + 1) * 2 + 1, none⟩ = some (.string ⟨d.toArray⟩) := by rw [hW]; exact y1
              have HONW := Lib.hid (show Only [g] w8 W by rw [hW]; exact HON.out.drewN nq)
              rw [← hW]
              clear hW y0 y1 z
              have hgW := lt_of_block hcurW
              have HCW := Lib.hid hcurW
              clear hcurW
              go_wp2_with (refine wpList_append_in rfl _ _ 48 rfl 59 j0 2 Tryz.underlying48 hj0 hw1 g ws.length vc cur ((halloc W _ hgW).trans HCW.out) rfl _ 1 1 [.int .i64 (1 + (j : Int)), .string ⟨d.toArray⟩] rfl rfl ?f1b ?f2b ?f3b ?f4b ?_)
              try (case f1b => exact news_at (cs := #[.int .i64 (1 + (j : Int)), .string ⟨d.toArray⟩]) (heap_alloc_new _ _))
              try (case f2b => simp [Value.oneCell'])
              try (case f3b => omega)
              try (case f4b => simp; omega)
              have hcl2 : cur.toList.length = cur.size := Array.length_toList
              obtain ⟨l1, l2, l3⟩ := in_place cur.toList (Value.int .i64 (1 + (j : Int))) (Value.string ⟨d.toArray⟩) ws.length (by omega)
              have HZ := Lib.hid (show ApSt w8 g vc A AW BB TT ((W.alloc (.cells #[.int .i64 (1 + (j : Int)), .string ⟨d.toArray⟩] 59)).setRow g (cur.toList.take (ws.length * 2) ++ Value.int .i64 (1 + (j : Int)) :: Value.string ⟨d.toArray⟩ :: cur.toList.drop (ws.length * 2 + 2)).toArray) (j + 1) (ws ++ [(1 + j, d)]) from
                ⟨(HONW.out.alloc _).setRow (Or.inl (by simp)) _, ⟨_, setRow_heap _ _ _ _ _ _ ((halloc W _ hgW).trans HCW.out), by rw [List.size_toArray, l1, hcl2]; exact hcs2, by
                    rw [List.length_append, List.length_singleton]
                    show List.take ((ws.length + 1) * 2) _ = _
                    rw [l2, HCT.out, flatW_append]; simp [flatW, wrC, sv], fun p h1 h2 => (l3 p (by omega)).trans (HCR.out p (by omega) h2)⟩, by rw [List.length_append, List.length_singleton]; omega, by omega, HN.out⟩)
              clear y0W y1W l1 l2 l3 hcl2
              go_wp2_with fail
              go_roundw
              case rel => exact ⟨j + 1, ws ++ [(1 + j, d)], by go_num, by simp, HZ.out⟩
              case measure => simp [intOf]; omega
        · have hj : j = TT.length := by omega
          have hws : AW = ws := by rw [hS.tot, hj, List.drop_length]; simp [chgW]
          have hfin : wr.ownsRow w.heap.size 59 2 (.slice (some ⟨g, 0, none⟩) ws.length vc) ws.length (flatW ws) :=
            ⟨flatW_length ws, Or.inr ⟨g, vc, cur, rfl, HGW.out, hcur, by have := HQ.out.1; omega, HQ.out.2, hcs, hct⟩⟩
          have HF := Lib.hid hfin
          have HWS := Lib.hid hws
          have HBZ := Lib.hid (HB8.out.trans (hon.below HB8.out.size (fun k hk => by simp at hk; rw [hk]; exact HGW.out)))
          have hltI : ¬ (j : Int) + 1 < (A.length : Int) := by omega
          clear hS hon hcur hcs hct hcr hfin hws
          go_wp2_with fail
          go_ret2
          rw [HPT.out]
          simp only
          rw [HWS.out]
          exact ⟨⟨_, rfl, HF.out⟩, HBZ.out⟩
end

end Go.Proofs.YthkpcalopmddpaaGreatDoor
