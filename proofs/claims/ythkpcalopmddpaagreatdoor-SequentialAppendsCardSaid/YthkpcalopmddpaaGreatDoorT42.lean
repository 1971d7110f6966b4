/-
  Walks: Need, where the description and the records are in order. Conditions: at most 300 sectors and 1000 records.
-/
import Derived.Test.YthkpcalopmddpaaGreatDoorT41
import Derived.Test.YthkpcalopmddpaaGreatDoorGE
import Derived.Test.YthkpcalopmddpaaGreatDoorGH
import Derived.Test.YthkpcalopmddpaaGreatDoorGI
namespace Go.Proofs.YthkpcalopmddpaaGreatDoor
open Go.RowKit Go.Sort
attribute [local go_sem ↓] loadDs_down loadCon_down storeCon_down

/-- Two contents, stored in new cells. -/
theorem con_news (w : World) (o m : Array Value) :
    let W := (((w.alloc (.cells coz 77)).alloc (.cells coz 77)).setRow w.heap.size o).setRow (w.heap.size + 1) m
    Below w.heap.size w W ∧ W.heap[w.heap.size]? = some (.cells o 77 (0, 0)) ∧ W.heap[w.heap.size + 1]? = some (.cells m 77 (0, 0)) := by
  intro W
  have h0 : ((w.alloc (.cells coz 77)).alloc (.cells coz 77)).heap[w.heap.size]? = some (.cells coz 77 (0, 0)) := (halloc _ _ (by simp)).trans (heap_alloc_new _ _)
  have h1 := two_new w coz coz 77 77
  obtain ⟨r1, r2, _⟩ := rows_two (o' := o) (m' := m) (show w.heap.size ≠ w.heap.size + 1 by omega) h0 h1
  exact ⟨Below.setRow (Below.setRow (two_below w _ _ _ _) (Nat.le_refl _) _) (by omega) _, r1, r2⟩
theorem store_news (w : World) (o m : Array Value) (ho : o.size = 4) (hm : m.size = 4) (h1 : o.all (·.oneCell') = true) (h2 : m.all (·.oneCell') = true) :
    (storeCon ⟨w.heap.size, 0, none⟩ (.agg o)).run Tryz.prog ((w.alloc (.cells coz 77)).alloc (.cells coz 77)) = .ok () (((w.alloc (.cells coz 77)).alloc (.cells coz 77)).setRow w.heap.size o) ∧
    (storeCon ⟨w.heap.size + 1, 0, none⟩ (.agg m)).run Tryz.prog (((w.alloc (.cells coz 77)).alloc (.cells coz 77)).setRow w.heap.size o) = .ok () ((((w.alloc (.cells coz 77)).alloc (.cells coz 77)).setRow w.heap.size o).setRow (w.heap.size + 1) m) := by
  have h0 : ((w.alloc (.cells coz 77)).alloc (.cells coz 77)).heap[w.heap.size]? = some (.cells coz 77 (0, 0)) := (halloc _ _ (by simp)).trans (heap_alloc_new _ _)
  have h3 := two_new w coz coz 77 77
  obtain ⟨_, _, r3⟩ := rows_two (o' := o) (m' := m) (show w.heap.size ≠ w.heap.size + 1 by omega) h0 h3
  exact ⟨storeCon_at h0 ho (by rw [ho]; rfl) h1, storeCon_at r3 hm (by rw [hm]; rfl) h2⟩
theorem ConAt.one {w : World} {base : Nat} {o : Array Value} {c : Con} (h : ConAt w base o c) : o.size = 4 ∧ o.all (·.oneCell') = true := by
  obtain ⟨rv, bv, rfl, h1, h2⟩ := h.ex
  refine ⟨rfl, con_one ?_ ?_⟩
  · obtain ⟨_, _, rfl, _⟩ := row_all h1; rfl
  · obtain ⟨_, _, rfl, _⟩ := row_all h2; rfl
theorem coz_one : coz.all (·.oneCell') = true := by simp [Value.oneCell']

/-- What Need gives. -/
structure NPost (w : World) (T : Except Int Nat) (e : Ending) (w' : World) : Prop where
  good : ∀ n, T = .ok n → e = .returned (.tuple #[.int .i64 n, .int .i64 0])
  bad : ∀ k, T = .error k → e = .returned (.tuple #[.int .i64 0, .int .i64 k])
  bel : Below w.heap.size w w'
def needT (fmt : Int) (len blk : Nat) (rs : List By) : Except Int Con → Except Int Nat
  | .error k => .error k
  | .ok c => .ok (1 + (secA (streamOf (packV fmt len blk (c.recs ++ rs))).length (streamOf (packV fmt len blk (c.recs ++ rs)))).length)

set_option maxRecDepth 100000 in
set_option maxHeartbeats 4000000 in
theorem need_ok (w : World) (B : Nat) (a : Option Addr) (cap : Nat) (l : List By) (fmt : Int) (len blk : Nat) (rsv : Value) (rs : List By) (h : Strs w B a l) (hr : Txt w B rsv rs) (hB : B ≤ w.heap.size) (hl : l.length ≤ 300) (hrl : rs.length ≤ 1000) (hdv : dsV 0 fmt len blk = true) (ha : alwV fmt len rs = true)
    (hS : ∀ c, readV fmt len blk l = .ok c → (streamOf (packV fmt len blk (c.recs ++ rs))).length ≤ 1000000000) (hc0 : Codes w) :
    Calls Tryz.prog 23 #[.agg (dsv 0 fmt len blk), pgv a l.length cap, rsv] w fun e w' => NPost w (needT fmt len blk rs (readV fmt len blk l)) e w' := by
  have HD0 := Lib.hid (heap_alloc_new w (.cells (dsv 0 fmt len blk) 29))
  have HB0 := Lib.hid (box_below w (dsv 0 fmt len blk) 29)
  have HMR := Lib.hid (fun W b1 b2 b3 b4 => more_ok W B a cap l fmt len blk 0 rsv rs b1 b2 b3 hl hrl hdv (by decide) ha b4)
  have HER := Lib.hid (fun k (hk : readV fmt len blk l = .error k) => readV_bad hk)
  generalize readV fmt len blk l = T at HMR hS HER ⊢
  have dl0 := loadDs_at HD0.out rfl
  go_enter Tryz.func23, Tryz.ntmps23
  go_wp2_with fail
  refine (HMR.out _ (h.below (HB0.out.mono hB)) (hr.below (HB0.out.mono hB)) (Nat.le_trans hB HB0.out.size) (hc0.below HB0.out hc0.pos)).mono ?_
  rintro e w1 hP
  have HB1 := Lib.hid (HB0.out.trans (hP.bel.mono HB0.out.size))
  obtain ⟨o, m, k, rfl, hk⟩ := hP.any
  clear hP dl0
  cases T with
  | error k' =>
    rcases hk with ⟨c, d, hk, _⟩ | ⟨hk, rfl, rfl⟩
    · cases hk
    obtain rfl : k' = k := Except.error.inj hk
    have hk0 := HER.out k' rfl
    have e1 : (k' == 0) = false := by simp [hk0]
    have e2 : (k' != 0) = true := by simp [hk0]
    obtain ⟨s1, s2⟩ := store_news w1 coz coz rfl rfl coz_one coz_one
    obtain ⟨b1, _, _⟩ := con_news w1 coz coz
    have HBF := Lib.hid (HB1.out.trans (b1.mono HB1.out.size))
    clear hk hk0 b1 HER hS HMR
    go_wp2_with fail
    go_ret2
    exact ⟨fun n hn => (by cases hn), fun k hk => (by cases hk; rfl), HBF.out⟩
  | ok c =>
    rcases hk with ⟨c', d, hk, rfl, h1, h2⟩ | ⟨hk, _⟩
    rotate_left
    · cases hk
    simp only [moreT, Except.ok.injEq, Prod.mk.injEq] at hk
    obtain ⟨rfl, rfl⟩ := hk
    have hs := hS c rfl
    obtain ⟨q1, q2⟩ := h1.one
    obtain ⟨q3, q4⟩ := h2.one
    obtain ⟨s1, s2⟩ := store_news w1 o m q1 q3 q2 q4
    obtain ⟨b1, _, g2⟩ := con_news w1 o m
    obtain ⟨rv, bv, rfl, h3, h4⟩ := h2.ex
    obtain ⟨na, nc, rfl⟩ := own_slice h3
    obtain ⟨nb, nd, rfl⟩ := own_slice h4
    simp only [conV] at *
    generalize hSS : streamOf (packV fmt len blk (c.recs ++ rs)) = S at *
    have z0 : ((0 : Nat) : Int) = 0 := rfl
    rw [z0] at s2 b1 g2 ⊢
    have dl2 := loadCon_at g2 rfl
    have HBF := Lib.hid (HB1.out.trans (b1.mono HB1.out.size))
    have HSC := Lib.hid (fun W => sectors_any 0 na nb (c.recs ++ rs).length nc (packV fmt len blk (c.recs ++ rs)).length nd S W hs)
    generalize hTT : secA S.length S = TT at HSC
    have HTT := Lib.hid hTT
    have HSS := Lib.hid hSS
    have htl : TT.length ≤ 1000000000 := by rw [← hTT]; exact Nat.le_trans (secA_le _ _) hs
    generalize (packV fmt len blk (c.recs ++ rs)).length = PL at *
    generalize (c.recs ++ rs).length = RL at *
    clear hTT hSS h3 h4 h1 h2 b1 g2 q1 q2 q3 q4 HER hS HMR
    go_wp2_with fail
    refine (HSC.out _).mono ?_
    rintro e w4 ⟨v4, rfl, ho4, hb4⟩
    obtain ⟨sa, sc, rfl⟩ := own_slice ho4
    have HB4 := Lib.hid (HBF.out.trans (hb4.mono HBF.out.size))
    clear ho4 hb4
    go_wp2_with fail
    go_ret2
    exact ⟨fun n hn => (by
      simp only [needT, Except.ok.injEq] at hn
      rw [HSS.out, HTT.out] at hn
      subst hn
      simp), fun k hk => (by cases hk), HB4.out⟩

end Go.Proofs.YthkpcalopmddpaaGreatDoor
