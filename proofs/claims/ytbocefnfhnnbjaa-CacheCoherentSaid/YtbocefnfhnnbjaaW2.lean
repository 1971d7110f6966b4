/-
  Walks of the directory: forget, with whatever function decides. No condition.
-/
import Derived.Test.YtbocefnfhnnbjaaW1
namespace Go.Proofs.Ytbocefnfhnnbjaa
open Go.RowKit Go.Sort

/-- What is left of the registrations when those in S have been asked. -/
def leftG (G : List ((Int × Int × Int) × Unit)) (acc : Int × Int × Int → Bool) (S : List (Int × Int × Int)) : List ((Int × Int × Int) × Unit) := G.filter fun p => !(decide (p.1 ∈ S) && acc p.1)
theorem leftG_nil (G acc) : leftG G acc [] = G := by unfold leftG; rw [List.filter_eq_self]; simp
theorem leftG_del (G acc S) (k : Int × Int × Int) (h : acc k = true) : adel (leftG G acc S) k = leftG G acc (k :: S) := by
  unfold leftG adel
  rw [List.filter_filter]
  apply List.filter_congr
  intro p _
  by_cases e : p.1 = k
  · subst e; simp [h]
  · simp [e]
theorem leftG_keep (G acc S) (k : Int × Int × Int) (h : acc k = false) : leftG G acc S = leftG G acc (k :: S) := by
  unfold leftG
  apply List.filter_congr
  intro p _
  by_cases e : p.1 = k
  · subst e; simp [h]
  · simp [e]
theorem leftG_end (G acc S) (h : ∀ p ∈ leftG G acc S, p.1 ∈ S) : leftG G acc S = G.filter (fun p => !acc p.1) := by
  unfold leftG at h ⊢
  apply List.filter_congr
  intro p hp
  by_cases e : p.1 ∈ S
  · simp [e]
  · have := h p (List.mem_filter.2 ⟨hp, by simp [e]⟩)
    exact absurd this e

theorem filter_le {α : Type} (l : List α) (p q : α → Bool) (h : ∀ x ∈ l, p x = true → q x = true) : (l.filter p).length ≤ (l.filter q).length := by
  induction l with
  | nil => simp
  | cons a l ih =>
    have i := ih (fun x hx => h x (List.mem_cons_of_mem _ hx))
    rw [List.filter_cons, List.filter_cons]
    have h0 := h a (by simp)
    by_cases hp : p a = true
    · rw [if_pos hp, if_pos (h0 hp)]; simp; exact i
    · rw [if_neg hp]
      by_cases hq : q a = true
      · rw [if_pos hq]; simp; omega
      · rw [if_neg hq]; exact i
theorem filter_lt {α : Type} {l : List α} {p q : α → Bool} (h : ∀ x ∈ l, p x = true → q x = true) {a : α} (ha : a ∈ l) (hq : q a = true) (hp : p a = false) : (l.filter p).length < (l.filter q).length := by
  induction l with
  | nil => simp at ha
  | cons b l ih =>
    rw [List.filter_cons, List.filter_cons]
    rcases List.mem_cons.1 ha with rfl | hm
    · rw [if_neg (by simp [hp]), if_pos hq]
      have := filter_le l p q (fun x hx => h x (List.mem_cons_of_mem _ hx))
      simp; omega
    · have i := ih (fun x hx => h x (List.mem_cons_of_mem _ hx)) hm
      have h0 := h b (by simp)
      by_cases hpb : p b = true
      · rw [if_pos hpb, if_pos (h0 hpb)]; simp; exact i
      · rw [if_neg hpb]
        by_cases hqb : q b = true
        · rw [if_pos hqb]; simp; omega
        · rw [if_neg hqb]; exact i
theorem left_lt {κ ν : Type} [DecidableEq κ] {m : List (κ × ν)} {S : List κ} {k : κ} {v : ν} (hm : (k, v) ∈ m) (hk : k ∉ S) :
    (m.filter (fun p => decide (p.1 ∉ k :: S))).length < (m.filter (fun p => decide (p.1 ∉ S))).length :=
  filter_lt (fun x _ hx => by simp at hx ⊢; exact hx.2) hm (by simpa using hk) (by simp)
theorem adel_left {κ ν : Type} [DecidableEq κ] (m : List (κ × ν)) (k : κ) (S : List κ) :
    ((adel m k).filter (fun p => decide (p.1 ∉ S))).length ≤ (m.filter (fun p => decide (p.1 ∉ S))).length := by
  unfold adel
  rw [List.filter_filter]
  exact filter_le _ _ _ (fun x _ hx => by simp at hx ⊢; exact hx.1)

set_option maxHeartbeats 1000000 in
set_option maxRecDepth 100000 in
theorem forget_any (w : World) (db rb cb gb : Nat) (c : Int) (R C G) (n : FuncId) (cap : Array Value) (acc : Int × Int × Int → Bool) (h : Dir w db rb cb gb c R C G)
    (hacc : ∀ (w' : World) (x : Int × Int × Int), Only [gb] w w' → okR x → Calls Try.prog n (#[kReg x] ++ cap) w' fun e w'' => e = .returned (.bool (acc x)) ∧ Below w'.heap.size w' w'')
    (hcall : ∀ (args : Array Value) (w' : World), (callFunc n args).run Try.prog w' = .ok (.enter n args) w') :
    Calls Try.prog 30 #[.pointer (some ⟨db, 0, none⟩), .func (.func n) #[] cap] w fun e w' =>
      e = .returned (.tuple #[]) ∧ Dir w' db rb cb gb c R C (G.filter fun p => !acc p.1) ∧ Only [gb] w w' := by
  have c3 : w.cell? ⟨db, 3, none⟩ = some (.map (some gb)) := cell_at (i := 3) h.blk rfl
  have HA := Lib.hid hacc
  clear hacc
  go_enter Try.func30, Try.ntmps30
  go_wp2_with (at_range; refine wpList_arange rfl _ rfl Try.underlying71 h.reg rfl ?_; intro w1 hr1 hg1 hs1)
  go_frame
  go_loopw [4] (fun _ wr => ∃ S, arange wr gb w.heap.size kReg vUnit okR (leftG G acc S) S ∧ Only [gb] w wr) (fun _ wr => wr.rangeLeft gb w.heap.size)
  case atStart => exact ⟨[], by rw [leftG_nil]; exact hr1, (Only.refl _ _).grown hg1 (fun k hk => by simp at hk)⟩
  case round =>
    clear hr1 hg1 hs1
    obtain ⟨S, hr, ho⟩ := hrel
    go_wp2_with (at_next; refine wpList_anext rfl _ rfl hr rfl ?_ ?_)
    · intro hdone
      have hend : leftG G acc S = G.filter (fun p => !acc p.1) := leftG_end G acc S (fun p hp => hdone p.1.1 p.1.2.1 p.1.2.2 p.2 hp)
      have HE := Lib.hid hend
      clear hend hdone
      go_wp2
      go_end0
      refine ⟨rfl, ?_, ho⟩
      rw [← HE.out]
      exact ⟨ho.heap h.blk (by simpa using amap_ne_cells h.reg h.blk), amap_keep h.ren (ho.block _ (amap_lt h.ren) (by simpa using h.rg)), amap_keep h.cha (ho.block _ (amap_lt h.cha) (by simpa using h.cg)), arange_amap hr, h.rc, h.rg, h.cg⟩
    · intro s id pg v w2 hm hz hk hr2 hg2 hs2 hen
      simp only [kReg, vUnit] at hen
      have HM := Lib.hid hm
      have HZ := Lib.hid hz
      clear hm hz
      have ho2 : Only [gb] w w2 := ho.grown hg2 (fun k hk => by simp at hk; subst hk; right; omega)
      have ho3 := ho2.alloc (.cells #[.int .i64 s, .int .i64 id, .int .i64 pg] 80)
      have hx : (w2.alloc (.cells #[.int .i64 s, .int .i64 id, .int .i64 pg] 80)).heap[wr.heap.size]? = some (.cells #[.int .i64 s, .int .i64 id, .int .i64 pg] 80 (0, 0)) := by rw [← hs2]; exact heap_alloc_new _ _
      have hr3 : arange (w2.alloc (.cells #[.int .i64 s, .int .i64 id, .int .i64 pg] 80)) gb w.heap.size kReg vUnit okR (leftG G acc S) ((s, id, pg) :: S) :=
        arange_keep hr2 (halloc _ _ (amap_lt (arange_amap hr2))) (halloc _ _ (arange_lt hr2))
      have hdb : db ∉ [gb] := by simpa using amap_ne_cells h.reg h.blk
      have HX := Lib.hid hx
      clear hx
      go_wp2_with fail
      generalize w2.alloc (.cells #[.int .i64 s, .int .i64 id, .int .i64 pg] 80) = w3 at ho3 HX hr3 ⊢
      refine (HA.out w3 (s, id, pg) ho3 hk).mono ?_
      rintro e w4 ⟨rfl, hb4⟩
      have ho4 := ho3.step_below hb4
      have hx4 := heap_below hb4 (lt_of_block HX.out) HX.out
      have hr4 := arange_keep hr3 (hb4.block _ (amap_lt (arange_amap hr3))) (hb4.block _ (arange_lt hr3))
      have hd4 := ho4.heap h.blk hdb
      have x0 := cell_at (i := 0) hx4 rfl
      have x1 := cell_at (i := 1) hx4 rfl
      have x2 := cell_at (i := 2) hx4 rfl
      have d3 := cell_at (i := 3) hd4 rfl
      clear hx4 hd4 hr3 hr2 hen hg2 ho2 ho3
      cases hac : acc (s, id, pg)
      · have HC := Lib.hid hac
        clear hac
        go_wp2
        go_roundw
        case rel => exact ⟨(s, id, pg) :: S, by rw [← leftG_keep G acc S _ HC.out]; exact hr4, ho4⟩
        case measure => rw [arange_left hr, arange_left hr4]; exact left_lt HM.out HZ.out
      · have HC := Lib.hid hac
        clear hac
        go_wp2
        go_still_tail 5, (by kernel_rfl)
        refine wpList_adelete_in rfl _ _ rfl keyReg Try.underlying71 (arange_keep (w' := w4.drew) hr4 rfl rfl) rfl (s, id, pg) rfl hk ?_
        intro w5 hr5 hg5 hs5
        have ho5 : Only [gb] w w5 := ho4.drew.grown hg5 (fun k hk => by simp at hk; subst hk; simp)
        clear x0 x1 x2 d3 hg5
        go_wp2
        go_roundw
        case rel =>
          have hr6 : arange w5 gb w.heap.size kReg vUnit okR (leftG G acc ((s, id, pg) :: S)) ((s, id, pg) :: S) := by rw [← leftG_del G acc S _ HC.out]; exact hr5
          first | exact ⟨_, hr6, ho5⟩ | exact ⟨_, hr6⟩
        case measure => rw [arange_left hr, arange_left hr5]; exact Nat.lt_of_le_of_lt (adel_left _ _ _) (left_lt HM.out HZ.out)

end Go.Proofs.Ytbocefnfhnnbjaa
