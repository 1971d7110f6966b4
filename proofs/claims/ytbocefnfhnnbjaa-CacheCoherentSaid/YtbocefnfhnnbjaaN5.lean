/-
  The pool of pages: use. No condition.
-/
import Derived.Test.YtbocefnfhnnbjaaN4
import Derived.Deep.AppendLies
namespace Go.Proofs.Ytbocefnfhnnbjaa
open Go.RowKit Go.Sort

theorem info_pl : (Try.prog.info? 104).map (fun i => (i.zero, i.size, i.bytes)) = some (some (.agg #[.int .i64 0, .int .i64 0]), 2, 16) := by kernel_rfl
theorem info_prt {o : Option TypeInfo} {z : Value} {s b : Nat} (h : o.map (fun i => (i.zero, i.size, i.bytes)) = some (some z, s, b)) : ∃ i, o = some i ∧ i.zero = some z ∧ i.size = s ∧ i.bytes = b := by
  cases o with
  | none => simp at h
  | some i => simp at h; exact ⟨i, rfl, h.1, h.2.1, h.2.2⟩

theorem news_pl {w : World} {g : Nat} {cs : Array Value} {t : TypeId} {fr : Nat × Nat} (hg : w.heap[g]? = some (.cells cs t fr)) : ∀ (j : Nat) (u : Value), cs.toList[j]? = some u → w.cell? ((⟨g, 0, none⟩ : Addr).add j) = some u := by
  intro j u hj
  have : (⟨g, 0, none⟩ : Addr).add j = ⟨g, j, none⟩ := by unfold Addr.add; split <;> simp_all
  rw [this]
  exact cell_at hg (by simpa using hj)

set_option maxRecDepth 100000 in
set_option maxHeartbeats 8000000 in
theorem use_any (w : World) (base pb mb : Nat) (oa : Option Addr) (oc : Nat) (cap h m : Int) (M : List (Pl × Ct)) (O : List Pl) (x : Pl) (c : Ct)
    (hp : PoolAt w base pb mb oa oc cap h m M O) (hl : O.length ≤ 100000) (hx : okP x) :
    Calls Try.prog 45 #[.pointer (some ⟨pb, 0, none⟩), kPlace x, vCt c] w fun e w' => e = .returned (.tuple #[]) ∧ ∃ (oa' : Option Addr) (oc' : Nat) (M' : List (Pl × Ct)), PoolAt w' base pb mb oa' oc' cap h m M' (O.filter (fun y => !isAt x y) ++ [x]) ∧ (∀ k, alook M' k = if x = k then some c else alook M k) ∧ Only [pb, mb, obOf w oa] w w' ∧ (∀ q, oa' = some q → q.block = obOf w oa ∨ w.heap.size ≤ q.block) := by
  obtain ⟨hob1, hob2, hob3⟩ := hp.ob
  obtain ⟨i0, hi0, hz0, hz1, hz2⟩ := info_prt info_pl
  obtain ⟨x1, x2⟩ := x
  obtain ⟨d, v⟩ := c
  obtain ⟨W1, hW1⟩ : ∃ W1, W1 = (w.alloc (.cells #[.int .i64 x1, .int .i64 x2] 104)).alloc (.cells #[.string d, .int .i64 v] 106) := ⟨_, rfl⟩
  have hb1 : Below w.heap.size w W1 := by rw [hW1]; exact ((Below.refl _ _).alloc (Nat.le_refl _) _).alloc (by simp) _
  have hx1 : W1.heap[w.heap.size]? = some (.cells #[.int .i64 x1, .int .i64 x2] 104 (0, 0)) := by rw [hW1, halloc _ _ (by simp)]; exact heap_alloc_new w _
  have hc1 : W1.heap[w.heap.size + 1]? = some (.cells #[.string d, .int .i64 v] 106 (0, 0)) := by
    rw [hW1]
    have := heap_alloc_new (w.alloc (.cells #[.int .i64 x1, .int .i64 x2] 104)) (.cells #[.string d, .int .i64 v] 106)
    rwa [show (w.alloc (.cells #[.int .i64 x1, .int .i64 x2] 104)).heap.size = w.heap.size + 1 by simp] at this
  have hs1 : W1.heap.size = w.heap.size + 2 := by rw [hW1]; simp
  have hp1 := hp.below hb1
  have hpl := lt_of_block hp.blk
  have hml := amap_lt hp.pages
  have hobe : oa = none ∨ obOf W1 oa = obOf w oa := by cases oa with
    | none => exact Or.inl rfl
    | some q => exact Or.inr rfl
  have hobn : ∀ i, i ≤ w.heap.size + 1 → w.heap.size ≤ i → i ≠ obOf W1 oa := by
    intro i h1 h2
    rcases hob3 with rfl | hob3
    · simp [obOf]; omega
    · rcases hobe with rfl | e
      · simp [obOf]; omega
      · rw [e]; omega
  have hask : AsksO [mb, obOf W1 oa] W1 59 #[.pointer (some ⟨w.heap.size, 0, none⟩)] (isAt (x1, x2)) :=
    ⟨fun W y hW hy => useAt_any W w.heap.size (x1, x2) y (hW.heap hx1 (by simp only [List.mem_cons, List.not_mem_nil, or_false, not_or]; exact ⟨by omega, hobn _ (by omega) (by omega)⟩)), fun _ _ => rfl⟩
  have HFG := Lib.hid (poolForget_any W1 base pb mb oa oc cap h m M O 59 #[.pointer (some ⟨w.heap.size, 0, none⟩)] (isAt (x1, x2)) hp1 hl hask)
  have hmf : ∀ (fn : Fn) (first cap : Array Value) (W : World), (Instr.makeFunc fn first cap).run Try.prog W = .ok (.func fn first cap) W := fun _ _ _ _ => rfl
  have HW1 := Lib.hid hW1
  unfold kPlace vCt
  go_enter Try.func45, Try.ntmps45
  go_wp2_with fail
  rw [← HW1.out]
  refine HFG.out.mono ?_
  rintro e w2 ⟨n, M1, rfl, hp2, hs2, ho2⟩
  have hx2 := ho2.heap hx1 (by simp only [List.mem_cons, List.not_mem_nil, or_false, not_or]; exact ⟨by omega, by omega, hobn _ (by omega) (by omega)⟩)
  have hc2 := ho2.heap hc1 (by simp only [List.mem_cons, List.not_mem_nil, or_false, not_or]; exact ⟨by omega, by omega, hobn _ (by omega) (by omega)⟩)
  have y0 := cell_at (i := 0) (v := .int .i64 x1) hx2 rfl
  have y1 := cell_at (i := 1) (v := .int .i64 x2) hx2 rfl
  have z0 := cell_at (i := 0) (v := .string d) hc2 rfl
  have z1 := cell_at (i := 1) (v := .int .i64 v) hc2 rfl
  have p1 := cell_at (i := 1) (v := .map (some mb)) hp2.blk rfl
  have HP2 := Lib.hid hp2
  have HX2 := Lib.hid hx2
  have HS2 := Lib.hid hs2
  have HO2 := Lib.hid ho2
  have HXO := Lib.hid hx
  clear hx2 hc2 hp2 hs2 ho2 hx1 hc1 hp1 hask hx
  go_wp2_with fail
  go_still_tail 6, (by kernel_rfl)
  refine wpList_aupdate rfl _ _ _ rfl keyAt Try.underlying90 (amap_keep (w' := w2.drew) HP2.out.pages rfl) rfl (x1, x2) rfl HXO.out (d, v) rfl ?_
  intro w3 hm3 hg3 hs3
  have ho23 : Only [mb] w2 w3 := ((Only.refl [mb] w2).drew).grown hg3 (fun k hk => by obtain rfl := Option.some.inj hk; exact Or.inl (by simp))
  have hp3 : w3.heap[pb]? = _ := ho23.heap HP2.out.blk (by simpa using HP2.out.ne)
  have hor3 : Ord w3 base oa oc (O.filter (fun y => !isAt (x1, x2) y)) := pl_only HP2.out.ord ho23 (fun k hk => by
    cases oa with
    | none => simp [Value.ownBlock] at hk
    | some q =>
      obtain rfl : q.block = k := by simpa [Value.ownBlock] using hk
      have := hob2
      simpa [obOf] using this)
  have hx3 := ho23.heap HX2.out (by simp; omega)
  have q0 := cell_at (i := 0) (v := .int .i64 x1) hx3 rfl
  have q1 := cell_at (i := 1) (v := .int .i64 x2) hx3 rfl
  have q2 := cell_at (i := 2) hp3 rfl
  have HP3 := Lib.hid hp3
  have hlow : Ord w3.drew base oa oc (O.filter (fun y => !isAt (x1, x2) y)) := pl_below hor3 ((Below.refl _ _).drew)
  have HM3 := Lib.hid hm3
  have HO3 := Lib.hid (HO2.out.trans (ho23.mono (fun k hk _ => by obtain rfl := List.mem_singleton.1 hk; simp)))
  have hbs : base ≤ w3.heap.size := Nat.le_trans HP2.out.bs ho23.size
  have hfl : (O.filter (fun y => !isAt (x1, x2) y)).length ≤ O.length := List.length_filter_le _ _
  have HBB := Lib.hid hb1
  clear y0 y1 z0 z1 p1 hm3 hg3 hs3 ho23 hp3 hor3 hx3 hW1 hb1
  have hbx : Below w3.heap.size w3 (w3.alloc (.cells #[.int .i64 x1, .int .i64 x2] 104)) := (Below.refl _ _).alloc (Nat.le_refl _) _
  have q2a := (hbx.cell (p := ⟨pb, 2, none⟩) (block_lt_of_cell q2)).trans q2
  have HLA := Lib.hid (show (w3.alloc (.cells #[.int .i64 x1, .int .i64 x2] 104)).drew.ownsRow base 104 2 (.slice oa (O.filter (fun y => !isAt (x1, x2) y)).length oc) (O.filter (fun y => !isAt (x1, x2) y)).length (plF (O.filter (fun y => !isAt (x1, x2) y))) from pl_below hlow (show Below w3.drew.heap.size w3.drew (w3.alloc (.cells #[.int .i64 x1, .int .i64 x2] 104)).drew from ⟨hbx.os, hbx.tape, hbx.output, hbx.size, hbx.block⟩))
  have HBX := Lib.hid hbx
  have hbsa : base ≤ (w3.alloc (.cells #[.int .i64 x1, .int .i64 x2] 104)).drew.heap.size := Nat.le_trans hbs hbx.size
  clear hlow hbx
  generalize hO1 : O.filter (fun y => !isAt (x1, x2) y) = O1 at HLA hfl HP3 q2 q2a HP2 HS2
  have HO1 := Lib.hid hO1
  clear hO1
  go_wp2_with fail
  go_region_law
      (refine step_append_lies _ rfl (.tmp 19) (.tmp 21) 91 rfl base 104 i0 (.agg #[.int .i64 0, .int .i64 0]) 2 16 Try.underlying91 hi0 hz0 hz1 hz2 rfl (by decide) _ _ _ rfl HLA.out _ 1 1 [.int .i64 x1, .int .i64 x2] rfl rfl (news_pl (cs := #[.int .i64 x1, .int .i64 x2]) (show (w3.alloc (.cells #[.int .i64 x1, .int .i64 x2] 104)).drew.heap[w3.heap.size]? = _ from heap_alloc_new w3 _)) (by simp [Value.oneCell']) (by decide) (by unfold maxLen; omega) (by omega) hbsa _ rfl ?_
       intro g6 c6 w6 ho6 hg6 hor6 hlt6
       have HO6 := Lib.hid ho6
       have HG6 := Lib.hid hg6
       have HOR := Lib.hid hor6
       have hp6 := (hg6.block pb (Nat.lt_of_lt_of_le (lt_of_block HP3.out) HBX.out.size) (fun e => by
         have h1 := pl_own HLA.out e.symm
         have := HP2.out.pl
         omega)).trans (show (w3.alloc (.cells #[.int .i64 x1, .int .i64 x2] 104)).drew.heap[pb]? = _ from (HBX.out.block pb (lt_of_block HP3.out)).trans HP3.out)
       have r2 := cell_at (i := 2) hp6 rfl
       have rz := frozen_of_row _ _ 2 _ _ hp6
       have HP6 := Lib.hid hp6
       clear ho6 hg6 hor6 hp6)
  all_goals
    go_end0
    obtain ⟨W7, hW7⟩ : ∃ W7, W7 = w6.setCell ⟨pb, 2, none⟩ (.slice (some ⟨g6, 0, none⟩) (O1.length + 1) c6) := ⟨_, rfl⟩
    rw [← hW7]
    have hN7 : Only [pb] w6 W7 := by rw [hW7]; exact (Only.refl _ w6).setCell (Or.inl (by simp)) _
    have hlen : (O1 ++ [((x1 : Int), (x2 : Int))]).length = O1.length + 1 := by simp
    have hblk : W7.heap[pb]? = some (.cells #[.int .i64 cap, .map (some mb), .slice (some ⟨g6, 0, none⟩) (O1 ++ [((x1 : Int), (x2 : Int))]).length c6, .int .i64 h, .int .i64 m] 93 (0, 0)) := by rw [hW7, heap_setCell_same _ _ _ _ _ _ HP6.out, hlen]; rfl
    have hgb : base ≤ g6 := pl_own HO6.out rfl
    have hpb := HP2.out.pl
    have hmbb := HP2.out.ml
    have hpages : amap W7 mb kPlace vCt okP (aset M1 (x1, x2) (d, v)) := by
      have h1 := amap_keep (w' := (w3.alloc (.cells #[.int .i64 x1, .int .i64 x2] 104)).drew) HM3.out (HBX.out.block mb (amap_lt HM3.out))
      have h2 := amap_keep h1 (HG6.out.block mb (amap_lt h1) (fun e => by
        have h1 := pl_own HLA.out e.symm
        omega))
      exact amap_keep h2 (hN7.block mb (amap_lt h2) (by have := HP2.out.ne; simp; omega))
    have hord : Ord W7 base (some ⟨g6, 0, none⟩) c6 (O1 ++ [((x1 : Int), (x2 : Int))]) := by
      have h1 : Ord w6 base (some ⟨g6, 0, none⟩) c6 (O1 ++ [((x1 : Int), (x2 : Int))]) := by
        unfold Ord
        rw [hlen, plF_append]
        exact HO6.out
      exact pl_only h1 hN7 (fun k hk => by
        obtain rfl : g6 = k := by simpa [Value.ownBlock] using hk
        simp; omega)
    have hok : ∀ y ∈ O1 ++ [((x1 : Int), (x2 : Int))], okP y := fun y hy => by
      rcases List.mem_append.1 hy with hy | hy
      · exact HP2.out.ok y hy
      · obtain rfl := List.mem_singleton.1 hy
        exact HXO.out
    have hsz3 : w.heap.size ≤ w3.heap.size := Nat.le_trans HBB.out.size HO3.out.size
    have hsz6 : w3.heap.size ≤ w6.heap.size := Nat.le_trans HBX.out.size HG6.out.size
    have hlook : ∀ k, alook (aset M1 (x1, x2) (d, v)) k = if (x1, x2) = k then some (d, v) else alook M k := fun k => by
      rw [alook_aset]
      by_cases hk : ((x1 : Int), (x2 : Int)) = k
      · rw [if_pos hk, if_pos hk]
      · rw [if_neg hk, if_neg hk, HS2.out k, if_neg]
        rintro ⟨_, e⟩
        exact hk (of_decide_eq_true e).symm
    have hown : ∀ k, (Value.slice oa O1.length oc).ownBlock = some k → k = obOf w oa := fun k hk => by
      cases oa with
      | none => simp [Value.ownBlock] at hk
      | some q => simpa [Value.ownBlock, obOf] using hk.symm
    have hon : Only [pb, mb, obOf w oa] w W7 := by
      have h1 : Only [pb, mb, obOf w oa] w w3 := (Only.of_below HBB.out).then HO3.out (fun i hi => by
        simp only [List.mem_cons, List.not_mem_nil, or_false] at hi ⊢
        rcases hi with rfl | rfl | rfl
        · exact Or.inl (Or.inl rfl)
        · exact Or.inl (Or.inr (Or.inl rfl))
        · rcases hobe with rfl | e
          · exact Or.inr (by simp [obOf]; omega)
          · exact Or.inl (Or.inr (Or.inr e)))
      have h2 : Only [pb, mb, obOf w oa] w (w3.alloc (.cells #[.int .i64 x1, .int .i64 x2] 104)).drew := (h1.alloc _).drew
      have h3 := h2.grown HG6.out (fun k hk => Or.inl (by rw [hown k hk]; simp))
      exact h3.trans (hN7.mono (fun k hk _ => by obtain rfl := List.mem_singleton.1 hk; simp))
    have hbl : ∀ q, (some (⟨g6, 0, none⟩ : Addr)) = some q → q.block = obOf w oa ∨ w.heap.size ≤ q.block := fun q hq => by
      obtain rfl := Option.some.inj hq
      rcases HOR.out with e | e
      · exact Or.inl (hown g6 e)
      · refine Or.inr ?_
        show w.heap.size ≤ g6
        rw [e]
        exact Nat.le_trans hsz3 HBX.out.size
    rw [HO1.out]
    exact ⟨rfl, some ⟨g6, 0, none⟩, c6, _, ⟨hblk, hpages, hord, hok, HP2.out.ne, hpb, hmbb, Nat.le_trans hbs (Nat.le_trans hsz6 hN7.size)⟩, hlook, hon, hbl⟩

end Go.Proofs.Ytbocefnfhnnbjaa
