/-
  The walk of the reference's Change. Conditions of the contract: at most ten thousand versions, entries and pages, a counter of at most 100000.
-/
import Derived.Test.YtbocefnfhnnbjaaR10
namespace Go.Proofs.Ytbocefnfhnnbjaa
open Go.RowKit Go.Sort
set_option maxHeartbeats 16000000 in
set_option maxRecDepth 100000 in
theorem rchange_any (w : World) (B : Nat) (x : RS) (id : Int) (pa : Option Addr) (pcap B' : Nat) (l : List Int) (h : x.Ok w B) (hB : B ≤ w.heap.size) (hid : I64 id) (hc0 : 0 ≤ x.c) (hc1 : x.c ≤ 100000)
    (hl : Ints w B' pa l) (hB' : B' ≤ w.heap.size) (hsz : x.V.length + l.length ≤ 10000) :
    Calls Try.prog 14 #[x.val, .int .i64 id, .slice pa l.length pcap] w fun r w' =>
      ∃ y : RS, y.c = x.c + 1 ∧ y.V = chgV x.V id (x.c + 1) l ∧ y.E = chgE x.E id l ∧ r = .returned y.val ∧ RS.Ok w' w'.heap.size y ∧ Below w.heap.size w w' := by
  obtain ⟨c, va, vcap, V, ea, ecap, E⟩ := x
  simp only at hc0 hc1 hsz ⊢
  have hcn : I64 (c + 1) := i64_of (by omega) (by omega)
  have hel : E.length ≤ 10000 := h.el
  obtain ⟨i0, hi0, hz0, hz1, hz2⟩ := info_parts info86
  have hbS : Below w.heap.size w ((w.alloc (.cells #[.int .i64 (c + 1), .slice va V.length vcap, .slice ea E.length ecap] 30)).alloc (.cells #[.int .i64 0, .slice none 0 0, .slice none 0 0] 30)) := ((Below.refl _ _).alloc (by simp) _).alloc (by simp) _
  have hS1 := heap_alloc2_old w (.cells #[.int .i64 (c + 1), .slice va V.length vcap, .slice ea E.length ecap] 30) (.cells #[.int .i64 0, .slice none 0 0, .slice none 0 0] 30)
  have hS2 := heap_alloc2_new w (.cells #[.int .i64 (c + 1), .slice va V.length vcap, .slice ea E.length ecap] 30) (.cells #[.int .i64 0, .slice none 0 0, .slice none 0 0] 30)
  have hC0 := chgAt_zero (n := c + 1) (id := id) (l := l) (va := va) (vcap := vcap) (ea := ea) (ecap := ecap) (U := V) (F := E) (w := w) ⟨hbS, hS1, hS2, TrisF.of (h.ver.below (hbS.mono hB)) hB (Nat.le_trans hB hbS.size), TrisF.of (h.ent.below (hbS.mono hB)) hB (Nat.le_trans hB hbS.size), h.vsh, h.esh⟩
  have HC := Lib.hid hC0
  clear hbS hS1 hS2 hC0
  unfold RS.val
  go_enter Try.func14, Try.ntmps14
  go_wp2_with fail
  go_loopw [7] (fun k wr => ∃ j : Nat, j ≤ l.length ∧ k = .int .i64 j ∧ ChgIs w (c + 1) (chgV V id (c + 1) (l.take j)) (chgE E id (l.take j)) wr) (fun k _ => l.length - (intOf k).toNat)
  case atStart => exact ⟨0, by omega, rfl, HC.out⟩
  case round =>
    clear HC
    obtain ⟨j, hj, rfl, va1, vcap1, ea1, ecap1, hC⟩ := hrel
    by_cases hlt : j < l.length
    · obtain ⟨pb, po, rfl, hpb, p00⟩ := hl.get hlt
      have p0 := (hC.bel.cell (p := ⟨pb, po + j, none⟩) (Nat.lt_of_lt_of_le hpb hB')).trans p00
      have hxi := hl.wf _ (List.getElem_mem hlt)
      have hts := Lib.hid (take_snoc' l j hlt)
      have hj0 : (0 : Int) ≤ (j : Int) := by omega
      have hj1 : (j : Int) < (l.length : Int) := by omega
      have hUl : (chgV V id (c + 1) (l.take j)).length ≤ 10000 := by rw [chgV_length, List.length_take]; omega
      have hFl : (chgE E id (l.take j)).length ≤ 10000 := Nat.le_trans (chgE_length _ _ _) hel
      have HV := Lib.hid (show chgV V id (c + 1) (l.take (j + 1)) = chgV V id (c + 1) (l.take j) ++ [(id, l[j], c + 1)] by rw [hts.out, chgV_snoc])
      have HE := Lib.hid (show chgE E id (l.take (j + 1)) = (chgE E id (l.take j)).filter (keepE id l[j]) by rw [hts.out, chgE_snoc])
      have HW := Lib.hid (show okR (id, l[j], c + 1) from ⟨hid, hxi, hcn⟩)
      have hpz : pb < wr.heap.size := by have := hC.bel.size; omega
      generalize chgV V id (c + 1) (l.take j) = U at hC hUl HV
      generalize chgE E id (l.take j) = F at hC hFl HE
      generalize c + 1 = n at hC HV HW ⊢
      generalize l[j] = x at p0 p00 HV HE HW hxi
      have HP := Lib.hid p00
      clear p00
      clear hts
      go_upto_region 5 with fail
      go_cut [] (fun wx => ChgIs w n (U ++ [(id, x, n)]) F wx)
      case first =>
        generalize wr = wz at hC p0 hpz ⊢
        have g1 := hC.st
        have hvsh := hC.vsh
        have hVz := hC.ver.tris
        obtain ⟨y0, y1, -⟩ := k3_row g1
        have y1a : ∀ o, (wz.alloc o).cell? ⟨w.heap.size, 1, none⟩ = some (.slice va1 U.length vcap1) := fun o => cell_alloc1 y1
        have y1b : ∀ o o', ((wz.alloc o).alloc o').cell? ⟨w.heap.size, 1, none⟩ = some (.slice va1 U.length vcap1) := fun o o' => cell_alloc1 (y1a o)
        have y0a : ∀ o, (wz.alloc o).cell? ⟨w.heap.size, 0, none⟩ = some (.int .i64 n) := fun o => cell_alloc1 y0
        have p0a : ∀ o, (wz.alloc o).cell? ⟨pb, po + j, none⟩ = some (.int .i64 x) := fun o => cell_alloc1 p0
        have hwf2 : ∀ y ∈ U ++ [(id, x, n)], okR y := fun y hy => by
          rcases List.mem_append.1 hy with h1 | h1
          · exact hC.ver.wf y h1
          · simp at h1; subst h1; exact HW.out
        have hlast := fun (va2 : Option Addr) (vc2 : Nat) (w2 : World) (hb : Below wz.heap.size wz w2) (ho : w2.ownsRow wz.heap.size 86 3 (.slice va2 (U ++ [(id, x, n)]).length vc2) (U ++ [(id, x, n)]).length (flat3 (U ++ [(id, x, n)]))) => hC.setV (k := U.length + 1) hb (by simp) (by rw [show U.length + 1 = (U ++ [(id, x, n)]).length by simp]; exact ho) hwf2
        have HL := Lib.hid hlast
        clear hlast hC
        go_region_law
          ((first
            | (refine step_append_row wz.heap.size 86 i0 (.agg #[.int .i64 0, .int .i64 0, .int .i64 0]) 3 24 hi0 hz0 hz1 hz2 rfl (by decide) (by decide) rfl (.tmp 18) (.tmp 20) 27 rfl Try.underlying27 _ rfl 0 [] ?own va1 U.length vcap1 rfl (flat3 U) (flat3_length U) ?src (flat3_one' U) ?small ?base ?_
               case own => exact (lit0t (W := wz) 86 rfl (Nat.le_refl _)).drew
               case src => exact tris_any (hVz.below bel_a1) hvsh
               case small => omega
               case base => first | omega | (simp <;> omega)
               intro v1 w1' ho1 hg1
               have hb1 : Below wz.heap.size wz w1' := (bel_a1 (w := wz)).grown hg1 (by simp <;> omega) (fun k hk => by have : wz.heap.size = k := Option.some.inj hk; omega)
               skip
               have hs1 := hb1.size
               have y0' := cell_at (i := 0) (heap_below hb1 (lt_of_block g1) g1) rfl
               have p0' := (hb1.cell (p := ⟨pb, po + j, none⟩) hpz).trans p0
               clear hg1)
            | (refine step_append_row wz.heap.size 86 i0 (.agg #[.int .i64 0, .int .i64 0, .int .i64 0]) 3 24 hi0 hz0 hz1 hz2 rfl (by decide) (by decide) rfl (.tmp 18) (.tmp 20) 27 rfl Try.underlying27 _ rfl 0 [] ?own va1 U.length vcap1 rfl (flat3 U) (flat3_length U) ?src (flat3_one' U) ?small ?base ?_
               case own => exact ((lit0t (W := wz) 86 rfl (Nat.le_refl _)).alloc _).drew
               case src => exact tris_any (hVz.below bel_a2) hvsh
               case small => omega
               case base => first | omega | (simp <;> omega)
               intro v1 w1' ho1 hg1
               have hb1 : Below wz.heap.size wz w1' := (bel_a2 (w := wz)).grown hg1 (by simp <;> omega) (fun k hk => by have : wz.heap.size = k := Option.some.inj hk; omega)
               have hx1 : w1'.heap[wz.heap.size + 1]? = some (.cells #[.int .i64 id, .int .i64 x, .int .i64 n] 86) := (hg1.block _ (by simp) (fun e => by have : wz.heap.size + 1 = wz.heap.size := Option.some.inj e; omega)).trans (heap_alloc2_new wz _ _)
               have hs1 := hb1.size
               have y0' := cell_at (i := 0) (heap_below hb1 (lt_of_block g1) g1) rfl
               have p0' := (hb1.cell (p := ⟨pb, po + j, none⟩) hpz).trans p0
               clear hg1)
            | (refine step_append_row wz.heap.size 86 i0 (.agg #[.int .i64 0, .int .i64 0, .int .i64 0]) 3 24 hi0 hz0 hz1 hz2 rfl (by decide) (by decide) rfl (.tmp 18) (.tmp 20) 27 rfl Try.underlying27 _ rfl 0 [] ?own va1 U.length vcap1 rfl (flat3 U) (flat3_length U) ?src (flat3_one' U) ?small ?base ?_
               case own => exact (lit0t (W := wz.alloc (.cells #[.int .i64 id, .int .i64 x, .int .i64 n] 86)) 86 (by simp) (by simp)).drew
               case src => exact tris_any (hVz.below bel_a2) hvsh
               case small => omega
               case base => first | omega | (simp <;> omega)
               intro v1 w1' ho1 hg1
               have hb1 : Below wz.heap.size wz w1' := (bel_a2 (w := wz)).grown hg1 (by simp <;> omega) (fun k hk => by have : wz.heap.size + 1 = k := Option.some.inj hk; omega)
               have hx1 : w1'.heap[wz.heap.size]? = some (.cells #[.int .i64 id, .int .i64 x, .int .i64 n] 86) := (hg1.block _ (by simp <;> omega) (fun e => by have : wz.heap.size = wz.heap.size + 1 := Option.some.inj e; omega)).trans (heap_alloc2_old wz _ _)
               have hs1 := hb1.size
               have y0' := cell_at (i := 0) (heap_below hb1 (lt_of_block g1) g1) rfl
               have p0' := (hb1.cell (p := ⟨pb, po + j, none⟩) hpz).trans p0
               clear hg1)
            | (refine step_append_row wz.heap.size 86 i0 (.agg #[.int .i64 0, .int .i64 0, .int .i64 0]) 3 24 hi0 hz0 hz1 hz2 rfl (by decide) (by decide) rfl (.tmp 21) (.tmp 30) 27 rfl Try.underlying27 _ rfl _ _ ho1 _ 1 1 rfl [.int .i64 id, .int .i64 x, .int .i64 n] rfl ?src ?one ?small ?base ?_
               case src => exact Or.inl ⟨_, rfl, news_at (cs := #[.int .i64 id, .int .i64 x, .int .i64 n]) hx1⟩
               case one => simp [Value.oneCell']
               case small => omega
               case base => first | omega | (simp <;> omega)
               intro v2 w2' ho2 hg2
               have hb2 : Below wz.heap.size wz w2' := hb1.grown hg2 (by first | omega | (simp <;> omega)) (fun k hk => row_own ho1 hk)
               have ho3 := own_joinT (E := U) (x := (id, x, n)) ho2
               obtain ⟨va2, vc2, rfl, -⟩ := tris_of_row ho3 hwf2
               have g1' := heap_below hb2 (lt_of_block g1) g1
               have y2 := cell_at (i := 1) g1' rfl
               have z2 := free_at g1' 1
               clear hg2 ho2)
            | (refine step_append_row wz.heap.size 86 i0 (.agg #[.int .i64 0, .int .i64 0, .int .i64 0]) 3 24 hi0 hz0 hz1 hz2 rfl (by decide) (by decide) rfl (.tmp 21) (.tmp 30) 27 rfl Try.underlying27 _ rfl _ _ (ho1.alloc _) _ 1 1 rfl [.int .i64 id, .int .i64 x, .int .i64 n] rfl ?src ?one ?small ?base ?_
               case src => exact Or.inl ⟨_, rfl, news_at (cs := #[.int .i64 id, .int .i64 x, .int .i64 n]) (heap_alloc_new _ _)⟩
               case one => simp [Value.oneCell']
               case small => omega
               case base => first | omega | (simp <;> omega)
               intro v2 w2' ho2 hg2
               have hb2 : Below wz.heap.size wz w2' := (hb1.alloc hs1 _).grown hg2 (by first | omega | (simp <;> omega)) (fun k hk => row_own ho1 hk)
               have ho3 := own_joinT (E := U) (x := (id, x, n)) ho2
               obtain ⟨va2, vc2, rfl, -⟩ := tris_of_row ho3 hwf2
               have g1' := heap_below hb2 (lt_of_block g1) g1
               have y2 := cell_at (i := 1) g1' rfl
               have z2 := free_at g1' 1
               clear hg2 ho2)))
        all_goals
          clear y0 y1 y1a y1b y0a p0a p0 y2 z2
          go_wp2_with fail
          go_meet
          exact HL.out _ _ _ hb2 ho3
      case rest =>
        clear hC p0 hpz
        obtain ⟨va3, vcap3, ea3, ecap3, hC⟩ := hcut
        generalize wc = wy at hC ⊢
        have p0 := (hC.bel.cell (p := ⟨pb, po + j, none⟩) (Nat.lt_of_lt_of_le hpb hB')).trans HP.out
        obtain ⟨-, -, y2⟩ := k3_row hC.st
        have hF : ∀ y ∈ F.filter (keepE id x), okR y := fun y hy => hC.ent.wf y (List.mem_filter.1 hy).1
        have HF := Lib.hid hF
        have HC := Lib.hid hC
        clear hC hF
        go_wp2_with fail
        go_region_with ((go_at_call 33
                         refine (without_any _ wy.heap.size ea3 ecap3 F id x (HC.out.ent.tris.below below_drew1) (Nat.le_refl _) hFl).mono ?_
                         rintro e w5 ⟨v, rfl, ho, hb5⟩
                         obtain ⟨ea5, ec5, rfl, -⟩ := tris_of_row ho HF.out
                         have hb5 : Below wy.heap.size wy w5 := below_drew1.trans hb5
                         have g5 := heap_below hb5 (lt_of_block HC.out.st) HC.out.st
                         have y5 := cell_at (i := 2) g5 rfl
                         have z5 := free_at g5 2))
        all_goals
          have HZ := Lib.hid (HC.out.setE hb5 ho HF.out)
          clear ho hb5 g5
          go_wp2_with fail
          go_roundw
          case rel => exact ⟨j + 1, by omega, by go_num, by rw [HV.out, HE.out]; exact HZ.out⟩
          case measure => simp [intOf]; omega
    · have hk : l.take j = l := List.take_of_length_le (by omega)
      rw [hk] at hC
      clear hk
      have hvl : (chgV V id (c + 1) l).length ≤ 10000 := by rw [chgV_length]; omega
      have hfl : (chgE E id l).length ≤ 10000 := Nat.le_trans (chgE_length _ _ _) hel
      obtain ⟨x0, x1, x2⟩ := k3_row hC.st
      have f0 := free_at hC.st 0
      have f1 := free_at hC.st 1
      have f2 := free_at hC.st 2
      obtain ⟨r0, r1, r2⟩ := k3_row hC.res
      have q0 := free_at hC.res 0
      have q1 := free_at hC.res 1
      have q2 := free_at hC.res 2
      have HX := Lib.hid hC
      clear hC
      go_wp2_with fail
      refine ret_state (p := 6) (rb := w.heap.size + 1) rfl rfl rfl (store_state HX.out.res) ?_
      have hbF := below_store_state HX.out.bel (rb := w.heap.size + 1) (Nat.le_succ _) (.int .i64 (c + 1)) (.slice va1 (chgV V id (c + 1) l).length vcap1) (.slice ea1 (chgE E id l).length ecap1)
      refine ⟨⟨c + 1, va1, vcap1, _, ea1, ecap1, _⟩, rfl, rfl, rfl, rfl, ⟨?_, ?_, HX.out.vsh, HX.out.esh, hvl, hfl⟩, hbF⟩
      · exact (((HX.out.ver.set (by simp) (by simp) _).set (by simp) (by simp) _).set (by simp) (by simp) _).tris
      · exact (((HX.out.ent.set (by simp) (by simp) _).set (by simp) (by simp) _).set (by simp) (by simp) _).tris

end Go.Proofs.Ytbocefnfhnnbjaa
