/-
  The walk of Set. Condition of the contract: at most ten thousand numbers.
-/
import Derived.Test.YtbocefnfhnnbjaaR6
namespace Go.Proofs.Ytbocefnfhnnbjaa
open Go.RowKit Go.Sort

theorem own_below {w w' : World} {base : Nat} {e : TypeId} {size : Nat} {v : Value} {n : Nat} {xs : List Value} (h : w.ownsRow base e size v n xs) (hb : Below w.heap.size w w') : w'.ownsRow base e size v n xs := by
  obtain ⟨h1, h2⟩ := h
  refine ⟨h1, ?_⟩
  rcases h2 with h2 | ⟨g, cap, cur, hv, hg, hh, r⟩
  · exact Or.inl h2
  · exact Or.inr ⟨g, cap, cur, hv, hg, heap_below hb (lt_of_block hh) hh, r⟩

theorem own_mono {w : World} {base base' : Nat} {e : TypeId} {size : Nat} {v : Value} {n : Nat} {xs : List Value} (h : w.ownsRow base e size v n xs) (hb : base' ≤ base) : w.ownsRow base' e size v n xs := by
  obtain ⟨h1, h2⟩ := h
  refine ⟨h1, ?_⟩
  rcases h2 with h2 | ⟨g, cap, cur, hv, hg, r⟩
  · exact Or.inl h2
  · exact Or.inr ⟨g, cap, cur, hv, Nat.le_trans hb hg, r⟩
theorem own_join {w : World} {base : Nat} {v : Value} {o : List Int} {x : Int} {q : Nat} (h : w.ownsRow base 3 1 v (0 + q + 1 + (o.length - q)) ([] ++ (o.take q).map (Value.int .i64) ++ [.int .i64 x] ++ (o.drop q).map (Value.int .i64))) (hq : q ≤ o.length) :
    w.ownsRow base 3 1 v (o.take q ++ [x] ++ o.drop q).length ((o.take q ++ [x] ++ o.drop q).map (Value.int .i64)) := by
  have e1 : (o.take q ++ [x] ++ o.drop q).length = 0 + q + 1 + (o.length - q) := by simp; omega
  have e2 : (o.take q ++ [x] ++ o.drop q).map (Value.int .i64) = [] ++ (o.take q).map (Value.int .i64) ++ [.int .i64 x] ++ (o.drop q).map (Value.int .i64) := by simp
  rw [e1, e2]; exact h
theorem lit0 {W : World} {base k : Nat} (hk : k = W.heap.size) (hb : base ≤ W.heap.size) : (W.alloc (.cells #[] 3)).ownsRow base 3 1 (.slice (some ⟨k, 0, none⟩) 0 0) 0 [] := by
  subst hk; exact World.ownsRow_lit (base := base) (e := 3) (size := 1) W #[] 0 hb (by simp [maxLen]) rfl
theorem bel_a1 {w : World} {o : Obj} : Below w.heap.size w (w.alloc o).drew := below_drewN ((Below.refl w.heap.size w).alloc (Nat.le_refl _) o) 1
theorem bel_a2 {w : World} {o o' : Obj} : Below w.heap.size w ((w.alloc o).alloc o').drew := below_drewN (((Below.refl w.heap.size w).alloc (Nat.le_refl _) o).alloc (by simp) o') 1
theorem one_ints (l : List Int) : ∀ u ∈ l.map (Value.int .i64), u.oneCell' = true := by
  intro u hu; obtain ⟨z, _, rfl⟩ := List.mem_map.1 hu; rfl
theorem ints_take {w : World} {B b off : Nat} {l : List Int} (h : Ints w B (some ⟨b, off, none⟩) l) (q : Nat) : ∀ j u, ((l.take q).map (Value.int .i64))[j]? = some u → w.cell? ((⟨b, off, none⟩ : Addr).add j) = some u := by
  intro j u hj
  rw [List.getElem?_map, List.getElem?_take] at hj
  split at hj
  · obtain ⟨z, hz, rfl⟩ := Option.map_eq_some_iff.1 hj
    obtain ⟨hjl, hz2⟩ := List.getElem?_eq_some_iff.1 hz
    obtain ⟨b', off', e, _, hc⟩ := h.get hjl
    rw [add_plain]
    injection e with e; injection e with e1 e2
    rw [e1, e2, hc, hz2]
  · simp at hj
theorem ints_drop {w : World} {B b off : Nat} {l : List Int} (h : Ints w B (some ⟨b, off, none⟩) l) (q : Nat) : ∀ j u, ((l.drop q).map (Value.int .i64))[j]? = some u → w.cell? ((⟨b, off + q, none⟩ : Addr).add j) = some u := by
  intro j u hj
  rw [List.getElem?_map, List.getElem?_drop] at hj
  obtain ⟨z, hz, rfl⟩ := Option.map_eq_some_iff.1 hj
  obtain ⟨hjl, hz2⟩ := List.getElem?_eq_some_iff.1 hz
  obtain ⟨b', off', e, _, hc⟩ := h.get hjl
  rw [add_plain]
  injection e with e; injection e with e1 e2
  rw [e1, e2, Nat.add_assoc, hc, hz2]
theorem own_cap {w : World} {base : Nat} {e : TypeId} {size : Nat} {a : Option Addr} {n c : Nat} {xs : List Value} (h : w.ownsRow base e size (.slice a n c) n xs) : n ≤ c := by
  rcases h.2 with ⟨h1, h2⟩ | ⟨g, cap, cur, hv, hg, hh, r, _⟩
  · omega
  · injection hv with h1 h2 h3; omega
theorem cell_alloc1 {w : World} {p : Addr} {v : Value} {o : Obj} (h : w.cell? p = some v) : (w.alloc o).cell? p = some v := by
  rw [((Below.refl w.heap.size w).alloc (Nat.le_refl _) o).cell (block_lt_of_cell h)]; exact h

set_option maxHeartbeats 8000000 in
set_option maxRecDepth 100000 in
theorem set_any (w : World) (B : Nat) (a : Option Addr) (cap : Nat) (l : List Int) (h : Ints w B a l) (hB : B ≤ w.heap.size) (hl : l.length ≤ 10000) :
    Calls Try.prog 37 #[.slice a l.length cap] w fun r w' => ∃ v, r = .returned v ∧ w'.ownsRow w.heap.size 3 1 v (setI l).length ((setI l).map (Value.int .i64)) ∧ Below w.heap.size w w' := by
  obtain ⟨i0, hi0, hz0, hz1, hz2⟩ := info_parts info3
  have hb0 : Below w.heap.size w (w.alloc (.cells #[] 3)) := (Below.refl _ _).alloc (by simp) _
  have ho0 := World.ownsRow_lit (base := w.heap.size) (e := 3) (size := 1) w #[] 0 (Nat.le_refl _) (by simp [maxLen]) rfl
  go_enter Try.func37, Try.ntmps37
  go_wp2
  generalize w.alloc (.cells #[] 3) = w1 at hb0 ho0 ⊢
  go_loopw [3, 4, 5] (fun v i _ wr => ∃ j : Nat, j ≤ l.length ∧ i = .int .i64 j ∧ Below w.heap.size w wr ∧ wr.ownsRow w.heap.size 3 1 v (setI (l.take j)).length ((setI (l.take j)).map (Value.int .i64))) (fun _ i _ _ => l.length - (intOf i).toNat)
  case atStart => exact ⟨0, by omega, rfl, hb0, by simpa [setI] using ho0⟩
  case round =>
    clear ho0 hb0
    obtain ⟨j, hj, rfl, hb, hown⟩ := hrel
    by_cases hlt : j < l.length
    · obtain ⟨pb, poff, rfl, hpb, pc⟩ := (h.below (hb.mono hB)).get hlt
      have hsn := Lib.hid (show setI (l.take (j + 1)) = insI (setI (l.take j)) l[j] by rw [take_snoc' l j hlt, setI_snoc])
      have hbx := i64_bd (h.wf _ (List.getElem_mem hlt))
      have hol : (setI (l.take j)).length ≤ 10000 := by
        have h1 := setI_length (l.take j)
        rw [List.length_take] at h1; omega
      obtain ⟨va, vcap, hveq, hIo⟩ := ints_of_row hown (fun x hx => h.wf x (List.mem_of_mem_take ((setI_mem _ _).1 hx)))
      generalize l[j] = x at pc hsn hbx
      generalize hog : setI (l.take j) = o at hown hsn hol hIo hveq
      clear hog
      subst hveq
      go_wp2
      rename World => wo
      go_loopw [5] (fun k wi => ∃ q : Nat, q ≤ o.length ∧ k = .int .i64 q ∧ Below wo.heap.size wo wi ∧ (∀ i (hi : i < o.length), i < q → o[i] < x)) (fun k _ => o.length - (intOf k).toNat)
      case atStart => exact ⟨0, by omega, rfl, Below.refl _ _, fun _ _ hq => by omega⟩
      case round =>
        obtain ⟨q, hq, rfl, hbi, hn⟩ := hrel
        have HN := Lib.hid hn
        clear hn
        have pci : wr.cell? ⟨pb, poff + j, none⟩ = some (.int .i64 x) := (hbi.cell (p := ⟨pb, poff + j, none⟩) (by have := hb.size; simp; omega)).trans pc
        have hIi := hIo.below hbi
        by_cases hqo : q < o.length
        · obtain ⟨ob, ooff, rfl, hob, oc⟩ := hIi.get hqo
          have hqz : (q : Int) < o.length := by omega
          have HG := Lib.hid (show ∀ y, y = o[q] → y < x → ∀ i (hi : i < o.length), i < q + 1 → o[i] < x from fun y hy hyx i hi hiq => by
            rcases Nat.lt_or_ge i q with h1 | h1
            · exact HN.out i hi h1
            · have : i = q := by omega
              subst this; rw [← hy]; exact hyx)
          have HE := Lib.hid (show o[q] = x → insI o x = o from fun e => insI_found o x q hqo HN.out e)
          have HP := Lib.hid (show x < o[q] → insI o x = o.take q ++ [x] ++ o.drop q from fun e => insI_put o x q hq HN.out (fun _ => e))
          have hyb := i64_bd (hIi.wf _ (List.getElem_mem hqo))
          have HG2 := Lib.hid (HG.out _ rfl)
          clear HG
          generalize o[q] = y at oc HG2 HE HP hyb
          by_cases hyx : y < x
          · go_wp2_with fail
            go_region
            go_wp2
            go_round
            case rel => exact ⟨q + 1, by omega, by go_num, below_drewN hbi 1, HG2.out hyx⟩
            case measure => simp [intOf]; omega
          · cases hyy : y == x
            · have hP := Lib.hid (HP.out (by have : y ≠ x := by simpa using hyy
                                             omega))
              go_wp2_with fail
              go_region
              go_wp2_with fail
              go_region
              go_wp2_with fail
              have hbz := below_drewN hbi 2
              have hIz := (hIo.below hbz).mono hbz.size
              have hoz := own_below hown hbz
              have pcz : (wr.drewN 2).cell? ⟨pb, poff + j, none⟩ = some (.int .i64 x) := pci
              change Code.wp _ _ _ _ (wr.drewN 2)
              generalize wr.drewN 2 = wz at hbz hIz hoz pcz ⊢
              have hcv : (o.length : Int) ≤ vcap := by have := own_cap hoz; omega
              have hq0 : (0 : Int) ≤ q := by omega
              have hqc : (q : Int) ≤ vcap := by omega
              have hqn : ¬ vcap = q := by omega
              have pcd : wz.drew.cell? ⟨pb, poff + j, none⟩ = some (.int .i64 x) := pcz
              clear pci hIi oc HG2 HP HE pc
              have hpz : pb < wz.heap.size := by have := hb.size; have := hbz.size; omega
              go_region_held3 (fun w' => w'.cell? ⟨pb, poff + j, none⟩ = some (.int .i64 x)) (first | assumption | exact cell_alloc1 (by assumption))
                ((first
                  | (refine step_append_row wz.heap.size 3 i0 (.int .i64 0) 1 8 hi0 hz0 hz1 hz2 rfl (by decide) (by decide) rfl (.tmp 45) (.tmp 48) 31 rfl Try.underlying31 _ rfl 0 [] ?own _ q _ rfl ((o.take q).map (.int .i64)) ?len ?src ?one ?small ?base ?_
                     case own => exact (lit0 (W := wz) rfl (Nat.le_refl _)).drew
                     case len => (simp <;> omega)
                     case src => first | exact Or.inl ⟨_, rfl, ints_take (hIz.below bel_a1) q⟩
                     case one => exact one_ints _
                     case small => omega
                     case base => simp
                     intro v1 w1' ho1 hg1
                     have hb1 : Below wz.heap.size wz w1' := (bel_a1 (w := wz)).grown hg1 (by simp) (fun k hk => by have : wz.heap.size = k := Option.some.inj hk; omega)
                     have hs1 := hb1.size
                     have pc1 := (hb1.cell (p := ⟨pb, poff + j, none⟩) hpz).trans pcz
                     clear hg1)
                  | (refine step_append_row wz.heap.size 3 i0 (.int .i64 0) 1 8 hi0 hz0 hz1 hz2 rfl (by decide) (by decide) rfl (.tmp 45) (.tmp 48) 31 rfl Try.underlying31 _ rfl 0 [] ?own _ q _ rfl ((o.take q).map (.int .i64)) ?len ?src ?one ?small ?base ?_
                     case own => exact ((lit0 (W := wz) rfl (Nat.le_refl _)).alloc _).drew
                     case len => (simp <;> omega)
                     case src => first | exact Or.inl ⟨_, rfl, ints_take (hIz.below bel_a2) q⟩
                     case one => exact one_ints _
                     case small => omega
                     case base => simp; omega
                     intro v1 w1' ho1 hg1
                     have hb1 : Below wz.heap.size wz w1' := (bel_a2 (w := wz)).grown hg1 (by simp; omega) (fun k hk => by have : wz.heap.size = k := Option.some.inj hk; omega)
                     have hx1 : w1'.heap[wz.heap.size + 1]? = some (.cells #[.int .i64 x] 3) := (hg1.block _ (by simp) (fun e => by have : wz.heap.size + 1 = wz.heap.size := Option.some.inj e; omega)).trans (heap_alloc2_new wz _ _)
                     have hs1 := hb1.size
                     have pc1 := (hb1.cell (p := ⟨pb, poff + j, none⟩) hpz).trans pcz
                     clear hg1)
                  | (refine step_append_row wz.heap.size 3 i0 (.int .i64 0) 1 8 hi0 hz0 hz1 hz2 rfl (by decide) (by decide) rfl (.tmp 45) (.tmp 48) 31 rfl Try.underlying31 _ rfl 0 [] ?own _ q _ rfl ((o.take q).map (.int .i64)) ?len ?src ?one ?small ?base ?_
                     case own => exact (lit0 (W := wz.alloc (.cells #[.int .i64 x] 3)) (by simp) (by simp)).drew
                     case len => (simp <;> omega)
                     case src => first | exact Or.inl ⟨_, rfl, ints_take (hIz.below bel_a2) q⟩
                     case one => exact one_ints _
                     case small => omega
                     case base => simp; omega
                     intro v1 w1' ho1 hg1
                     have hb1 : Below wz.heap.size wz w1' := (bel_a2 (w := wz)).grown hg1 (by simp; omega) (fun k hk => by have : wz.heap.size + 1 = k := Option.some.inj hk; omega)
                     have hx1 : w1'.heap[wz.heap.size]? = some (.cells #[.int .i64 x] 3) := (hg1.block _ (by simp; omega) (fun e => by have : wz.heap.size = wz.heap.size + 1 := Option.some.inj e; omega)).trans (heap_alloc2_old wz _ _)
                     have hs1 := hb1.size
                     have pc1 := (hb1.cell (p := ⟨pb, poff + j, none⟩) hpz).trans pcz
                     clear hg1)
                  | (refine step_append_row wz.heap.size 3 i0 (.int .i64 0) 1 8 hi0 hz0 hz1 hz2 rfl (by decide) (by decide) rfl (.tmp 49) (.tmp 54) 31 rfl Try.underlying31 _ rfl _ _ ho1 _ 1 1 rfl [.int .i64 x] rfl ?src ?one ?small ?base ?_
                     case src => exact Or.inl ⟨_, rfl, news_at (cs := #[.int .i64 x]) hx1⟩
                     case one => simp [Value.oneCell']
                     case small => omega
                     case base => exact hs1
                     intro v2 w2' ho2 hg2
                     have hb2 : Below wz.heap.size wz w2' := hb1.grown hg2 hs1 (fun k hk => row_own ho1 hk)
                     have hs2 := hb2.size
                     have pc2 := (hb2.cell (p := ⟨pb, poff + j, none⟩) hpz).trans pcz
                     clear hg2)
                  | (refine step_append_row wz.heap.size 3 i0 (.int .i64 0) 1 8 hi0 hz0 hz1 hz2 rfl (by decide) (by decide) rfl (.tmp 49) (.tmp 54) 31 rfl Try.underlying31 _ rfl _ _ (ho1.alloc _) _ 1 1 rfl [.int .i64 x] rfl ?src ?one ?small ?base ?_
                     case src => exact Or.inl ⟨_, rfl, news_at (cs := #[.int .i64 x]) (heap_alloc_new _ _)⟩
                     case one => simp [Value.oneCell']
                     case small => omega
                     case base => simp; omega
                     intro v2 w2' ho2 hg2
                     have hb2 : Below wz.heap.size wz w2' := (hb1.alloc hs1 _).grown hg2 (by simp; omega) (fun k hk => row_own ho1 hk)
                     have hs2 := hb2.size
                     have pc2 := (hb2.cell (p := ⟨pb, poff + j, none⟩) hpz).trans pcz
                     clear hg2)
                  | (refine step_append_row wz.heap.size 3 i0 (.int .i64 0) 1 8 hi0 hz0 hz1 hz2 rfl (by decide) (by decide) rfl (.tmp 55) (.tmp 58) 31 rfl Try.underlying31 _ rfl _ _ ho2 (some ⟨ob, ooff + q, none⟩) (o.length - q) (vcap - q) rfl ((o.drop q).map (.int .i64)) ?len ?src ?one ?small ?base ?_
                     case len => simp
                     case src => first | exact Or.inl ⟨_, rfl, ints_drop (hIz.below hb2) q⟩
                     case one => exact one_ints _
                     case small => omega
                     case base => exact hs2
                     intro v3 w3' ho3 hg3
                     have hb3 : Below wz.heap.size wz w3' := hb2.grown hg3 hs2 (fun k hk => row_own ho2 hk)
                     have pc3 := (hb3.cell (p := ⟨pb, poff + j, none⟩) hpz).trans pcz
                     clear hg3)))
              all_goals
                have hown9 : w3'.ownsRow w.heap.size 3 1 v3 (setI (l.take (j + 1))).length ((setI (l.take (j + 1))).map (Value.int .i64)) := by
                  rw [hsn.out, hP.out]
                  exact own_join (own_mono ho3 (Nat.le_trans hb.size hbz.size)) hq
                have hb9 : Below w.heap.size w w3' := (hb.trans (hbz.mono hb.size)).trans (hb3.mono (Nat.le_trans hb.size hbz.size))
                clear ho3
                go_wp2_with fail
                go_roundw
                case rel => exact ⟨j + 1, by omega, by go_num, hb9, hown9⟩
                case measure => simp [intOf]; omega
            · have hE := Lib.hid (HE.out (by simpa using hyy))
              go_wp2_with fail
              go_region
              go_wp2_with fail
              go_region
              go_wp2_with fail
              go_roundw
              case rel => exact ⟨j + 1, by omega, by go_num, below_drewN (hb.trans (hbi.mono hb.size)) 2, by rw [hsn.out, hE.out]; exact own_below hown (below_drewN hbi 2)⟩
              case measure => simp [intOf]; omega
        · have hqe : q = o.length := by omega
          subst hqe
          have hP := Lib.hid (insI_put o x o.length (Nat.le_refl _) HN.out (fun h => absurd h (Nat.lt_irrefl _)))
          have hnz : ¬ (o.length : Int) < o.length := by omega
          rcases hown.2 with ⟨e0, hn0⟩ | ⟨g, cap', cur, e0, hg0, _⟩
          · injection e0 with e1 e2 e3
            subst e1 e3
            have hoe : o = [] := List.length_eq_zero_iff.1 hn0
            subst hoe
            go_wp2_with fail
            go_region
            go_wp2_with fail
            go_region
            go_wp2_with fail
            have hbz := below_drewN hbi 2
            have hIz := (hIo.below hbz).mono hbz.size
            have pcz : (wr.drewN 2).cell? ⟨pb, poff + j, none⟩ = some (.int .i64 x) := pci
            change Code.wp _ _ _ _ (wr.drewN 2)
            generalize wr.drewN 2 = wz at hbz hIz pcz ⊢
            have pcd : wz.drew.cell? ⟨pb, poff + j, none⟩ = some (.int .i64 x) := pcz
            have hpz : pb < wz.heap.size := by have := hb.size; have := hbz.size; omega
            clear pci hIi pc
            go_region_held3 (fun w' => w'.cell? ⟨pb, poff + j, none⟩ = some (.int .i64 x)) (first | assumption | exact cell_alloc1 (by assumption))
              ((first
                | (refine step_append_row wz.heap.size 3 i0 (.int .i64 0) 1 8 hi0 hz0 hz1 hz2 rfl (by decide) (by decide) rfl (.tmp 45) (.tmp 48) 31 rfl Try.underlying31 _ rfl 0 [] ?own none 0 0 rfl ((([] : List Int).take 0).map (.int .i64)) ?len ?src ?one ?small ?base ?_
                   case own => exact (lit0 (W := wz) rfl (Nat.le_refl _)).drew
                   case len => rfl
                   case src => exact Or.inr ⟨rfl, rfl, rfl⟩
                   case one => exact one_ints _
                   case small => omega
                   case base => simp
                   intro v1 w1' ho1 hg1
                   have hb1 : Below wz.heap.size wz w1' := (bel_a1 (w := wz)).grown hg1 (by simp) (fun k hk => by have : wz.heap.size = k := Option.some.inj hk; omega)
                   have hs1 := hb1.size
                   have pc1 := (hb1.cell (p := ⟨pb, poff + j, none⟩) hpz).trans pcz
                   clear hg1)
                | (refine step_append_row wz.heap.size 3 i0 (.int .i64 0) 1 8 hi0 hz0 hz1 hz2 rfl (by decide) (by decide) rfl (.tmp 45) (.tmp 48) 31 rfl Try.underlying31 _ rfl 0 [] ?own none 0 0 rfl ((([] : List Int).take 0).map (.int .i64)) ?len ?src ?one ?small ?base ?_
                   case own => exact ((lit0 (W := wz) rfl (Nat.le_refl _)).alloc _).drew
                   case len => rfl
                   case src => exact Or.inr ⟨rfl, rfl, rfl⟩
                   case one => exact one_ints _
                   case small => omega
                   case base => simp; omega
                   intro v1 w1' ho1 hg1
                   have hb1 : Below wz.heap.size wz w1' := (bel_a2 (w := wz)).grown hg1 (by simp; omega) (fun k hk => by have : wz.heap.size = k := Option.some.inj hk; omega)
                   have hx1 : w1'.heap[wz.heap.size + 1]? = some (.cells #[.int .i64 x] 3) := (hg1.block _ (by simp) (fun e => by have : wz.heap.size + 1 = wz.heap.size := Option.some.inj e; omega)).trans (heap_alloc2_new wz _ _)
                   have hs1 := hb1.size
                   have pc1 := (hb1.cell (p := ⟨pb, poff + j, none⟩) hpz).trans pcz
                   clear hg1)
                | (refine step_append_row wz.heap.size 3 i0 (.int .i64 0) 1 8 hi0 hz0 hz1 hz2 rfl (by decide) (by decide) rfl (.tmp 45) (.tmp 48) 31 rfl Try.underlying31 _ rfl 0 [] ?own none 0 0 rfl ((([] : List Int).take 0).map (.int .i64)) ?len ?src ?one ?small ?base ?_
                   case own => exact (lit0 (W := wz.alloc (.cells #[.int .i64 x] 3)) (by simp) (by simp)).drew
                   case len => rfl
                   case src => exact Or.inr ⟨rfl, rfl, rfl⟩
                   case one => exact one_ints _
                   case small => omega
                   case base => simp; omega
                   intro v1 w1' ho1 hg1
                   have hb1 : Below wz.heap.size wz w1' := (bel_a2 (w := wz)).grown hg1 (by simp; omega) (fun k hk => by have : wz.heap.size + 1 = k := Option.some.inj hk; omega)
                   have hx1 : w1'.heap[wz.heap.size]? = some (.cells #[.int .i64 x] 3) := (hg1.block _ (by simp; omega) (fun e => by have : wz.heap.size = wz.heap.size + 1 := Option.some.inj e; omega)).trans (heap_alloc2_old wz _ _)
                   have hs1 := hb1.size
                   have pc1 := (hb1.cell (p := ⟨pb, poff + j, none⟩) hpz).trans pcz
                   clear hg1)
                | (refine step_append_row wz.heap.size 3 i0 (.int .i64 0) 1 8 hi0 hz0 hz1 hz2 rfl (by decide) (by decide) rfl (.tmp 49) (.tmp 54) 31 rfl Try.underlying31 _ rfl _ _ ho1 _ 1 1 rfl [.int .i64 x] rfl ?src ?one ?small ?base ?_
                   case src => exact Or.inl ⟨_, rfl, news_at (cs := #[.int .i64 x]) hx1⟩
                   case one => simp [Value.oneCell']
                   case small => omega
                   case base => exact hs1
                   intro v2 w2' ho2 hg2
                   have hb2 : Below wz.heap.size wz w2' := hb1.grown hg2 hs1 (fun k hk => row_own ho1 hk)
                   have hs2 := hb2.size
                   have pc2 := (hb2.cell (p := ⟨pb, poff + j, none⟩) hpz).trans pcz
                   clear hg2)
                | (refine step_append_row wz.heap.size 3 i0 (.int .i64 0) 1 8 hi0 hz0 hz1 hz2 rfl (by decide) (by decide) rfl (.tmp 49) (.tmp 54) 31 rfl Try.underlying31 _ rfl _ _ (ho1.alloc _) _ 1 1 rfl [.int .i64 x] rfl ?src ?one ?small ?base ?_
                   case src => exact Or.inl ⟨_, rfl, news_at (cs := #[.int .i64 x]) (heap_alloc_new _ _)⟩
                   case one => simp [Value.oneCell']
                   case small => omega
                   case base => simp; omega
                   intro v2 w2' ho2 hg2
                   have hb2 : Below wz.heap.size wz w2' := (hb1.alloc hs1 _).grown hg2 (by simp; omega) (fun k hk => row_own ho1 hk)
                   have hs2 := hb2.size
                   have pc2 := (hb2.cell (p := ⟨pb, poff + j, none⟩) hpz).trans pcz
                   clear hg2)
                | (refine step_append_row wz.heap.size 3 i0 (.int .i64 0) 1 8 hi0 hz0 hz1 hz2 rfl (by decide) (by decide) rfl (.tmp 55) (.tmp 58) 31 rfl Try.underlying31 _ rfl _ _ ho2 none 0 0 rfl ((([] : List Int).drop 0).map (.int .i64)) ?len ?src ?one ?small ?base ?_
                   case len => rfl
                   case src => exact Or.inr ⟨rfl, rfl, rfl⟩
                   case one => exact one_ints _
                   case small => omega
                   case base => exact hs2
                   intro v3 w3' ho3 hg3
                   have hb3 : Below wz.heap.size wz w3' := hb2.grown hg3 hs2 (fun k hk => row_own ho2 hk)
                   have pc3 := (hb3.cell (p := ⟨pb, poff + j, none⟩) hpz).trans pcz
                   clear hg3)))
            all_goals
              have hown9 : w3'.ownsRow w.heap.size 3 1 v3 (setI (l.take (j + 1))).length ((setI (l.take (j + 1))).map (Value.int .i64)) := by
                rw [hsn.out, hP.out]
                exact own_join (o := []) (q := 0) (by exact own_mono ho3 (Nat.le_trans hb.size hbz.size)) (Nat.le_refl _)
              have hb9 : Below w.heap.size w w3' := (hb.trans (hbz.mono hb.size)).trans (hb3.mono (Nat.le_trans hb.size hbz.size))
              clear ho3
              go_wp2_with fail
              go_roundw
              case rel => exact ⟨j + 1, by omega, by go_num, hb9, hown9⟩
              case measure => simp [intOf]; omega
          · injection e0 with e1 e2 e3
            subst e1
            clear e2 e3
            have hcv : (o.length : Int) ≤ vcap := by have := own_cap hown; omega
            by_cases hcq : vcap = o.length
            · subst hcq
              go_wp2_with fail
              go_region
              go_wp2_with fail
              go_region
              go_wp2_with fail
              have hbz := below_drewN hbi 2
              have hIz := (hIo.below hbz).mono hbz.size
              have pcz : (wr.drewN 2).cell? ⟨pb, poff + j, none⟩ = some (.int .i64 x) := pci
              change Code.wp _ _ _ _ (wr.drewN 2)
              generalize wr.drewN 2 = wz at hbz hIz pcz ⊢
              have pcd : wz.drew.cell? ⟨pb, poff + j, none⟩ = some (.int .i64 x) := pcz
              have hpz : pb < wz.heap.size := by have := hb.size; have := hbz.size; omega
              clear pci hIi pc
              go_region_held3 (fun w' => w'.cell? ⟨pb, poff + j, none⟩ = some (.int .i64 x)) (first | assumption | exact cell_alloc1 (by assumption))
                ((first
                  | (refine step_append_row wz.heap.size 3 i0 (.int .i64 0) 1 8 hi0 hz0 hz1 hz2 rfl (by decide) (by decide) rfl (.tmp 45) (.tmp 48) 31 rfl Try.underlying31 _ rfl 0 [] ?own _ o.length _ rfl ((o.take o.length).map (.int .i64)) ?len ?src ?one ?small ?base ?_
                     case own => exact (lit0 (W := wz) rfl (Nat.le_refl _)).drew
                     case len => (simp <;> omega)
                     case src => exact Or.inl ⟨_, rfl, ints_take (hIz.below bel_a1) _⟩
                     case one => exact one_ints _
                     case small => omega
                     case base => simp
                     intro v1 w1' ho1 hg1
                     have hb1 : Below wz.heap.size wz w1' := (bel_a1 (w := wz)).grown hg1 (by simp) (fun k hk => by have : wz.heap.size = k := Option.some.inj hk; omega)
                     have hs1 := hb1.size
                     have pc1 := (hb1.cell (p := ⟨pb, poff + j, none⟩) hpz).trans pcz
                     clear hg1)
                  | (refine step_append_row wz.heap.size 3 i0 (.int .i64 0) 1 8 hi0 hz0 hz1 hz2 rfl (by decide) (by decide) rfl (.tmp 45) (.tmp 48) 31 rfl Try.underlying31 _ rfl 0 [] ?own _ o.length _ rfl ((o.take o.length).map (.int .i64)) ?len ?src ?one ?small ?base ?_
                     case own => exact ((lit0 (W := wz) rfl (Nat.le_refl _)).alloc _).drew
                     case len => (simp <;> omega)
                     case src => exact Or.inl ⟨_, rfl, ints_take (hIz.below bel_a2) _⟩
                     case one => exact one_ints _
                     case small => omega
                     case base => simp; omega
                     intro v1 w1' ho1 hg1
                     have hb1 : Below wz.heap.size wz w1' := (bel_a2 (w := wz)).grown hg1 (by simp; omega) (fun k hk => by have : wz.heap.size = k := Option.some.inj hk; omega)
                     have hx1 : w1'.heap[wz.heap.size + 1]? = some (.cells #[.int .i64 x] 3) := (hg1.block _ (by simp) (fun e => by have : wz.heap.size + 1 = wz.heap.size := Option.some.inj e; omega)).trans (heap_alloc2_new wz _ _)
                     have hs1 := hb1.size
                     have pc1 := (hb1.cell (p := ⟨pb, poff + j, none⟩) hpz).trans pcz
                     clear hg1)
                  | (refine step_append_row wz.heap.size 3 i0 (.int .i64 0) 1 8 hi0 hz0 hz1 hz2 rfl (by decide) (by decide) rfl (.tmp 45) (.tmp 48) 31 rfl Try.underlying31 _ rfl 0 [] ?own _ o.length _ rfl ((o.take o.length).map (.int .i64)) ?len ?src ?one ?small ?base ?_
                     case own => exact (lit0 (W := wz.alloc (.cells #[.int .i64 x] 3)) (by simp) (by simp)).drew
                     case len => (simp <;> omega)
                     case src => exact Or.inl ⟨_, rfl, ints_take (hIz.below bel_a2) _⟩
                     case one => exact one_ints _
                     case small => omega
                     case base => simp; omega
                     intro v1 w1' ho1 hg1
                     have hb1 : Below wz.heap.size wz w1' := (bel_a2 (w := wz)).grown hg1 (by simp; omega) (fun k hk => by have : wz.heap.size + 1 = k := Option.some.inj hk; omega)
                     have hx1 : w1'.heap[wz.heap.size]? = some (.cells #[.int .i64 x] 3) := (hg1.block _ (by simp; omega) (fun e => by have : wz.heap.size = wz.heap.size + 1 := Option.some.inj e; omega)).trans (heap_alloc2_old wz _ _)
                     have hs1 := hb1.size
                     have pc1 := (hb1.cell (p := ⟨pb, poff + j, none⟩) hpz).trans pcz
                     clear hg1)
                  | (refine step_append_row wz.heap.size 3 i0 (.int .i64 0) 1 8 hi0 hz0 hz1 hz2 rfl (by decide) (by decide) rfl (.tmp 49) (.tmp 54) 31 rfl Try.underlying31 _ rfl _ _ ho1 _ 1 1 rfl [.int .i64 x] rfl ?src ?one ?small ?base ?_
                     case src => exact Or.inl ⟨_, rfl, news_at (cs := #[.int .i64 x]) hx1⟩
                     case one => simp [Value.oneCell']
                     case small => omega
                     case base => exact hs1
                     intro v2 w2' ho2 hg2
                     have hb2 : Below wz.heap.size wz w2' := hb1.grown hg2 hs1 (fun k hk => row_own ho1 hk)
                     have hs2 := hb2.size
                     have pc2 := (hb2.cell (p := ⟨pb, poff + j, none⟩) hpz).trans pcz
                     clear hg2)
                  | (refine step_append_row wz.heap.size 3 i0 (.int .i64 0) 1 8 hi0 hz0 hz1 hz2 rfl (by decide) (by decide) rfl (.tmp 49) (.tmp 54) 31 rfl Try.underlying31 _ rfl _ _ (ho1.alloc _) _ 1 1 rfl [.int .i64 x] rfl ?src ?one ?small ?base ?_
                     case src => exact Or.inl ⟨_, rfl, news_at (cs := #[.int .i64 x]) (heap_alloc_new _ _)⟩
                     case one => simp [Value.oneCell']
                     case small => omega
                     case base => simp; omega
                     intro v2 w2' ho2 hg2
                     have hb2 : Below wz.heap.size wz w2' := (hb1.alloc hs1 _).grown hg2 (by simp; omega) (fun k hk => row_own ho1 hk)
                     have hs2 := hb2.size
                     have pc2 := (hb2.cell (p := ⟨pb, poff + j, none⟩) hpz).trans pcz
                     clear hg2)
                  | (refine step_append_row wz.heap.size 3 i0 (.int .i64 0) 1 8 hi0 hz0 hz1 hz2 rfl (by decide) (by decide) rfl (.tmp 55) (.tmp 58) 31 rfl Try.underlying31 _ rfl _ _ ho2 (some ⟨g, 0, none⟩) 0 0 rfl ((o.drop o.length).map (.int .i64)) ?len ?src ?one ?small ?base ?_
                     case len => simp
                     case src => exact Or.inl ⟨_, rfl, fun j u hj => by simp at hj⟩
                     case one => exact one_ints _
                     case small => omega
                     case base => exact hs2
                     intro v3 w3' ho3 hg3
                     have hb3 : Below wz.heap.size wz w3' := hb2.grown hg3 hs2 (fun k hk => row_own ho2 hk)
                     have pc3 := (hb3.cell (p := ⟨pb, poff + j, none⟩) hpz).trans pcz
                     clear hg3)))
              all_goals
                have hown9 : w3'.ownsRow w.heap.size 3 1 v3 (setI (l.take (j + 1))).length ((setI (l.take (j + 1))).map (Value.int .i64)) := by
                  rw [hsn.out, hP.out]
                  exact own_join (by rw [Nat.sub_self]; exact own_mono ho3 (Nat.le_trans hb.size hbz.size)) (Nat.le_refl _)
                have hb9 : Below w.heap.size w w3' := (hb.trans (hbz.mono hb.size)).trans (hb3.mono (Nat.le_trans hb.size hbz.size))
                clear ho3
                go_wp2_with fail
                go_roundw
                case rel => exact ⟨j + 1, by omega, by go_num, hb9, hown9⟩
                case measure => simp [intOf]; omega
            · go_wp2_with fail
              go_region
              go_wp2_with fail
              go_region
              go_wp2_with fail
              have hbz := below_drewN hbi 2
              have hIz := (hIo.below hbz).mono hbz.size
              have pcz : (wr.drewN 2).cell? ⟨pb, poff + j, none⟩ = some (.int .i64 x) := pci
              change Code.wp _ _ _ _ (wr.drewN 2)
              generalize wr.drewN 2 = wz at hbz hIz pcz ⊢
              have pcd : wz.drew.cell? ⟨pb, poff + j, none⟩ = some (.int .i64 x) := pcz
              have hpz : pb < wz.heap.size := by have := hb.size; have := hbz.size; omega
              clear pci hIi pc
              go_region_held3 (fun w' => w'.cell? ⟨pb, poff + j, none⟩ = some (.int .i64 x)) (first | assumption | exact cell_alloc1 (by assumption))
                ((first
                  | (refine step_append_row wz.heap.size 3 i0 (.int .i64 0) 1 8 hi0 hz0 hz1 hz2 rfl (by decide) (by decide) rfl (.tmp 45) (.tmp 48) 31 rfl Try.underlying31 _ rfl 0 [] ?own _ o.length _ rfl ((o.take o.length).map (.int .i64)) ?len ?src ?one ?small ?base ?_
                     case own => exact (lit0 (W := wz) rfl (Nat.le_refl _)).drew
                     case len => (simp <;> omega)
                     case src => exact Or.inl ⟨_, rfl, ints_take (hIz.below bel_a1) _⟩
                     case one => exact one_ints _
                     case small => omega
                     case base => simp
                     intro v1 w1' ho1 hg1
                     have hb1 : Below wz.heap.size wz w1' := (bel_a1 (w := wz)).grown hg1 (by simp) (fun k hk => by have : wz.heap.size = k := Option.some.inj hk; omega)
                     have hs1 := hb1.size
                     have pc1 := (hb1.cell (p := ⟨pb, poff + j, none⟩) hpz).trans pcz
                     clear hg1)
                  | (refine step_append_row wz.heap.size 3 i0 (.int .i64 0) 1 8 hi0 hz0 hz1 hz2 rfl (by decide) (by decide) rfl (.tmp 45) (.tmp 48) 31 rfl Try.underlying31 _ rfl 0 [] ?own _ o.length _ rfl ((o.take o.length).map (.int .i64)) ?len ?src ?one ?small ?base ?_
                     case own => exact ((lit0 (W := wz) rfl (Nat.le_refl _)).alloc _).drew
                     case len => (simp <;> omega)
                     case src => exact Or.inl ⟨_, rfl, ints_take (hIz.below bel_a2) _⟩
                     case one => exact one_ints _
                     case small => omega
                     case base => simp; omega
                     intro v1 w1' ho1 hg1
                     have hb1 : Below wz.heap.size wz w1' := (bel_a2 (w := wz)).grown hg1 (by simp; omega) (fun k hk => by have : wz.heap.size = k := Option.some.inj hk; omega)
                     have hx1 : w1'.heap[wz.heap.size + 1]? = some (.cells #[.int .i64 x] 3) := (hg1.block _ (by simp) (fun e => by have : wz.heap.size + 1 = wz.heap.size := Option.some.inj e; omega)).trans (heap_alloc2_new wz _ _)
                     have hs1 := hb1.size
                     have pc1 := (hb1.cell (p := ⟨pb, poff + j, none⟩) hpz).trans pcz
                     clear hg1)
                  | (refine step_append_row wz.heap.size 3 i0 (.int .i64 0) 1 8 hi0 hz0 hz1 hz2 rfl (by decide) (by decide) rfl (.tmp 45) (.tmp 48) 31 rfl Try.underlying31 _ rfl 0 [] ?own _ o.length _ rfl ((o.take o.length).map (.int .i64)) ?len ?src ?one ?small ?base ?_
                     case own => exact (lit0 (W := wz.alloc (.cells #[.int .i64 x] 3)) (by simp) (by simp)).drew
                     case len => (simp <;> omega)
                     case src => exact Or.inl ⟨_, rfl, ints_take (hIz.below bel_a2) _⟩
                     case one => exact one_ints _
                     case small => omega
                     case base => simp; omega
                     intro v1 w1' ho1 hg1
                     have hb1 : Below wz.heap.size wz w1' := (bel_a2 (w := wz)).grown hg1 (by simp; omega) (fun k hk => by have : wz.heap.size + 1 = k := Option.some.inj hk; omega)
                     have hx1 : w1'.heap[wz.heap.size]? = some (.cells #[.int .i64 x] 3) := (hg1.block _ (by simp; omega) (fun e => by have : wz.heap.size = wz.heap.size + 1 := Option.some.inj e; omega)).trans (heap_alloc2_old wz _ _)
                     have hs1 := hb1.size
                     have pc1 := (hb1.cell (p := ⟨pb, poff + j, none⟩) hpz).trans pcz
                     clear hg1)
                  | (refine step_append_row wz.heap.size 3 i0 (.int .i64 0) 1 8 hi0 hz0 hz1 hz2 rfl (by decide) (by decide) rfl (.tmp 49) (.tmp 54) 31 rfl Try.underlying31 _ rfl _ _ ho1 _ 1 1 rfl [.int .i64 x] rfl ?src ?one ?small ?base ?_
                     case src => exact Or.inl ⟨_, rfl, news_at (cs := #[.int .i64 x]) hx1⟩
                     case one => simp [Value.oneCell']
                     case small => omega
                     case base => exact hs1
                     intro v2 w2' ho2 hg2
                     have hb2 : Below wz.heap.size wz w2' := hb1.grown hg2 hs1 (fun k hk => row_own ho1 hk)
                     have hs2 := hb2.size
                     have pc2 := (hb2.cell (p := ⟨pb, poff + j, none⟩) hpz).trans pcz
                     clear hg2)
                  | (refine step_append_row wz.heap.size 3 i0 (.int .i64 0) 1 8 hi0 hz0 hz1 hz2 rfl (by decide) (by decide) rfl (.tmp 49) (.tmp 54) 31 rfl Try.underlying31 _ rfl _ _ (ho1.alloc _) _ 1 1 rfl [.int .i64 x] rfl ?src ?one ?small ?base ?_
                     case src => exact Or.inl ⟨_, rfl, news_at (cs := #[.int .i64 x]) (heap_alloc_new _ _)⟩
                     case one => simp [Value.oneCell']
                     case small => omega
                     case base => simp; omega
                     intro v2 w2' ho2 hg2
                     have hb2 : Below wz.heap.size wz w2' := (hb1.alloc hs1 _).grown hg2 (by simp; omega) (fun k hk => row_own ho1 hk)
                     have hs2 := hb2.size
                     have pc2 := (hb2.cell (p := ⟨pb, poff + j, none⟩) hpz).trans pcz
                     clear hg2)
                  | (refine step_append_row wz.heap.size 3 i0 (.int .i64 0) 1 8 hi0 hz0 hz1 hz2 rfl (by decide) (by decide) rfl (.tmp 55) (.tmp 58) 31 rfl Try.underlying31 _ rfl _ _ ho2 (some ⟨g, o.length, none⟩) 0 (vcap - o.length) rfl ((o.drop o.length).map (.int .i64)) ?len ?src ?one ?small ?base ?_
                     case len => simp
                     case src => exact Or.inl ⟨_, rfl, fun j u hj => by simp at hj⟩
                     case one => exact one_ints _
                     case small => omega
                     case base => exact hs2
                     intro v3 w3' ho3 hg3
                     have hb3 : Below wz.heap.size wz w3' := hb2.grown hg3 hs2 (fun k hk => row_own ho2 hk)
                     have pc3 := (hb3.cell (p := ⟨pb, poff + j, none⟩) hpz).trans pcz
                     clear hg3)))
              all_goals
                have hown9 : w3'.ownsRow w.heap.size 3 1 v3 (setI (l.take (j + 1))).length ((setI (l.take (j + 1))).map (Value.int .i64)) := by
                  rw [hsn.out, hP.out]
                  exact own_join (by rw [Nat.sub_self]; exact own_mono ho3 (Nat.le_trans hb.size hbz.size)) (Nat.le_refl _)
                have hb9 : Below w.heap.size w w3' := (hb.trans (hbz.mono hb.size)).trans (hb3.mono (Nat.le_trans hb.size hbz.size))
                clear ho3
                go_wp2_with fail
                go_roundw
                case rel => exact ⟨j + 1, by omega, by go_num, hb9, hown9⟩
                case measure => simp [intOf]; omega
    · have hk : l.take j = l := List.take_of_length_le (by omega)
      rw [hk] at hown
      clear hk
      go_wp2
      go_ret
      exact ⟨_, rfl, hown, hb⟩

end Go.Proofs.Ytbocefnfhnnbjaa
