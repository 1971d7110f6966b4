/-
  The walk of Holders. Condition of the contract: at most a million registrations.
-/
import Derived.Test.YtbocefnfhnnbjaaW4
import Derived.Test.YtbocefnfhnnbjaaShelf
import Derived.Sort.OwnSortedInts
namespace Go.Proofs.Ytbocefnfhnnbjaa
open Go.RowKit Go.Sort

def leI (a b : Int) : Bool := decide (a ≤ b)
theorem sort_perm {l l' : List Int} (h : l.Perm l') : l.mergeSort leI = l'.mergeSort leI := by
  have tr : ∀ a b c : Int, leI a b = true → leI b c = true → leI a c = true := by intro a b c h1 h2; unfold leI at *; simp at *; omega
  have to : ∀ a b : Int, (leI a b || leI b a) = true := by intro a b; unfold leI; simp; omega
  refine List.Perm.eq_of_pairwise (le := fun a b => leI a b = true) (fun a b _ _ h1 h2 => ?_) (List.pairwise_mergeSort tr to l) (List.pairwise_mergeSort tr to l') ((List.mergeSort_perm _ _).trans (h.trans (List.mergeSort_perm _ _).symm))
  unfold leI at h1 h2; simp at h1 h2; omega

def pick (id pg : Int) (l : List (Int × Int × Int)) : List Int := (l.filter (fun x => x.2 == (id, pg))).map (·.1)
theorem pick_perm (id pg : Int) {l l' : List (Int × Int × Int)} (h : l.Perm l') : (pick id pg l).Perm (pick id pg l') := (h.filter _).map _
theorem pick_snoc_yes (id pg s : Int) (l : List (Int × Int × Int)) : pick id pg (l ++ [(s, id, pg)]) = pick id pg l ++ [s] := by simp [pick]
theorem pick_snoc_no (id pg : Int) (l : List (Int × Int × Int)) (x : Int × Int × Int) (h : (x.2 == (id, pg)) = false) : pick id pg (l ++ [x]) = pick id pg l := by simp [pick, h]
theorem pick_length (id pg : Int) (l : List (Int × Int × Int)) : (pick id pg l).length ≤ l.length := by unfold pick; rw [List.length_map]; exact List.length_filter_le _ _
def holders (G : List ((Int × Int × Int) × Unit)) (id pg : Int) : List Int := (pick id pg (G.map (·.1))).mergeSort leI

theorem info3 : (Try.prog.info? 3).map (fun i => (i.zero, i.size, i.bytes)) = some (some (.int .i64 0), 1, 8) := by kernel_rfl

theorem nodup_length {α : Type} [DecidableEq α] : ∀ {l m : List α}, l.Nodup → (∀ x ∈ l, x ∈ m) → l.length ≤ m.length
  | [], m, _, _ => by simp
  | a :: l, m, hn, hs => by
    have ha : a ∈ m := hs a (by simp)
    have h1 : l.length ≤ (m.erase a).length := nodup_length (List.nodup_cons.1 hn).2 (fun x hx => by
      have hne : x ≠ a := fun e => (List.nodup_cons.1 hn).1 (e ▸ hx)
      exact (List.mem_erase_of_ne hne).2 (hs x (List.mem_cons_of_mem _ hx)))
    rw [List.length_erase_of_mem ha] at h1
    have : 0 < m.length := List.length_pos_of_mem ha
    simp; omega

theorem news_at {w : World} {g : Nat} {cs : Array Value} {t : TypeId} {fr : Nat × Nat} (hg : w.heap[g]? = some (.cells cs t fr)) : ∀ (j : Nat) (u : Value), cs.toList[j]? = some u → w.cell? ((⟨g, 0, none⟩ : Addr).add j) = some u := by
  intro j u hj
  have e : (⟨g, 0, none⟩ : Addr).add j = ⟨g, j, none⟩ := by unfold Addr.add; split <;> simp_all
  rw [e, cell_of_row w g j cs t fr hg, ← Array.getElem?_toList]; exact hj
theorem row_own {w : World} {base : Nat} {e : TypeId} {size : Nat} {v : Value} {n : Nat} {xs : List Value} (h : w.ownsRow base e size v n xs) {k : Nat} (hk : v.ownBlock = some k) : base ≤ k := by
  rcases h.2 with ⟨rfl, _⟩ | ⟨g, cap, cur, rfl, hb, _⟩
  · simp [Value.ownBlock] at hk
  · have : g = k := Option.some.inj hk; omega

theorem row_ne {w : World} {base : Nat} {e : TypeId} {size : Nat} {v : Value} {n : Nat} {xs : List Value} (h : w.ownsRow base e size v n xs) {k : Nat} (hk : k < base) : v.ownBlock = none ∨ v.ownBlock ≠ some k := by
  rcases h.2 with ⟨rfl, _⟩ | ⟨g, cap, cur, rfl, hb, _⟩
  · exact Or.inl rfl
  · right; intro e; have : g = k := Option.some.inj e; omega

set_option maxHeartbeats 2000000 in
set_option maxRecDepth 100000 in
theorem holders_any (w : World) (db rb cb gb : Nat) (c : Int) (R C G) (id pg : Int) (h : Dir w db rb cb gb c R C G) (hG : G.length ≤ 1000000) :
    Calls Try.prog 23 #[.pointer (some ⟨db, 0, none⟩), .int .i64 id, .int .i64 pg] w fun e w' =>
      ∃ v, e = .returned v ∧ w'.ownsRow w.heap.size 3 1 v (holders G id pg).length ((holders G id pg).map (Value.int .i64)) ∧ Below w.heap.size w w' := by
  have c3 : w.cell? ⟨db, 3, none⟩ = some (.map (some gb)) := cell_at (i := 3) h.blk rfl
  obtain ⟨i0, hi0, hz0, hz1, hz2⟩ := info_parts info3
  go_enter Try.func23, Try.ntmps23
  go_wp2_with (at_range; refine wpList_arange rfl _ rfl Try.underlying71 h.reg rfl ?_; intro w1 hr1 hg1 hs1)
  go_frame
  go_loopw [7, 8] (fun v _ wr => ∃ S, arange wr gb w.heap.size kReg vUnit okR G S ∧ Below w.heap.size w wr ∧ wr.heap.size ≥ w.heap.size + 1 ∧ S.Nodup ∧ (∀ x ∈ S, x ∈ G.map (·.1)) ∧
      wr.ownsRow (w.heap.size + 1) 3 1 v (pick id pg S.reverse).length ((pick id pg S.reverse).map (Value.int .i64))) (fun _ _ wr => wr.rangeLeft gb w.heap.size)
  case atStart =>
    refine ⟨[], hr1, (Below.refl _ _).grown hg1 (by simp) (fun k hk => by simp at hk), by omega, by simp, by simp, ?_⟩
    exact ⟨rfl, Or.inl ⟨rfl, rfl⟩⟩
  case round =>
    clear hr1 hg1 hs1
    obtain ⟨S, hr, hb, hsz, hnd, hsub, hown⟩ := hrel
    have HN := Lib.hid hnd
    have HU := Lib.hid hsub
    clear hnd hsub
    go_wp2_with (at_next; refine wpList_anext rfl _ rfl hr rfl ?_ ?_)
    · intro hdone
      have hperm : (pick id pg S.reverse).Perm (pick id pg (G.map (·.1))) := by
        refine pick_perm id pg ((List.reverse_perm S).trans ?_)
        rw [List.perm_ext_iff_of_nodup HN.out (amap_nodup h.reg)]
        intro x
        exact ⟨fun hx => HU.out x hx, fun hx => by obtain ⟨p, hp, rfl⟩ := List.mem_map.1 hx; exact hdone p.1.1 p.1.2.1 p.1.2.2 p.2 hp⟩
      have hsort := Lib.hid (sort_perm hperm)
      have hlen := Lib.hid hperm.length_eq
      clear hperm hdone
      generalize pick id pg S.reverse = fin at hown hsort hlen
      rcases hown.2 with ⟨rfl, hn⟩ | ⟨g, cap, cur, rfl, hbase, hblk, q1, q2, q3, q4⟩
      · have hfin : fin = [] := List.length_eq_zero_iff.1 hn
        subst hfin
        have hh : holders G id pg = [] := by unfold holders; rw [← hsort.out]; simp
        have HH := Lib.hid hh
        clear hh hn hown
        go_wp2_with (go_at_call 36; refine (Try.slices_Sort_int_none none 0 _).mono ?_; rintro e w2 ⟨rfl, rfl⟩)
        go_ret
        exact ⟨_, rfl, by rw [HH.out]; exact ⟨rfl, Or.inl ⟨rfl, rfl⟩⟩, hb⟩
      · have hH : Holds (Value.int .i64) wr g 0 fin.toArray := holds_of_blockI hblk (by rw [Nat.mul_one] at q4; exact q4)
        have hgl := lt_of_block hblk
        have hfl : fin.length < 4611686018427387904 := by
          rw [hlen.out]; have := pick_length id pg (G.map (·.1)); rw [List.length_map] at this; omega
        go_wp2_with fail
        refine (Try.slices_Sort_int g 0 cap fin wr hH hgl hfl).mono ?_
        rintro e w2 ⟨rfl, n, os, rfl⟩
        have hs := ownsRow_sortedI (n := n) (os := os) (ss := fin) (ts := fin.mergeSort leI) (by simp) (show w.heap.size ≤ g by omega) hblk q1 q2 q3
        have hgr := grownBy_sortedI (w := wr) (g := g) (n := n) (os := os) (fin.mergeSort leI).toArray
        have hb2 := hb.grown hgr (by have := hb.size; omega) (fun k hk => by simp at hk; omega)
        have e1 : (fin.mergeSort fun x y => decide (x ≤ y)) = fin.mergeSort leI := rfl
        rw [e1]
        generalize grow (putRow (Value.int IntKind.i64) (Sort.ahead wr n) g 0 (fin.mergeSort leI).toArray) os = w3 at hs hb2 ⊢
        go_wp2
        go_ret
        refine ⟨_, rfl, ?_, hb2⟩
        unfold holders
        rw [← hsort.out, List.length_mergeSort]
        exact hs
    · intro s id' pg' v w2 hm hz hk hr2 hg2 hs2 hen
      simp only [kReg, vUnit] at hen
      have HM := Lib.hid hm
      have HZ := Lib.hid hz
      clear hm hz
      have hb2 : Below w.heap.size w w2 := hb.grown hg2 hb.size (fun k hk => by simp at hk; omega)
      have hown2 : w2.ownsRow (w.heap.size + 1) 3 1 _ _ _ := hown.kept hg2 (row_ne hown (by omega))
      have hb3 := hb2.alloc hb2.size (.cells #[.int .i64 s, .int .i64 id', .int .i64 pg'] 80)
      have hown3 := hown2.alloc (.cells #[.int .i64 s, .int .i64 id', .int .i64 pg'] 80)
      have hx : (w2.alloc (.cells #[.int .i64 s, .int .i64 id', .int .i64 pg'] 80)).heap[wr.heap.size]? = some (.cells #[.int .i64 s, .int .i64 id', .int .i64 pg'] 80 (0, 0)) := by rw [← hs2]; exact heap_alloc_new _ _
      have hr3 : arange (w2.alloc (.cells #[.int .i64 s, .int .i64 id', .int .i64 pg'] 80)) gb w.heap.size kReg vUnit okR G ((s, id', pg') :: S) :=
        arange_keep hr2 (halloc _ _ (amap_lt (arange_amap hr2))) (halloc _ _ (arange_lt hr2))
      have x0 := cell_at (i := 0) hx rfl
      have x1 := cell_at (i := 1) hx rfl
      have x2 := cell_at (i := 2) hx rfl
      have hs3 : (w2.alloc (.cells #[.int .i64 s, .int .i64 id', .int .i64 pg'] 80)).heap.size = wr.heap.size + 1 := by simp [hs2]
      have HS3 := Lib.hid hs3
      have HX := Lib.hid hx
      clear hx hs3
      by_cases hmatch : id' = id ∧ pg' = pg
      · obtain ⟨rfl, rfl⟩ := hmatch
        have b1 : (id' == id') = true := by simp
        have b2 : (pg' == pg') = true := by simp
        have hnl : (pick id' pg' S.reverse).length ≤ 1000000 := by
          have h1 := pick_length id' pg' S.reverse
          have h2 : S.length ≤ G.length := by
            have := nodup_length HN.out (fun x hx => HU.out x hx)
            simpa using this
          rw [List.length_reverse] at h1
          omega
        go_wp2_with (at_builtin; go_must (refine wpList_append_own _ rfl _ _ 31 rfl (w.heap.size + 1) 3 i0 (.int .i64 0) 1 8 Try.underlying31 hi0 hz0 hz1 hz2 rfl (by decide) _ _ _ rfl (hown3.alloc _) _ 1 1 [.int .i64 s] rfl rfl ?c1 ?c2 ?c3 ?c4 ?c5 ?_))
        case c1 => exact news_at (cs := #[.int .i64 s]) (by rw [← HS3.out]; exact heap_alloc_new _ _)
        case c2 => simp [Value.oneCell']
        case c3 => unfold maxLen; omega
        case c4 => omega
        case c5 => simp; omega
        intro v' w5 hown5 hg5 _
        have hb5 : Below w.heap.size w w5 := (hb3.alloc hb3.size _).grown hg5 (by have := hb3.size; simp; omega) (fun k hk => by have := row_own hown hk; omega)
        have hs5 := hg5.size
        have hr5 : arange w5 gb w.heap.size kReg vUnit okR G ((s, id', pg') :: S) := by
          have r4 := arange_keep (w' := (w2.alloc (.cells #[.int .i64 s, .int .i64 id', .int .i64 pg'] 80)).alloc (.cells #[.int .i64 s] 3)) hr3 (halloc _ _ (amap_lt (arange_amap hr3))) (halloc _ _ (arange_lt hr3))
          refine arange_keep r4 (hg5.block _ (amap_lt (arange_amap r4)) (fun e => ?_)) (hg5.block _ (arange_lt r4) (fun e => ?_))
          · have := row_own hown e.symm; have := amap_lt h.reg; omega
          · have := row_own hown e.symm; omega
        clear hown hown2 hown3 hg5 hen hr2 hr3 hg2 hb2 hb3
        go_wp2
        go_roundw
        case rel =>
          have hnd : ((s, id', pg') :: S).Nodup := List.nodup_cons.2 ⟨HZ.out, HN.out⟩
          have hsub : ∀ x ∈ ((s, id', pg') :: S), x ∈ G.map (·.1) := fun x hx => by
            rcases List.mem_cons.1 hx with rfl | hx
            · exact List.mem_map.2 ⟨_, HM.out, rfl⟩
            · exact HU.out x hx
          have hsz5 : w5.heap.size ≥ w.heap.size + 1 := by simp at hs5; omega
          have hown6 : w5.ownsRow (w.heap.size + 1) 3 1 v' (pick id' pg' ((s, id', pg') :: S).reverse).length ((pick id' pg' ((s, id', pg') :: S).reverse).map (Value.int .i64)) := by
            rw [List.reverse_cons, pick_snoc_yes, List.length_append, List.map_append]; exact hown5
          refine ⟨(s, id', pg') :: S, hr5, ?_⟩
          first | exact ⟨hb5, hsz5, hnd, hsub, hown6⟩ | exact ⟨hsz5, hnd, hsub, hown6⟩
        case measure => rw [arange_left hr, arange_left hr5]; exact left_lt HM.out HZ.out
      · have hp : ((id', pg') == (id, pg)) = false := by
          rw [beq_eq_false_iff_ne]; intro e; exact hmatch ⟨congrArg Prod.fst e, congrArg Prod.snd e⟩
        have HP := Lib.hid hp
        clear hp
        by_cases e1 : id' = id
        · have b1 : (id' == id) = true := by simpa using e1
          have b2 : (pg' == pg) = false := by rw [beq_eq_false_iff_ne]; exact fun e => hmatch ⟨e1, e⟩
          clear e1 hmatch
          go_wp2
          go_roundw
          case rel =>
            have hnd : ((s, id', pg') :: S).Nodup := List.nodup_cons.2 ⟨HZ.out, HN.out⟩
            have hsub : ∀ x ∈ ((s, id', pg') :: S), x ∈ G.map (·.1) := fun x hx => by
              rcases List.mem_cons.1 hx with rfl | hx
              · exact List.mem_map.2 ⟨_, HM.out, rfl⟩
              · exact HU.out x hx
            have hsz5 : (w2.alloc (.cells #[.int .i64 s, .int .i64 id', .int .i64 pg'] 80)).heap.size ≥ w.heap.size + 1 := by rw [HS3.out]; omega
            refine ⟨(s, id', pg') :: S, hr3, ?_⟩
            rw [List.reverse_cons, pick_snoc_no id pg _ _ HP.out]
            first | exact ⟨hb3, hsz5, hnd, hsub, hown3⟩ | exact ⟨hsz5, hnd, hsub, hown3⟩
          case measure => rw [arange_left hr, arange_left hr3]; exact left_lt HM.out HZ.out
        · have b1 : (id' == id) = false := by simpa using e1
          clear e1 hmatch
          go_wp2
          go_roundw
          case rel =>
            have hnd : ((s, id', pg') :: S).Nodup := List.nodup_cons.2 ⟨HZ.out, HN.out⟩
            have hsub : ∀ x ∈ ((s, id', pg') :: S), x ∈ G.map (·.1) := fun x hx => by
              rcases List.mem_cons.1 hx with rfl | hx
              · exact List.mem_map.2 ⟨_, HM.out, rfl⟩
              · exact HU.out x hx
            have hsz5 : (w2.alloc (.cells #[.int .i64 s, .int .i64 id', .int .i64 pg'] 80)).heap.size ≥ w.heap.size + 1 := by rw [HS3.out]; omega
            refine ⟨(s, id', pg') :: S, hr3, ?_⟩
            rw [List.reverse_cons, pick_snoc_no id pg _ _ HP.out]
            first | exact ⟨hb3, hsz5, hnd, hsub, hown3⟩ | exact ⟨hsz5, hnd, hsub, hown3⟩
          case measure => rw [arange_left hr, arange_left hr3]; exact left_lt HM.out HZ.out

end Go.Proofs.Ytbocefnfhnnbjaa
