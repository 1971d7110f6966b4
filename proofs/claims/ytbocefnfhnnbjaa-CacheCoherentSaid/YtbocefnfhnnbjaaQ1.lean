/-
  The walk of the law on coherence. No condition.
-/
import Derived.Test.YtbocefnfhnnbjaaQ0
import Derived.Test.YtbocefnfhnnbjaaO1
namespace Go.Proofs.Ytbocefnfhnnbjaa
open Go.RowKit Go.Sort

theorem coh_init {w w2 : World} {db rb cb gb : Nat} (capi : Int) (hst : St w w2 db rb cb gb 0 [] [] []) :
    CSt w (((w2.alloc (.map #[] 0)).alloc (.map #[] 0)).alloc (.cells #[.int .i64 0] 3)) capi db rb cb gb w2.heap.size (w2.heap.size + 1) (w2.heap.size + 1 + 1) 0 [] [] [] [] 0 [] := by
  have s1 : (w2.alloc (.map #[] 0)).heap.size = w2.heap.size + 1 := by simp
  have s2 : ((w2.alloc (.map #[] 0)).alloc (.map #[] 0)).heap.size = w2.heap.size + 2 := by simp
  have b1 : Below w2.heap.size w2 (w2.alloc (.map #[] 0)) := (Below.refl _ _).alloc (Nat.le_refl _) _
  have b2 : Below (w2.heap.size + 1) (w2.alloc (.map #[] 0)) ((w2.alloc (.map #[] 0)).alloc (.map #[] 0)) := by
    have : Below (w2.alloc (.map #[] 0)).heap.size (w2.alloc (.map #[] 0)) ((w2.alloc (.map #[] 0)).alloc (.map #[] 0)) := (Below.refl _ _).alloc (Nat.le_refl _) _
    rwa [s1] at this
  have b3 : Below (w2.heap.size + 2) ((w2.alloc (.map #[] 0)).alloc (.map #[] 0)) (((w2.alloc (.map #[] 0)).alloc (.map #[] 0)).alloc (.cells #[.int .i64 0] 3)) := by
    have : Below ((w2.alloc (.map #[] 0)).alloc (.map #[] 0)).heap.size ((w2.alloc (.map #[] 0)).alloc (.map #[] 0)) (((w2.alloc (.map #[] 0)).alloc (.map #[] 0)).alloc (.cells #[.int .i64 0] 3)) := (Below.refl _ _).alloc (Nat.le_refl _) _
    rwa [s2] at this
  have v1 : amap (w2.alloc (.map #[] 0)) w2.heap.size kInt vPtr I64 ([] : List (Int × Nat)) := amap_new w2 _ _ _
  have v2 : amap ((w2.alloc (.map #[] 0)).alloc (.map #[] 0)) (w2.heap.size + 1) kPlace vInt okP ([] : List ((Int × Int) × Int)) := by
    have := amap_new (w2.alloc (.map #[] 0)) kPlace vInt okP
    rwa [s1] at this
  have v3 := heap_alloc_new ((w2.alloc (.map #[] 0)).alloc (.map #[] 0)) (.cells #[.int .i64 0] 3)
  rw [s2] at v3
  have bb : Below w2.heap.size w2 (((w2.alloc (.map #[] 0)).alloc (.map #[] 0)).alloc (.cells #[.int .i64 0] 3)) := b1.trans ((b2.mono (by omega)).trans (b3.mono (by omega)))
  have hl := hst.lt
  have hw := hst.bel.size
  have e1 := hst.b1
  have e2 := hst.b2
  have e3 := hst.b3
  have e4 := hst.b4
  have hn : ∀ k, w2.heap.size ≤ k → k ∉ [db, rb, cb, gb] := fun k hk hm => by have := hl k hm; omega
  refine ⟨hst.dir.below bb, (hst.below bb).bel, ⟨amap_keep v1 ((b3.block _ (by omega)).trans (b2.block _ (by omega))), by simp, by simp, by simp, fun i hi => ?_, by simp⟩, amap_keep v2 (b3.block _ (by omega)), v3, fun i hi => ?_, ⟨hn _ (by omega), by omega, by omega⟩, ⟨hn _ (by omega), by omega⟩, hn _ (by omega)⟩
  · have hs : (((w2.alloc (.map #[] 0)).alloc (.map #[] 0)).alloc (.cells #[.int .i64 0] 3)).heap.size = w2.heap.size + 3 := by simp
    rw [hs]
    simp only [List.mem_cons, List.not_mem_nil, or_false] at hi hl
    have h1 := hl db (by simp)
    have h2 := hl rb (by simp)
    have h3 := hl cb (by simp)
    have h4 := hl gb (by simp)
    omega
  · simp only [List.mem_cons, List.not_mem_nil, or_false] at hi
    omega

theorem below_grownC {w w' : World} (hg : w.grownBy w' none) : Below w.heap.size w w' := ⟨hg.os, hg.tape, hg.output, hg.size, fun k hk => hg.block k hk (by simp)⟩
theorem filter_keys {κ ν : Type} [DecidableEq κ] (m : List (κ × ν)) (S : List κ) : (m.filter (fun p => decide (p.1 ∉ S))).length = ((m.map Prod.fst).filter (fun k => decide (k ∉ S))).length := by
  induction m with
  | nil => rfl
  | cons p m ih =>
    rw [List.map_cons, List.filter_cons, List.filter_cons]
    by_cases e : p.1 ∈ S
    · rw [if_neg (by simpa using e), if_neg (by simpa using e)]; exact ih
    · rw [if_pos (by simpa using e), if_pos (by simpa using e), List.length_cons, List.length_cons, ih]
theorem left_aset {κ ν : Type} [DecidableEq κ] {m : List (κ × ν)} {k : κ} (h : k ∈ m.map Prod.fst) (v : ν) (S : List κ) : ((aset m k v).filter (fun p => decide (p.1 ∉ S))).length = (m.filter (fun p => decide (p.1 ∉ S))).length := by
  rw [filter_keys, filter_keys, aset_keys, if_pos h]
theorem CohI.change' {n : Nat} {c : Int} {R : List (Int × Int)} {C D : List ((Int × Int) × Int)} {PL : List PR} (h : CohI n c R C D PL) (id : Int) (l : List Int) : CohI (n + 1) (c + 1) R (chaAll C id (c + 1) l) (chaAll D id ((n : Int) + 1) l) PL := h.change id l
theorem CohI.renew' {n : Nat} {c : Int} {R : List (Int × Int)} {C D D' : List ((Int × Int) × Int)} {PL : List PR} (h : CohI n c R C D PL) (id : Int) (pg : Int) (hD : ∀ x : Pl, x.1 ≠ id → alook D' x = alook D x) (hn : ∀ k v, alook D' k = some v → 0 ≤ v ∧ v ≤ (n : Int) + 1) : CohI (n + 1) (c + 1) (aset R id (c + 1)) C (aset D' (id, pg) ((n : Int) + 1)) PL := by
  refine h.renew id (fun x hx => ?_) (fun k v hv => ?_)
  · rw [alook_aset, if_neg (fun e => hx (by rw [← e]))]; exact hD x hx
  · rw [alook_aset] at hv
    split at hv
    · have := Option.some.inj hv; omega
    · have := hn k v hv; omega

theorem info67 : (Try.prog.info? 67).map (·.size) = some 2 := by kernel_rfl
theorem info64 : (Try.prog.info? 64).map (·.size) = some 3 := by kernel_rfl
/-- A place, a disk: loaded whole. -/
def loadPk (p : Addr) : Sem Value := loadVar 67 p
theorem loadPk_down (p : Addr) : loadVar 67 p = loadPk p := rfl
theorem loadPk_at {w : World} {g : Nat} {cs : Array Value} {t : TypeId} {fr : Nat × Nat} (hg : w.heap[g]? = some (.cells cs t fr)) (hi : cs.size = 2) : (loadPk ⟨g, 0, none⟩).run Try.prog w = .ok (.agg cs) w :=
  run_loadVar_row (P := Try.prog) w g t 67 cs fr _ hg Try.underlying67 rfl (by rw [info67, hi])
def loadDk (p : Addr) : Sem Value := loadVar 64 p
theorem loadDk_down (p : Addr) : loadVar 64 p = loadDk p := rfl
theorem loadDk_at {w : World} {g : Nat} {cs : Array Value} {t : TypeId} {fr : Nat × Nat} (hg : w.heap[g]? = some (.cells cs t fr)) (hi : cs.size = 3) : (loadDk ⟨g, 0, none⟩).run Try.prog w = .ok (.agg cs) w :=
  run_loadVar_row (P := Try.prog) w g t 64 cs fr _ hg Try.underlying64 rfl (by rw [info64, hi])
attribute [local go_sem ↓] loadPk_down loadDk_down

set_option maxHeartbeats 16000000 in
set_option maxRecDepth 100000 in
theorem lawcoherent (a : Option Addr) (cap : Nat) (l : List ActR) (cv : Int) (w : World) (h : Acts w w.heap.size a l) (hlen : l.length ≤ 9223372036854775807) (hcv : 0 ≤ cv ∧ cv ≤ 255) :
    Calls Try.prog 7 #[.slice a l.length cap, .int .u8 cv] w fun e w' => e = .returned (.bool true) ∧ Below w.heap.size w w' := by
  have hmm := @run_makeMap Try.prog
  cases hf : fewB l 60
  · have HF := Lib.hid hf
    clear hf
    go_enter Try.func7, Try.ntmps7
    go_wp2_with fail
    refine (few_any w a cap l 60 h (by omega) (by omega) hlen).mono ?_
    rintro e w1 ⟨rfl, hb1⟩
    rw [HF.out]
    go_wp2_with fail
    refine (awake_any w1).mono ?_
    rintro e w2 ⟨rfl, hb2⟩
    go_wp2_with fail
    go_ret
    exact ⟨rfl, hb1.trans (hb2.mono hb1.size)⟩
  · have HF := Lib.hid hf
    obtain ⟨hl60, hfew⟩ := few_acts hf
    have HW := Lib.hid hfew
    clear hf hfew
    obtain ⟨q8, hq8⟩ : ∃ q8 : Int, q8 = cv % 8 := ⟨_, rfl⟩
    have t8 : cv.tmod 8 = q8 := by rw [Int.tmod_eq_emod_of_nonneg (by omega)]; omega
    have q80 : 0 ≤ q8 := by omega
    have q81 : q8 < 8 := by omega
    have u1 : IntKind.i64.wrap cv = cv := IntWalk.i64_in _ (by omega)
    have u2 : IntKind.i64.wrap q8 = q8 := IntWalk.i64_in _ (by omega)
    have u3 : IntKind.i64.wrap (1 + q8) = 1 + q8 := IntWalk.i64_in _ (by omega)
    have HU := Lib.hid (And.intro t8 (And.intro u1 (And.intro u2 u3)))
    clear t8 u1 u2 u3 hq8
    go_enter Try.func7, Try.ntmps7
    go_wp2_with fail
    refine (few_any w a cap l 60 h (by omega) (by omega) hlen).mono ?_
    rintro e w1 ⟨rfl, hb1⟩
    rw [HF.out]
    go_wp2_with fail
    refine (new_so hb1).mono ?_
    rintro e w2 ⟨db, rb, cb, gb, rfl, hst, -⟩
    have HOS := Lib.hid (coh_init (1 + q8) hst)
    clear hst
    go_wp2_with fail
    generalize ((w2.alloc (.map #[] 0)).alloc (.map #[] 0)).alloc (.cells #[.int .i64 0] 3) = w3 at HOS ⊢
    generalize hkb : w2.heap.size + 1 = kb at HOS ⊢
    generalize hnb : kb + 1 = nb at HOS ⊢
    generalize w2.heap.size = vb at HOS ⊢
    clear hkb hnb
    go_loopw [9, 36] (fun cn k wr => ∃ (n : Nat) (c : Int) (R : List (Int × Int)) (C : List ((Int × Int) × Int)) (G : List ((Int × Int × Int) × Unit)) (D : List ((Int × Int) × Int)) (r : Int) (PL : List PR), n ≤ l.length ∧ k = .int .i64 n ∧ cn = .int .i64 n ∧ CSt w wr (1 + q8) db rb cb gb vb kb nb c R C G D r PL ∧ CohI n c R C D PL) (fun _ k _ => l.length - (intOf k).toNat)
    case atStart => exact ⟨0, 0, [], [], [], [], 0, [], by omega, rfl, rfl, HOS.out, CohI.nil⟩
    case round =>
      clear HOS
      obtain ⟨n, c, R, C, G, D, r, PL, hn, rfl, rfl, hO, hC⟩ := hrel
      have hr := h.below hO.bel
      by_cases hlt : n < l.length
      · have hx := hr.ok _ (List.getElem_mem hlt)
        have hxw := h.ok _ (List.getElem_mem hlt)
        have hxf := HW.out _ (List.getElem_mem hlt)
        obtain ⟨bb, off, rfl, hbb, c0, c1, c2, c3, c4⟩ := hr.get hlt
        generalize l[n] = x at hx hxw hxf c0 c1 c2 c3 c4
        have hOA := hO.below ((Below.refl _ _).alloc (Nat.le_refl _) (.cells #[.int .i64 x.kind, .int .i64 x.sys, .int .i64 x.id, .int .i64 x.pg, .slice x.pa x.pages.length x.pcap] 33))
        have hblk := heap_alloc_new wr (.cells #[.int .i64 x.kind, .int .i64 x.sys, .int .i64 x.id, .int .i64 x.pg, .slice x.pa x.pages.length x.pcap] 33)
        have xk := hx.kind
        have xs := hx.sys
        have xi := hx.id
        have xp := hx.pg
        have HI := Lib.hid hxw.pages
        have hpl : x.pages.length ≤ 10 := hxf.1
        have hX0 := Lib.hid hO.lap.low
        have hP0 : Hid (∀ p ∈ PL, ∀ i ∈ p.fp, i < wr.heap.size) := fun p hp => hO.lap.lt hp
        have HBK := Lib.hid hblk
        have HQ := Lib.hid hOA
        have HC := Lib.hid hC
        have hwr := hO.bel.size
        clear hO hxf hx hxw hOA hC hblk hr
        have hn1 : IntKind.i64.wrap ((n : Int) + 1) = ((n + 1 : Nat) : Int) := IntWalk.i64_in _ (by omega)
        go_upto_region 13 with (fail)
        have d0 := cell_at (i := 0) (v := .int .i64 x.kind) HBK.out rfl
        have d1 := cell_at (i := 1) (v := .int .i64 x.sys) HBK.out rfl
        have d2 := cell_at (i := 2) (v := .int .i64 x.id) HBK.out rfl
        have d3 := cell_at (i := 3) (v := .int .i64 x.pg) HBK.out rfl
        have d4 := cell_at (i := 4) (v := .slice x.pa x.pages.length x.pcap) HBK.out rfl
        clear c0 c1 c2 c3 c4
        generalize wr.alloc (.cells #[.int .i64 x.kind, .int .i64 x.sys, .int .i64 x.id, .int .i64 x.pg, .slice x.pa x.pages.length x.pcap] 33) = wq at HBK HQ d0 d1 d2 d3 d4 ⊢
        generalize wr.heap.size = xb at HBK hX0 hP0 hwr d0 d1 d2 d3 d4 ⊢
        obtain ⟨q5, hq5⟩ : ∃ q5, x.kind.tmod 5 = q5 := ⟨_, rfl⟩
        have hq5a : q5 < 5 := by rw [← hq5]; exact Int.tmod_lt_of_pos _ (by omega)
        have hq5b : -5 < q5 := by rw [← hq5]; exact Int.lt_tmod_of_pos _ (by omega)
        have hq5w : IntKind.i64.wrap q5 = q5 := IntWalk.i64_in _ (by omega)
        have HC0 := Lib.hid (And.intro HC.out.c0 HC.out.cn)
        by_cases k1 : q5 = 1
        · subst k1
          go_wp2_with fail
          go_loopw [115] (fun k wr => ∃ j : Nat, j ≤ x.pages.length ∧ k = .int .i64 j ∧ CSt w wr (1 + q8) db rb cb gb vb kb nb c R C G (chaAll D x.id ((n : Int) + 1) (x.pages.take j)) r PL ∧ wr.heap[xb]? = some (.cells #[.int .i64 x.kind, .int .i64 x.sys, .int .i64 x.id, .int .i64 x.pg, .slice x.pa x.pages.length x.pcap] 33 (0, 0))) (fun k _ => x.pages.length - (intOf k).toNat)
          case atStart => exact ⟨0, by omega, rfl, HQ.out, HBK.out⟩
          case round =>
            clear HQ HBK d0 d1 d2 d3 d4
            obtain ⟨j, hj, rfl, hq, hbk⟩ := hrel
            have hI := HI.out.below hq.bel
            have d2 := cell_at (i := 2) (v := .int .i64 x.id) hbk rfl
            by_cases hjl : j < x.pages.length
            · obtain ⟨pb, poff, hpa, hpb, pc⟩ := hI.get hjl
              have hyI := hI.wf _ (List.getElem_mem hjl)
              have hts := Lib.hid (take_snoc' x.pages j hjl)
              rw [hpa]
              have HPA := Lib.hid hpa
              clear hpa
              generalize x.pages[j] = y at pc hyI hts
              obtain ⟨w7, hrun, hm7, hg7, -⟩ := amap_update (P := Try.prog) (E := 3) keyPair Try.underlying61 hq.data (k := (x.id, y)) ⟨xi, hyI⟩ ((n : Int) + 1)
              simp only [kPlace, vInt] at hrun
              have hq7 := hq.dataStep hm7 hg7
              have hb7 : Hid (w7.heap[xb]? = some (.cells #[.int .i64 x.kind, .int .i64 x.sys, .int .i64 x.id, .int .i64 x.pg, .slice x.pa x.pages.length x.pcap] 33 (0, 0))) := Lib.hid ((hg7.block _ (lt_of_block hbk) (fun e => by
                have := hX0.out kb (by simp)
                have := Option.some.inj e
                omega)).trans hbk)
              have HQ7 : Hid (CSt w w7 (1 + q8) db rb cb gb vb kb nb c R C G (chaAll D x.id ((n : Int) + 1) (x.pages.take (j + 1))) r PL) := Lib.hid (by rw [hts.out, chaAll_snoc]; exact hq7)
              clear hm7 hg7 hq7 hq hbk hI
              go_wp2_with fail
              go_roundw
              case rel => exact ⟨j + 1, by omega, by go_num, HQ7.out, by rw [← HPA.out]; exact hb7.out⟩
              case measure => simp [intOf]; omega
            · have hkl : x.pages.take j = x.pages := List.take_of_length_le (by omega)
              rw [hkl] at hq
              clear hkl
              have d4 := cell_at (i := 4) (v := .slice x.pa x.pages.length x.pcap) hbk rfl
              have hcc := HC0.out
              have HQ := Lib.hid hq
              clear hq hbk
              go_wp2_with fail
              refine (change_so (B := w.heap.size) x.id HQ.out.st xi hcc.1 (by omega) hI (by omega) HQ.out.bel.size (fun b off hne e hm => by
                obtain ⟨b', off', e', hb', _⟩ := hI.cells hne
                rw [e'] at e
                have hbb := plain_block e
                have h1 := HQ.out.lo db (by simp); have h2 := HQ.out.lo cb (by simp); have h3 := HQ.out.lo gb (by simp)
                subst hbb; simp at hm; omega)).mono ?_
              rintro e w5 ⟨rfl, hst', ho'⟩
              have HQ5 := Lib.hid (HQ.out.dirStep hst'.dir ho')
              clear hst' ho' d2 d4 hI
              go_wp2_with fail
              go_roundw
              case rel => exact ⟨n + 1, _, _, _, _, _, _, _, by omega, by go_num, by go_num, HQ5.out, HC.out.change' x.id x.pages⟩
              case measure => simp [intOf]; omega
        · by_cases k2 : q5 = 2
          · subst k2
            have hq := HQ.out
            go_wp2_with (at_range; refine wpList_arange rfl _ rfl Try.underlying61 hq.data rfl ?_; intro w4 hr4 hg4 hs4)
            go_frame
            have hq4 := hq.below (below_grownC hg4)
            have hbk4 := heap_below (below_grownC hg4) (lt_of_block HBK.out) HBK.out
            have hibX : wq.heap.size ∉ [db, rb, cb, gb, vb, kb, nb] := fun e => by have := hq.lap.low _ e; omega
            have hibP : Hid (∀ p ∈ PL, wq.heap.size ∉ p.fp) := Lib.hid (fun p hp e => by have := hq.lap.lt hp _ e; omega)
            have hibw : w.heap.size ≤ wq.heap.size := hq.bel.size
            have hibb : xb ≠ wq.heap.size := by have := lt_of_block HBK.out; omega
            clear hq HQ HBK d0 d1 d2 d3 d4 hg4 hs4
            generalize wq.heap.size = ib at hr4 hibX hibP hibw hibb ⊢
            go_loopw [14] (fun _ wr => ∃ (S : List (Int × Int)) (Dr : List ((Int × Int) × Int)), arange wr kb ib kPlace vInt okP Dr S ∧ CSt w wr (1 + q8) db rb cb gb vb kb nb c R C G Dr r PL ∧ Hid (∀ x' : Pl, x'.1 ≠ x.id → alook Dr x' = alook D x') ∧ Hid (∀ k v, alook Dr k = some v → 0 ≤ v ∧ v ≤ (n : Int) + 1) ∧ wr.heap[xb]? = some (.cells #[.int .i64 x.kind, .int .i64 x.sys, .int .i64 x.id, .int .i64 x.pg, .slice x.pa x.pages.length x.pcap] 33 (0, 0))) (fun _ wr => wr.rangeLeft kb ib)
            case atStart => exact ⟨[], D, hr4, hq4, Lib.hid (fun _ _ => rfl), Lib.hid (fun k v hv => by have := HC.out.num k v hv; omega), hbk4⟩
            case round =>
              clear hr4 hq4 hbk4
              obtain ⟨S, Dr, hr, hq, HDr, HNr, hbk⟩ := hrel
              go_wp2_with (at_next; refine wpList_anext rfl _ rfl hr rfl ?_ ?_)
              · intro hdone
                clear hdone hr
                have e2 := cell_at (i := 2) (v := .int .i64 x.id) hbk rfl
                have e3 := cell_at (i := 3) (v := .int .i64 x.pg) hbk rfl
                obtain ⟨w7, hrun, hm7, hg7, -⟩ := amap_update (P := Try.prog) (E := 3) keyPair Try.underlying61 hq.data (k := (x.id, x.pg)) ⟨xi, xp⟩ ((n : Int) + 1)
                simp only [kPlace, vInt] at hrun
                have hbk7 := (hg7.block _ (lt_of_block hbk) (fun e => by
                  have := hX0.out kb (by simp)
                  have := Option.some.inj e
                  omega)).trans hbk
                have f2 := cell_at (i := 2) (v := .int .i64 x.id) hbk7 rfl
                have HQ7 := Lib.hid (hq.dataStep hm7 hg7)
                have hcc := HC0.out
                have HCR := Lib.hid (HC.out.renew' x.id x.pg HDr.out HNr.out)
                clear hm7 hg7 hbk7 hbk hq HDr HNr
                go_wp2_with fail
                refine (renew_so x.id HQ7.out.st xi hcc.1 (by omega)).mono ?_
                rintro e w8 ⟨rfl, hst', ho'⟩
                have HQ8 := Lib.hid (HQ7.out.dirStep hst'.dir ho')
                clear hst' ho' e2 e3 f2
                go_wp2_with fail
                go_roundw
                case rel => exact ⟨n + 1, _, _, _, _, _, _, _, by omega, by go_num, by go_num, HQ8.out, HCR.out⟩
                case measure => simp [intOf]; omega
              · intro a1 a2 v w5 hmem hz hk hr5 hg5 hs5 hen
                simp only [kPlace, vInt] at hen
                have hq5s := hq.aside hibX hibP.out hibw hg5
                have hbk5 := (hg5.block _ (lt_of_block hbk) (fun e => hibb (Option.some.inj e))).trans hbk
                have hbx5 : Below w5.heap.size w5 (w5.alloc (.cells #[.int .i64 a1, .int .i64 a2] 67)) := (Below.refl _ _).alloc (Nat.le_refl _) _
                have hbxk := heap_alloc_new w5 (.cells #[.int .i64 a1, .int .i64 a2] 67)
                have hqx := hq5s.below hbx5
                have hrx := arange_keep hr5 (hbx5.block _ (amap_lt (arange_amap hr5))) (hbx5.block _ (arange_lt hr5))
                have hbkx := heap_below hbx5 (lt_of_block hbk5) hbk5
                have hL := left_lt hmem hz
                rw [← arange_left hr] at hL
                have HLv := Lib.hid hL
                have hin : (a1, a2) ∈ Dr.map Prod.fst := List.mem_map.2 ⟨_, hmem, rfl⟩
                have hnd := hs5
                rw [hs5] at hbxk
                clear hL hmem hz hq hr hg5 hq5s hbk5 hbx5 hr5 hbk
                go_upto_region 40 with (fail)
                clear hen
                generalize w5.alloc (.cells #[.int .i64 a1, .int .i64 a2] 67) = wo at hqx hrx hbxk hbkx ⊢
                generalize wr.heap.size = xk at hbxk ⊢
                have b0 := cell_at (i := 0) (v := .int .i64 a1) hbxk rfl
                have b2 := cell_at (i := 2) (v := .int .i64 x.id) hbkx rfl
                have hld := loadPk_at hbxk rfl
                by_cases hka : a1 = x.id
                · subst hka
                  obtain ⟨w7, hrun, hr7, hg7, hs7⟩ := arange_update (P := Try.prog) (E := 3) keyPair Try.underlying61 hrx hin ((n : Int) + 1)
                  simp only [kPlace, vInt] at hrun
                  have HQ7 := Lib.hid (hqx.dataStep (arange_amap hr7) hg7)
                  have HBK7 := Lib.hid ((hg7.block _ (lt_of_block hbkx) (fun e => by
                    have := hX0.out kb (by simp)
                    have := Option.some.inj e
                    omega)).trans hbkx)
                  have HR7 := Lib.hid hr7
                  have HD7 : Hid (∀ x' : Pl, x'.1 ≠ x.id → alook (aset Dr (x.id, a2) ((n : Int) + 1)) x' = alook D x') := Lib.hid (fun x' hx' => by
                    rw [alook_aset, if_neg (fun e => hx' (by rw [← e]))]
                    exact HDr.out x' hx')
                  have HN7 : Hid (∀ k v, alook (aset Dr (x.id, a2) ((n : Int) + 1)) k = some v → 0 ≤ v ∧ v ≤ (n : Int) + 1) := Lib.hid (fun k v hv => by
                    rw [alook_aset] at hv
                    split at hv
                    · have := Option.some.inj hv; omega
                    · exact HNr.out k v hv)
                  have HM7 : Hid (w7.rangeLeft kb ib < wr.rangeLeft kb ib) := Lib.hid (by
                    rw [arange_left hr7, left_aset hin]; exact HLv.out)
                  have HBX := Lib.hid hbkx
                  clear hqx hrx hbkx hr7 hg7 hs7 hin HDr HNr HLv
                  go_wp2_with fail
                  go_roundw
                  case rel => exact ⟨_, _, HR7.out, HQ7.out, HD7, HN7, HBK7.out⟩
                  case measure => exact HM7.out
                · have HQX := Lib.hid hqx
                  have HRX := Lib.hid hrx
                  have HBX := Lib.hid hbkx
                  have HMX : Hid (wo.rangeLeft kb ib < wr.rangeLeft kb ib) := Lib.hid (by
                    rw [arange_left hrx]; exact HLv.out)
                  clear hqx hrx hbkx hin HLv
                  go_wp2_with fail
                  go_roundw
                  case rel => exact ⟨_, _, HRX.out, HQX.out, HDr, HNr, HBX.out⟩
                  case measure => exact HMX.out
          · by_cases k3 : q5 = 3
            · subst k3
              go_wp2_with fail
              refine (forget_so x.sys HQ.out.st).mono ?_
              rintro e w5 ⟨rfl, hst', ho'⟩
              have HQ5 := Lib.hid (HQ.out.dirStep hst'.dir ho')
              clear hst' ho' d0 d1 d2 d3 d4
              go_wp2_with fail
              go_roundw
              case rel => exact ⟨n + 1, _, _, _, _, _, _, _, by omega, by go_num, by go_num, HQ5.out, HC.out.up⟩
              case measure => simp [intOf]; omega
            · obtain ⟨t8, u1, u2, u3⟩ := HU.out
              have L := amap_lookup_ok (P := Try.prog) (T := 52) (E := 53) keyInt Try.underlying52 HQ.out.lap.map (k := x.sys) xs (zero53 _)
              cases hl : alook (PL.map fun p => (p.sys, p.pb)) x.sys with
              | some pb0 =>
                obtain ⟨L1, p, L2, rfl, hs, hpb, hoth⟩ := HQ.out.lap.find hl
                obtain ⟨s0, base, pb, mb, oa, oc, hh, mm, M, O⟩ := p
                simp only at hs hpb
                subst hpb
                rw [hl] at L
                simp only [Option.map_some, Option.getD_some, Option.isSome_some, vPtr, kInt] at L
                have HQ0 := HQ
                clear HQ
                have HQ := HQ0
                rw [hs] at HQ
                have HC' := HC
                rw [hs] at HC'
                have hxf : xb ∉ fpO pb mb oa := fun e => by have := hP0.out _ (List.mem_append.2 (Or.inr List.mem_cons_self)) xb e; omega
                clear hoth hl HQ0 HC
                have HC := HC'
                clear HC'
                go_upto_region 21 with (fail)
                clear L d0 d1 d2 d3 d4
                have hb4 : Below wq.heap.size wq (wq.alloc (.cells #[.int .i64 x.id, .map (some kb), .pointer (some ⟨nb, 0, none⟩)] 64)) := (Below.refl _ _).alloc (Nat.le_refl _) _
                have HQ4 := Lib.hid (HQ.out.below hb4)
                have hs4 := heap_alloc_new wq (.cells #[.int .i64 x.id, .map (some kb), .pointer (some ⟨nb, 0, none⟩)] 64)
                have hbk4 := heap_below hb4 (lt_of_block HBK.out) HBK.out
                have hss4 : (wq.alloc (.cells #[.int .i64 x.id, .map (some kb), .pointer (some ⟨nb, 0, none⟩)] 64)).heap.size = wq.heap.size + 1 := by simp
                have hfs : wq.heap.size ∉ fpO pb mb oa := fun e => by
                  have := HQ.out.lap.lt (List.mem_append.2 (Or.inr List.mem_cons_self)) _ e
                  omega
                have hxs : wq.heap.size ∉ [db, rb, cb, gb, vb, kb, nb] := fun e => by
                  have := HQ.out.lap.low _ e
                  omega
                have d2 := cell_at (i := 2) (v := .int .i64 x.id) HBK.out rfl
                go_upto_region 22 with (fail)
                have HRD := Lib.hid (HQ4.out.reader (fun k v hv => by have := HC.out.num k v hv; omega) x.id)
                have hpO : O.length ≤ 9000 := by
                  have := HC.out.len _ (List.mem_append.2 (Or.inr List.mem_cons_self))
                  simp only at this
                  omega
                have hxs0 : xb < wq.heap.size := lt_of_block HBK.out
                clear HQ HBK d2 hb4
                generalize wq.alloc (.cells #[.int .i64 x.id, .map (some kb), .pointer (some ⟨nb, 0, none⟩)] 64) = w4 at HQ4 hs4 hbk4 hss4 HRD ⊢
                generalize wq.heap.size = sb at hs4 hss4 hfs hxs hxs0 ⊢
                have e1 := cell_at (i := 1) (v := .int .i64 x.sys) hbk4 rfl
                have e2 := cell_at (i := 2) (v := .int .i64 x.id) hbk4 rfl
                have hld := loadDk_at hs4 rfl
                have HS4 := Lib.hid hs4
                have HBK4 := Lib.hid hbk4
                clear hs4 hbk4
                go_wp2_with fail
                refine HRD.out.mono ?_
                rintro e w5 ⟨rfl, hR5, hb5, hQ5⟩
                have hbk5 := heap_below hb5 (lt_of_block HBK4.out) HBK4.out
                have hs5 := heap_below hb5 (lt_of_block HS4.out) HS4.out
                have f3 := cell_at (i := 3) (v := .int .i64 x.pg) hbk5 rfl
                have HPG5 := Lib.hid (rdPage_any w5 _ base pb mb oa oc (1 + q8) hh mm M O db rb cb gb c R C G _ nb 3 D r x.sys x.id x.pg hR5 xs xi xp hpO)
                have HQ5 := Lib.hid hQ5
                have HBK5 := Lib.hid hbk5
                have HS5 := Lib.hid hs5
                generalize w4.heap.size = rb0 at HPG5 ⊢
                have hni : ∀ W, (binOp .eql 59 (rdV rb0) .nilIface).run Try.prog W = .ok (.bool false) W := fun _ => rfl
                unfold rdV at hni ⊢
                clear hR5 hb5 hQ5 hbk5 hs5 e1 e2 hld HQ4 HS4 HBK4 HRD hss4
                go_wp2_with fail
                refine HPG5.out.mono ?_
                rintro e w6 ⟨⟨d, n6, rfl⟩, oa6, oc6, h6, m6, M6, O6, G6, r6, hR6, ho6, hn6, hP6⟩
                obtain ⟨hee, hC6⟩ := HC.out.read hP6 (base := base) (pb := pb) (mb := mb) (oa := oa6) (oc := oc6) (h' := h6) (m' := m6)
                have hQ6 := HQ5.out.read hR6 ho6 hn6
                have hrv : readV D x.id x.pg = .tuple #[.string d, .int .i64 n6] := by
                  injection hee with hee
                  exact hee.symm
                have hbk6 := ho6.heap HBK5.out (fun e => by
                  rcases List.mem_append.1 e with e | e
                  · exact hxf e
                  · have := hX0.out xb (by simp at e ⊢; omega)
                    omega)
                have hs6 := ho6.heap HS5.out (fun e => by
                  rcases List.mem_append.1 e with e | e
                  · exact hfs e
                  · exact hxs (by simp at e ⊢; omega))
                have g3 := cell_at (i := 3) (v := .int .i64 x.pg) hbk6 rfl
                have hld6 := loadDk_at hs6 rfl
                have HD6 := Lib.hid (hQ6.disk (fun k v hv => by have := HC.out.num k v hv; omega) x.id x.pg xi xp)
                have HC6 := Lib.hid hC6
                have HRV := Lib.hid hrv
                clear hR6 ho6 hn6 hP6 hee hC6 hQ6 hrv hbk6 hs6 f3 hni HPG5 HQ5 HBK5 HS5
                go_wp2_with fail
                refine HD6.out.mono ?_
                rintro e w7 ⟨he, hQ7, -⟩
                rw [HRV.out] at he
                subst he
                have HQ7 := Lib.hid hQ7
                clear hQ7 g3 hld6 HD6
                go_wp2_with fail
                go_roundw
                case rel => exact ⟨n + 1, _, _, _, _, _, _, _, by omega, by go_num, by go_num, HQ7.out, HC6.out⟩
                case measure => simp [intOf]; omega
              | none =>
                have hfr := HQ.out.lap.fresh hl
                rw [hl] at L
                simp only [Option.map_none, Option.getD_none, Option.isSome_none, kInt] at L
                have HOA := HQ
                have HFR := Lib.hid hfr
                clear hfr hl HQ
                go_wp2_with fail
                refine (poolNew_any wq (1 + q8) (by omega) (by omega)).mono ?_
                rintro e wn ⟨pb, mb, rfl, hpool, hbn, hpb, hmb⟩
                obtain ⟨wu, hrunu, hmu, hgu, -⟩ := amap_update (P := Try.prog) (E := 53) keyInt Try.underlying52 (HOA.out.below hbn).lap.map (k := x.sys) xs pb
                simp only [kInt, vPtr] at hrunu
                have hbkn := heap_below hbn (lt_of_block HBK.out) HBK.out
                have HBKn := HBK
                clear HBK
                have HBK := Lib.hid ((hgu.block _ (lt_of_block hbkn) (fun e => by
                  have := hX0.out vb (by simp)
                  obtain rfl := Option.some.inj e
                  omega)).trans hbkn)
                have hxw := lt_of_block HBKn.out
                have HCn := HC
                clear HC
                obtain ⟨base, oa, oc, hh, mm, M, O, HQ, HC, hxf⟩ : ∃ (base : Nat) (oa : Option Addr) (oc : Nat) (hh mm : Int) (M : List (Pl × Ct)) (O : List Pl), Hid (CSt w wu (1 + q8) db rb cb gb vb kb nb c R C G D r (PL ++ ⟨x.sys, base, pb, mb, oa, oc, hh, mm, M, O⟩ :: [])) ∧ Hid (CohI n c R C D (PL ++ ⟨x.sys, base, pb, mb, oa, oc, hh, mm, M, O⟩ :: [])) ∧ xb ∉ fpO pb mb oa :=
                  ⟨pb + 1, none, 0, 0, 0, [], [], Lib.hid (HOA.out.newPool HFR.out hpool hbn hpb hmb hmu hgu), Lib.hid HCn.out.new, fun e => by
                    rw [fpO_mem] at e
                    rcases e with e | e | ⟨q, hq, _⟩
                    · omega
                    · omega
                    · simp at hq⟩
                have m1 := cell_at (i := 1) (v := .int .i64 x.sys) hbkn rfl
                have k2 := cell_at (i := 2) (v := .int .i64 x.id) HBK.out rfl
                clear hpool hbn hmu hgu hbkn HBKn HOA HFR HCn L d0 d1 d2 d3 d4 hP0 hpb hmb hxw
                clear wq
                obtain ⟨wq, hwq⟩ : ∃ wq, wq = wu := ⟨_, rfl⟩
                subst hwq
                go_upto_region 21 with (fail)
                clear hrunu m1 k2
                have hb4 : Below wq.heap.size wq (wq.alloc (.cells #[.int .i64 x.id, .map (some kb), .pointer (some ⟨nb, 0, none⟩)] 64)) := (Below.refl _ _).alloc (Nat.le_refl _) _
                have HQ4 := Lib.hid (HQ.out.below hb4)
                have hs4 := heap_alloc_new wq (.cells #[.int .i64 x.id, .map (some kb), .pointer (some ⟨nb, 0, none⟩)] 64)
                have hbk4 := heap_below hb4 (lt_of_block HBK.out) HBK.out
                have hss4 : (wq.alloc (.cells #[.int .i64 x.id, .map (some kb), .pointer (some ⟨nb, 0, none⟩)] 64)).heap.size = wq.heap.size + 1 := by simp
                have hfs : wq.heap.size ∉ fpO pb mb oa := fun e => by
                  have := HQ.out.lap.lt (List.mem_append.2 (Or.inr List.mem_cons_self)) _ e
                  omega
                have hxs : wq.heap.size ∉ [db, rb, cb, gb, vb, kb, nb] := fun e => by
                  have := HQ.out.lap.low _ e
                  omega
                have d2 := cell_at (i := 2) (v := .int .i64 x.id) HBK.out rfl
                go_upto_region 22 with (fail)
                have HRD := Lib.hid (HQ4.out.reader (fun k v hv => by have := HC.out.num k v hv; omega) x.id)
                have hpO : O.length ≤ 9000 := by
                  have := HC.out.len _ (List.mem_append.2 (Or.inr List.mem_cons_self))
                  simp only at this
                  omega
                have hxs0 : xb < wq.heap.size := lt_of_block HBK.out
                clear HQ HBK d2 hb4
                generalize wq.alloc (.cells #[.int .i64 x.id, .map (some kb), .pointer (some ⟨nb, 0, none⟩)] 64) = w4 at HQ4 hs4 hbk4 hss4 HRD ⊢
                generalize wq.heap.size = sb at hs4 hss4 hfs hxs hxs0 ⊢
                have e1 := cell_at (i := 1) (v := .int .i64 x.sys) hbk4 rfl
                have e2 := cell_at (i := 2) (v := .int .i64 x.id) hbk4 rfl
                have hld := loadDk_at hs4 rfl
                have HS4 := Lib.hid hs4
                have HBK4 := Lib.hid hbk4
                clear hs4 hbk4
                go_wp2_with fail
                refine HRD.out.mono ?_
                rintro e w5 ⟨rfl, hR5, hb5, hQ5⟩
                have hbk5 := heap_below hb5 (lt_of_block HBK4.out) HBK4.out
                have hs5 := heap_below hb5 (lt_of_block HS4.out) HS4.out
                have f3 := cell_at (i := 3) (v := .int .i64 x.pg) hbk5 rfl
                have HPG5 := Lib.hid (rdPage_any w5 _ base pb mb oa oc (1 + q8) hh mm M O db rb cb gb c R C G _ nb 3 D r x.sys x.id x.pg hR5 xs xi xp hpO)
                have HQ5 := Lib.hid hQ5
                have HBK5 := Lib.hid hbk5
                have HS5 := Lib.hid hs5
                generalize w4.heap.size = rb0 at HPG5 ⊢
                have hni : ∀ W, (binOp .eql 59 (rdV rb0) .nilIface).run Try.prog W = .ok (.bool false) W := fun _ => rfl
                unfold rdV at hni ⊢
                clear hR5 hb5 hQ5 hbk5 hs5 e1 e2 hld HQ4 HS4 HBK4 HRD hss4
                go_wp2_with fail
                refine HPG5.out.mono ?_
                rintro e w6 ⟨⟨d, n6, rfl⟩, oa6, oc6, h6, m6, M6, O6, G6, r6, hR6, ho6, hn6, hP6⟩
                obtain ⟨hee, hC6⟩ := HC.out.read hP6 (base := base) (pb := pb) (mb := mb) (oa := oa6) (oc := oc6) (h' := h6) (m' := m6)
                have hQ6 := HQ5.out.read hR6 ho6 hn6
                have hrv : readV D x.id x.pg = .tuple #[.string d, .int .i64 n6] := by
                  injection hee with hee
                  exact hee.symm
                have hbk6 := ho6.heap HBK5.out (fun e => by
                  rcases List.mem_append.1 e with e | e
                  · exact hxf e
                  · have := hX0.out xb (by simp at e ⊢; omega)
                    omega)
                have hs6 := ho6.heap HS5.out (fun e => by
                  rcases List.mem_append.1 e with e | e
                  · exact hfs e
                  · exact hxs (by simp at e ⊢; omega))
                have g3 := cell_at (i := 3) (v := .int .i64 x.pg) hbk6 rfl
                have hld6 := loadDk_at hs6 rfl
                have HD6 := Lib.hid (hQ6.disk (fun k v hv => by have := HC.out.num k v hv; omega) x.id x.pg xi xp)
                have HC6 := Lib.hid hC6
                have HRV := Lib.hid hrv
                clear hR6 ho6 hn6 hP6 hee hC6 hQ6 hrv hbk6 hs6 f3 hni HPG5 HQ5 HBK5 HS5
                go_wp2_with fail
                refine HD6.out.mono ?_
                rintro e w7 ⟨he, hQ7, -⟩
                rw [HRV.out] at he
                subst he
                have HQ7 := Lib.hid hQ7
                clear hQ7 g3 hld6 HD6
                go_wp2_with fail
                go_roundw
                case rel => exact ⟨n + 1, _, _, _, _, _, _, _, by omega, by go_num, by go_num, HQ7.out, HC6.out⟩
                case measure => simp [intOf]; omega
      · go_wp2_with fail
        refine (awake_any wr).mono ?_
        rintro e w2 ⟨rfl, hb2⟩
        go_wp2_with fail
        go_ret
        exact ⟨rfl, hO.bel.trans (hb2.mono hO.bel.size)⟩

end Go.Proofs.Ytbocefnfhnnbjaa
