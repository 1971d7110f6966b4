/-
  The walk of the law on Forget. No condition.
-/
import Derived.Test.YtbocefnfhnnbjaaV1
import Derived.Test.YtbocefnfhnnbjaaF0
import Derived.Deep.RegionHeld3
namespace Go.Proofs.Ytbocefnfhnnbjaa
open Go.RowKit Go.Sort

def vBool (b : Bool) : Value := .bool b
/-- Directory and the law's own map of versions. -/
structure Fs (w0 w : World) (db rb cb gb vb : Nat) (c : Int) (R : List (Int × Int)) (C : List ((Int × Int) × Int)) (G : List ((Int × Int × Int) × Unit)) (V : List ((Int × Int × Int) × Int)) : Prop where
  st : St w0 w db rb cb gb c R C G
  ver : amap w vb kReg vInt okR V
  v1 : w0.heap.size ≤ vb
  sep : vb ∉ [db, rb, cb, gb]
section
variable {w0 w w' : World} {db rb cb gb vb : Nat} {c c' : Int} {R R' : List (Int × Int)} {C C' : List ((Int × Int) × Int)} {G G' : List ((Int × Int × Int) × Unit)} {V : List ((Int × Int × Int) × Int)}
theorem Fs.go (h : Fs w0 w db rb cb gb vb c R C G V) (hs : St w0 w' db rb cb gb c' R' C' G') (ho : Only [db, rb, cb, gb] w w') : Fs w0 w' db rb cb gb vb c' R' C' G' V :=
  ⟨hs, amap_keep h.ver (ho.block _ (amap_lt h.ver) h.sep), h.v1, h.sep⟩
theorem Fs.below (h : Fs w0 w db rb cb gb vb c R C G V) (hb : Below w.heap.size w w') : Fs w0 w' db rb cb gb vb c R C G V := h.go (h.st.below hb) (Only.of_below hb)
theorem St.dist (h : St w0 w db rb cb gb c R C G) (hv : amap w vb kReg vInt okR V) (hs : vb ∉ [db, rb, cb, gb]) (hg : w.grownBy w' (some vb)) : Dir w' db rb cb gb c R C G := by
  simp at hs
  have k : ∀ k, k < w.heap.size → k ≠ vb → w'.heap[k]? = w.heap[k]? := fun k hk hn => hg.block k hk (fun e => hn (Option.some.inj e))
  exact ⟨(k _ (lt_of_block h.dir.blk) (amap_ne_cells hv h.dir.blk)).trans h.dir.blk, amap_keep h.dir.ren (k _ (amap_lt h.dir.ren) (fun e => hs.2.1 e.symm)), amap_keep h.dir.cha (k _ (amap_lt h.dir.cha) (fun e => hs.2.2.1 e.symm)), amap_keep h.dir.reg (k _ (amap_lt h.dir.reg) (fun e => hs.2.2.2 e.symm)), h.dir.rc, h.dir.rg, h.dir.cg⟩
theorem St.far {x : Nat} (h : St w0 w db rb cb gb c R C G) (hs : x ∉ [db, rb, cb, gb]) (hx : w0.heap.size ≤ x) (hg : w.grownBy w' (some x)) : St w0 w' db rb cb gb c R C G := by
  simp at hs
  have k : ∀ k, k < w.heap.size → k ≠ x → w'.heap[k]? = w.heap[k]? := fun k hk hn => hg.block k hk (fun e => hn (Option.some.inj e))
  exact ⟨⟨(k _ (lt_of_block h.dir.blk) (fun e => hs.1 e.symm)).trans h.dir.blk, amap_keep h.dir.ren (k _ (amap_lt h.dir.ren) (fun e => hs.2.1 e.symm)), amap_keep h.dir.cha (k _ (amap_lt h.dir.cha) (fun e => hs.2.2.1 e.symm)), amap_keep h.dir.reg (k _ (amap_lt h.dir.reg) (fun e => hs.2.2.2 e.symm)), h.dir.rc, h.dir.rg, h.dir.cg⟩,
    h.bel.grown hg h.bel.size (fun k hk => by have := Option.some.inj hk; omega), h.b1, h.b2, h.b3, h.b4⟩
theorem Fs.set {V' : List ((Int × Int × Int) × Int)} (h : Fs w0 w db rb cb gb vb c R C G V) (hv : amap w' vb kReg vInt okR V') (hg : w.grownBy w' (some vb)) : Fs w0 w' db rb cb gb vb c R C G V' :=
  ⟨⟨h.st.dist h.ver h.sep hg, h.st.bel.grown hg h.st.bel.size (fun k hk => by have := Option.some.inj hk; have := h.v1; omega), h.st.b1, h.st.b2, h.st.b3, h.st.b4⟩, hv, h.v1, h.sep⟩
end

/-- Was the entry valid? -/
def valB (G : List ((Int × Int × Int) × Unit)) (R : List (Int × Int)) (C : List ((Int × Int) × Int)) (k : Int × Int × Int) (v : Int) : Bool := (alook G k).isSome && verOf R C k.2.1 k.2.2 == v
theorem val_step {V : List ((Int × Int × Int) × Int)} {M : List ((Int × Int × Int) × Bool)} {S : List (Int × Int × Int)} {G R C} {k0 : Int × Int × Int} {v0 : Int} (hn : (V.map Prod.fst).Nodup) (hk0 : (k0, v0) ∈ V)
    (h : ∀ k v, (k, v) ∈ V → k ∈ S → alook M k = some (valB G R C k v)) : ∀ k v, (k, v) ∈ V → k ∈ k0 :: S → alook (aset M k0 (valB G R C k0 v0)) k = some (valB G R C k v) := by
  intro k v hkv hk
  rw [alook_aset]
  by_cases e : k0 = k
  · subst e
    have h1 := alook_of_mem hn hk0
    have h2 := alook_of_mem hn hkv
    rw [h1] at h2
    rw [if_pos rfl, Option.some.inj h2]
  · rw [if_neg e]
    rcases List.mem_cons.1 hk with h1 | h1
    · exact absurd h1.symm e
    · exact h k v hkv h1
theorem ints_of_row {w : World} {base : Nat} {v : Value} {l : List Int} (h : w.ownsRow base 3 1 v l.length (l.map (Value.int .i64))) (hl : ∀ x ∈ l, I64 x) : ∃ a cap, v = .slice a l.length cap ∧ Ints w w.heap.size a l := by
  rcases h.2 with ⟨rfl, hn⟩ | ⟨g, cap, cur, rfl, hbase, hblk, q1, q2, q3, q4⟩
  · have : l = [] := List.length_eq_zero_iff.1 hn
    subst this; exact ⟨none, 0, rfl, fun h => absurd rfl h, hl⟩
  · have hH : Holds (Value.int .i64) w g 0 l.toArray := holds_of_blockI hblk (by rw [Nat.mul_one] at q4; exact q4)
    refine ⟨_, cap, rfl, fun _ => ⟨g, 0, rfl, lt_of_block hblk, fun i hi => ?_⟩, hl⟩
    have := (hH i (by simpa using hi)).1
    simpa [hi] using this
theorem holders_wf {w : World} {db rb cb gb : Nat} {c : Int} {R C G} {id pg x : Int} (h : Dir w db rb cb gb c R C G) (hx : x ∈ holders G id pg) : I64 x := by
  obtain ⟨p, hp, e⟩ := List.mem_map.1 (holders_mem hx)
  have := (amap_ok h.reg p hp).1
  rw [e] at this; exact this
theorem holders_len {w : World} {db rb cb gb : Nat} {c : Int} {R C G} {id pg : Int} (_ : Dir w db rb cb gb c R C G) : (holders G id pg).length ≤ G.length := by
  unfold holders
  rw [List.length_mergeSort]
  have := pick_length id pg (G.map (·.1))
  rwa [List.length_map] at this
theorem holders_st' {w0 w : World} {db rb cb gb : Nat} {c : Int} {R C G} (id pg : Int) (h : St w0 w db rb cb gb c R C G) (hG : G.length ≤ 1000000) :
    Calls Try.prog 23 #[.pointer (some ⟨db, 0, none⟩), .int .i64 id, .int .i64 pg] w fun e w' => ∃ v, e = .returned v ∧ w'.ownsRow w.heap.size 3 1 v (holders G id pg).length ((holders G id pg).map (Value.int .i64)) ∧ St w0 w' db rb cb gb c R C G ∧ Below w.heap.size w w' :=
  (holders_any w db rb cb gb c R C G id pg h.dir hG).mono fun _ _ ⟨v, e, ho, hb⟩ => ⟨v, e, ho, h.below hb, hb⟩
theorem gone_valid (G : List ((Int × Int × Int) × Unit)) (R C) (s : Int) (k : Int × Int × Int) (v : Int) :
    ((alook (G.filter fun p => !(p.1.1 == s)) k).isSome && verOf R C k.2.1 k.2.2 == v) = (valB G R C k v && !(k.1 == s)) := by
  rw [alook_filter G (fun x => !(x.1 == s)) k]
  unfold valB
  cases k.1 == s <;> simp
theorem gone_holders (G : List ((Int × Int × Int) × Unit)) (s id pg x : Int) (h : x ∈ holders (G.filter fun p => !(p.1.1 == s)) id pg) : (x == s) = false := by
  have h1 := holders_mem h
  obtain ⟨p, hp, e⟩ := List.mem_map.1 h1
  have h2 := (List.mem_filter.1 hp).2
  rw [e] at h2
  simpa using h2
theorem below_grown {w w' : World} (hg : w.grownBy w' none) : Below w.heap.size w w' := ⟨hg.os, hg.tape, hg.output, hg.size, fun k hk => hg.block k hk (by simp)⟩
theorem below_drew1 {w : World} : Below w.heap.size w w.drew := below_drewN (Below.refl _ _) 1

set_option maxHeartbeats 8000000 in
set_option maxRecDepth 100000 in
theorem lawforgets (a : Option Addr) (cap : Nat) (l : List ActR) (s : Int) (w : World) (h : Acts w w.heap.size a l) (hlen : l.length ≤ 9223372036854775807) (_ : (Lit.int .i64 s).wf = true) :
    Calls Try.prog 5 #[.slice a l.length cap, .int .i64 s] w fun e w' => e = .returned (.bool true) ∧ Below w.heap.size w w' := by
  have hmm := @run_makeMap Try.prog
  cases hf : fewB l 40
  · have HF := Lib.hid hf
    clear hf
    go_enter Try.func5, Try.ntmps5
    go_wp2_with fail
    refine (few_any w a cap l 40 h (by omega) (by omega) hlen).mono ?_
    rintro e w1 ⟨rfl, hb1⟩
    rw [HF.out]
    go_wp2_with fail
    refine (awake_any w1).mono ?_
    rintro e w2 ⟨rfl, hb2⟩
    go_wp2_with fail
    go_ret
    exact ⟨rfl, hb1.trans (hb2.mono hb1.size)⟩
  · have HF := Lib.hid hf
    obtain ⟨hl40, hfew⟩ := few_acts hf
    have HW := Lib.hid hfew
    clear hf hfew
    go_enter Try.func5, Try.ntmps5
    go_wp2_with fail
    refine (few_any w a cap l 40 h (by omega) (by omega) hlen).mono ?_
    rintro e w1 ⟨rfl, hb1⟩
    rw [HF.out]
    go_wp2_with fail
    refine (new_so hb1).mono ?_
    rintro e w2 ⟨db, rb, cb, gb, rfl, hst, -⟩
    have hv := amap_new w2 kReg vInt okR
    have hF0 : Fs w (w2.alloc (.map #[] 0)) db rb cb gb w2.heap.size 0 [] [] [] [] := ⟨hst.below ((Below.refl _ _).alloc (Nat.le_refl _) _), hv, hst.bel.size, fun e => by have := hst.lt _ e; omega⟩
    clear hv
    have hvs := hst.bel.size
    clear hst
    go_wp2_with fail
    generalize w2.alloc (.map #[] 0) = w3 at hF0 ⊢
    generalize w2.heap.size = vb at hF0 hvs ⊢
    go_loopw [8, 26, 33, 51, 59] (fun _ k _ _ _ wr => ∃ (n : Nat) (c : Int) (R : List (Int × Int)) (C : List ((Int × Int) × Int)) (G : List ((Int × Int × Int) × Unit)) (V : List ((Int × Int × Int) × Int)),
        n ≤ l.length ∧ k = .int .i64 n ∧ 0 ≤ c ∧ c ≤ n ∧ G.length ≤ n ∧ Fs w wr db rb cb gb vb c R C G V) (fun _ k _ _ _ _ => l.length - (intOf k).toNat)
    case atStart => exact ⟨0, 0, [], [], [], [], by omega, rfl, by omega, by omega, by simp, hF0⟩
    case round =>
      clear hF0
      obtain ⟨n, c, R, C, G, V, hn, rfl, hc0, hc, hG, hF⟩ := hrel
      have hr := h.below hF.st.bel
      by_cases hlt : n < l.length
      · have hx := hr.ok _ (List.getElem_mem hlt)
        have hxf := HW.out _ (List.getElem_mem hlt)
        obtain ⟨bb, off, rfl, hbb, c0, c1, c2, c3, c4⟩ := hr.get hlt
        generalize l[n] = x at hx hxf c0 c1 c2 c3 c4
        have hFA := hF.below ((Below.refl _ _).alloc (Nat.le_refl _) (.cells #[.int .i64 x.kind, .int .i64 x.sys, .int .i64 x.id, .int .i64 x.pg, .slice x.pa x.pages.length x.pcap] 33))
        have hblk := heap_alloc_new wr (.cells #[.int .i64 x.kind, .int .i64 x.sys, .int .i64 x.id, .int .i64 x.pg, .slice x.pa x.pages.length x.pcap] 33)
        have hI := hx.pages.below ((Below.refl wr.heap.size wr |>.alloc (Nat.le_refl _) (.cells #[.int .i64 x.kind, .int .i64 x.sys, .int .i64 x.id, .int .i64 x.pg, .slice x.pa x.pages.length x.pcap] 33)).mono hF.st.bel.size)
        have hxl : x.pages.length ≤ 10 := hxf.1
        have hbnew : wr.heap.size ∉ [db, rb, cb, gb] := fun e => by have := hF.st.lt _ e; omega
        have hvnew : wr.heap.size ≠ vb := by have := amap_lt hF.ver; omega
        clear hF hxf
        have hGf : ∀ f : (Int × Int × Int) × Unit → Bool, (G.filter f).length ≤ n + 1 := fun f => by have := List.length_filter_le f G; omega
        have HGf := Lib.hid hGf
        clear hGf
        rcases and3 x.kind with hk | hk | hk | hk
        · have hbx : wr.heap.size ∉ [db, rb, cb, gb] := hbnew
          have hvx : wr.heap.size ≠ vb := hvnew
          go_wp2_with fail
          clear c0 c1 c2 c3 c4 hI
          generalize wr.alloc (.cells #[.int .i64 x.kind, .int .i64 x.sys, .int .i64 x.id, .int .i64 x.pg, .slice x.pa x.pages.length x.pcap] 33) = wo at hFA hblk ⊢
          generalize wr.heap.size = xb at hblk hbx hvx ⊢
          have hFd : Fs w wo.drew db rb cb gb vb c R C G V := hFA.below below_drew1
          have hblkd : wo.drew.heap[xb]? = some (.cells #[.int .i64 x.kind, .int .i64 x.sys, .int .i64 x.id, .int .i64 x.pg, .slice x.pa x.pages.length x.pcap] 33 (0, 0)) := hblk
          have xs := hx.sys
          have xi := hx.id
          have xp := hx.pg
          clear hFA hblk hx hk
          have d1 := cell_at (i := 1) hblkd rfl
          have d2 := cell_at (i := 2) hblkd rfl
          have d3 := cell_at (i := 3) hblkd rfl
          go_region_held3 (fun w' => w'.cell? ⟨xb, 1, none⟩ = some (.int .i64 x.sys) ∧ w'.cell? ⟨xb, 2, none⟩ = some (.int .i64 x.id) ∧ w'.cell? ⟨xb, 3, none⟩ = some (.int .i64 x.pg)) (first | exact ⟨d1, d2, d3⟩ | exact ⟨e1, e2, e3⟩ | exact ⟨f1, f2, f3⟩)
            ((go_at_call 12
              refine (register_so x.sys x.id x.pg hFd.st xs xi xp).mono ?_
              rintro e w5 ⟨rfl, hst', ho'⟩
              have hF5 := hFd.go hst' ho'
              have hb5 := ho'.heap hblkd hbx
              obtain ⟨w6, hrun, hv6, hg6, -⟩ := amap_update (E := 3) keyTri Try.underlying49 hF5.ver (k := (x.sys, x.id, x.pg)) ⟨xs, xi, xp⟩ (verOf R C x.id x.pg)
              simp only [kReg, vInt] at hrun
              have hF6 := Lib.hid (hF5.set hv6 hg6)
              have hb6 := (hg6.block _ (lt_of_block hb5) (fun e => hvx (Option.some.inj e))).trans hb5
              have e1 := cell_at (i := 1) hb5 rfl
              have e2 := cell_at (i := 2) hb5 rfl
              have e3 := cell_at (i := 3) hb5 rfl
              have f1 := cell_at (i := 1) hb6 rfl
              have f2 := cell_at (i := 2) hb6 rfl
              have f3 := cell_at (i := 3) hb6 rfl
              clear hv6 hg6 hb5 hb6 hst' ho' hF5))
          go_wp2_with fail
          go_roundw
          case rel => exact ⟨n + 1, _, _, _, _, _, by omega, by go_num, by omega, by omega, by have := aset_length G (x.sys, x.id, x.pg) (); omega, hF6.out⟩
          case measure => simp [intOf]; omega
        · go_wp2_with fail
          refine (change_so (B := w.heap.size) x.id hFA.st hx.id (by omega) (by omega) hI (by omega) hFA.st.bel.size (fun b off hne e hm => by
            obtain ⟨b', off', e', hb', _⟩ := hI.cells hne
            rw [e'] at e
            have hbb := plain_block e
            have h1 := hFA.st.b1; have h2 := hFA.st.b3; have h3 := hFA.st.b4
            subst hbb; simp at hm; omega)).mono ?_
          rintro e w5 ⟨rfl, hst', ho'⟩
          have HF' := Lib.hid (hFA.go hst' ho')
          clear hst' ho' hFA hx c0 c1 c2 c3 c4 hblk hI
          go_wp2_with fail
          go_roundw
          case rel => exact ⟨n + 1, _, _, _, _, _, by omega, by go_num, by omega, by omega, HGf.out _, HF'.out⟩
          case measure => simp [intOf]; omega
        · go_wp2_with fail
          refine (renew_so x.id hFA.st hx.id (by omega) (by omega)).mono ?_
          rintro e w5 ⟨rfl, hst', ho'⟩
          have HF' := Lib.hid (hFA.go hst' ho')
          clear hst' ho' hFA hx c0 c1 c2 c3 c4 hblk hI
          go_wp2_with fail
          go_roundw
          case rel => exact ⟨n + 1, _, _, _, _, _, by omega, by go_num, by omega, by omega, HGf.out _, HF'.out⟩
          case measure => simp [intOf]; omega
        · have HF' := Lib.hid hFA
          clear hFA hx hI
          go_wp2_with fail
          go_roundw
          case rel => exact ⟨n + 1, _, _, _, _, _, by omega, by go_num, by omega, by omega, by omega, HF'.out⟩
          case measure => simp [intOf]; omega
      · have hFm := hF.below ((Below.refl _ _).alloc (Nat.le_refl _) (.map #[] 0))
        have hm0 : amap (wr.alloc (.map #[] 0)) wr.heap.size kReg vBool okR ([] : List ((Int × Int × Int) × Bool)) := amap_new wr kReg vBool okR
        have hmsep : wr.heap.size ∉ [db, rb, cb, gb] := fun e => by have := hF.st.lt _ e; omega
        have hmv : wr.heap.size ≠ vb := by have := amap_lt hF.ver; omega
        have hmw := hF.st.bel.size
        have hG40 : G.length ≤ 1000000 := by omega
        clear hF hr hn hc0 hc hG
        go_wp2_with (at_range; refine wpList_arange rfl _ rfl Try.underlying49 hFm.ver rfl ?_; intro w4 hr4 hg4 hs4)
        go_frame
        have hst4 : St w w4 db rb cb gb c R C G := hFm.st.below (below_grown hg4)
        have hm4 : amap w4 wr.heap.size kReg vBool okR ([] : List ((Int × Int × Int) × Bool)) := amap_keep hm0 ((below_grown hg4).block _ (amap_lt hm0))
        have hib : (wr.alloc (.map #[] 0)).heap.size ∉ [db, rb, cb, gb] := fun e => by have := hFm.st.lt _ e; omega
        have hiv : (wr.alloc (.map #[] 0)).heap.size ≠ vb := by have := amap_lt hFm.ver; omega
        have him : (wr.alloc (.map #[] 0)).heap.size ≠ wr.heap.size := by have := amap_lt hm0; omega
        have hiw := hFm.st.bel.size
        have hvsep := hFm.sep
        clear hFm hm0 hg4 hs4
        generalize (wr.alloc (.map #[] 0)).heap.size = ib at *
        generalize wr.heap.size = mb at *
        go_loopw [10, 11] (fun _ _ wr => ∃ (S : List (Int × Int × Int)) (M : List ((Int × Int × Int) × Bool)), arange wr vb ib kReg vInt okR V S ∧ St w wr db rb cb gb c R C G ∧ amap wr mb kReg vBool okR M ∧
            (∀ k v, (k, v) ∈ V → k ∈ S → alook M k = some (valB G R C k v))) (fun _ _ wr => wr.rangeLeft vb ib)
        case atStart => exact ⟨[], [], hr4, hst4, hm4, fun k v _ hk => by simp at hk⟩
        case round =>
          clear hr4 hst4 hm4
          obtain ⟨S, M, hr, hst, hm, hval⟩ := hrel
          have HVv := Lib.hid hval
          clear hval
          go_wp2_with (at_next; refine wpList_anext rfl _ rfl hr rfl ?_ ?_)
          · intro hdone
            have HA : Hid (∀ k v, (k, v) ∈ V → alook M k = some (valB G R C k v)) := fun k v hkv => HVv.out k v hkv (hdone k.1 k.2.1 k.2.2 v hkv)
            have hv4 := arange_amap hr
            clear hdone HVv hr
            go_wp2_with fail
            refine (forget_so s hst).mono ?_
            rintro e w5 ⟨rfl, hst5, ho5⟩
            have HB : Hid (∀ (k : Int × Int × Int) v, ((alook (G.filter fun p => !(p.1.1 == s)) k).isSome && verOf R C k.2.1 k.2.2 == v) = (valB G R C k v && !(k.1 == s))) := gone_valid G R C s
            have HH : Hid (∀ id pg x, x ∈ holders (G.filter fun p => !(p.1.1 == s)) id pg → (x == s) = false) := gone_holders G s
            have hG2 : (G.filter fun p => !(p.1.1 == s)).length ≤ 1000000 := Nat.le_trans (List.length_filter_le _ _) hG40
            have hv5 := amap_keep hv4 (ho5.block _ (amap_lt hv4) hvsep)
            have hm5 := amap_keep hm (ho5.block _ (amap_lt hm) hmsep)
            clear hst ho5 hv4 hm
            generalize (G.filter fun p => !(p.1.1 == s)) = G2 at hst5 HB HH hG2
            go_wp2_with (at_range; refine wpList_arange rfl _ rfl Try.underlying49 hv5 rfl ?_; intro w6 hr6 hg6 hs6)
            go_frame
            have hst6 := hst5.below (below_grown hg6)
            have hm6 := amap_keep hm5 ((below_grown hg6).block _ (amap_lt hm5))
            have hib2 : w5.heap.size ∉ [db, rb, cb, gb] := fun e => by have := hst5.lt _ e; omega
            have him2 : w5.heap.size ≠ mb := by have := amap_lt hm5; omega
            have hiw2 := hst5.bel.size
            clear hst5 hv5 hm5 hg6 hs6
            generalize w5.heap.size = i2 at hr6 hib2 him2 hiw2 ⊢
            go_loopw [12, 13, 15] (fun _ _ _ wr => ∃ (S : List (Int × Int × Int)), arange wr vb i2 kReg vInt okR V S ∧ St w wr db rb cb gb c R C G2 ∧ amap wr mb kReg vBool okR M) (fun _ _ _ wr => wr.rangeLeft vb i2)
            case atStart => exact ⟨[], hr6, hst6, hm6⟩
            case round =>
              clear hr6 hst6 hm6
              obtain ⟨S, hr, hst, hm⟩ := hrel
              go_wp2_with (at_next; refine wpList_anext rfl _ rfl hr rfl ?_ ?_)
              · intro hdone
                clear hdone
                go_wp2_with fail
                refine (awake_any wr).mono ?_
                rintro e w8 ⟨rfl, hb8⟩
                go_wp2_with fail
                go_ret
                exact ⟨rfl, hst.bel.trans (hb8.mono hst.bel.size)⟩
              · intro a1 a2 a3 v w7 hmem hz hk hr7 hg7 hs7 hen
                simp only [kReg, vInt] at hen
                have hst7 := hst.far hib2 hiw2 hg7
                have hm7 : amap w7 mb kReg vBool okR M := amap_keep hm (hg7.block _ (amap_lt hm) (fun e => him2 (Option.some.inj e).symm))
                have hbx7 : Below w7.heap.size w7 (w7.alloc (.cells #[.int .i64 a1, .int .i64 a2, .int .i64 a3] 50)) := (Below.refl _ _).alloc (Nat.le_refl _) _
                have hblk := heap_alloc_new w7 (.cells #[.int .i64 a1, .int .i64 a2, .int .i64 a3] 50)
                have hstx := hst7.below hbx7
                have hmx := amap_keep hm7 (hbx7.block _ (amap_lt hm7))
                have hrx := arange_keep hr7 (hbx7.block _ (amap_lt (arange_amap hr7))) (hbx7.block _ (arange_lt hr7))
                have hL := left_lt hmem hz
                rw [← arange_left hr] at hL
                have HLv := Lib.hid hL
                have HBk := Lib.hid (HB.out (a1, a2, a3) v)
                have HAk := Lib.hid (HA.out (a1, a2, a3) v hmem)
                have hnd := hs7
                rw [hs7] at hblk
                clear hL hmem hz hm hst hr hg7 hst7 hm7 hbx7 hr7
                go_wp2_with fail
                clear hen
                generalize w7.alloc (.cells #[.int .i64 a1, .int .i64 a2, .int .i64 a3] 50) = wo at hstx hmx hrx hblk ⊢
                generalize wr.heap.size = xb at hblk ⊢
                have c0 : ∀ d os, (grow (redrawn wo d) os).cell? ⟨xb, 0, none⟩ = some (.int .i64 a1) := fun d os => cell_regrown (cell_at (i := 0) hblk rfl) d os
                have c1 : ∀ d os, (grow (redrawn wo d) os).cell? ⟨xb, 1, none⟩ = some (.int .i64 a2) := fun d os => cell_regrown (cell_at (i := 1) hblk rfl) d os
                have c2 : ∀ d os, (grow (redrawn wo d) os).cell? ⟨xb, 2, none⟩ = some (.int .i64 a3) := fun d os => cell_regrown (cell_at (i := 2) hblk rfl) d os
                have hcall : ∀ d os, Calls Try.prog 20 #[.pointer (some ⟨db, 0, none⟩), .int .i64 a1, .int .i64 a2, .int .i64 a3, .int .i64 v] (grow (redrawn wo d) os) fun e w' => e = .returned (.bool (valB G R C (a1, a2, a3) v && !(a1 == s))) ∧ Below (grow (redrawn wo d) os).heap.size (grow (redrawn wo d) os) w' := fun d os => by
                  have := valid_so a1 a2 a3 v (hstx.below (below_regrown _ d os)) hk.1 hk.2.1 hk.2.2
                  rwa [HBk.out] at this
                have hlk : ∀ d os, (Instr.lookup 51 (.map (some mb)) (.agg #[.int .i64 a1, .int .i64 a2, .int .i64 a3]) false).run Try.prog (grow (redrawn wo d) os) = .ok (.bool (valB G R C (a1, a2, a3) v)) (grow (redrawn wo d) os) := fun d os => by
                  have := amap_lookup (P := Try.prog) (T := 51) (E := 4) keyTri Try.underlying51 (amap_keep (w' := grow (redrawn wo d) os) hmx ((below_regrown wo d os).block _ (amap_lt hmx))) (k := (a1, a2, a3)) hk (zero4 _)
                  rw [HAk.out] at this
                  exact this
                have HC := Lib.hid hcall
                clear hcall
                refine wp_region_quiet_below (by kernel_rfl) (by kernel_rfl) ?_
                cases hvb : valB G R C (a1, a2, a3) v
                all_goals
                  cases hsb : a1 == s
                  all_goals
                    rw [hvb] at hlk
                    have HC2 := Lib.hid HC.out
                    rw [hvb, hsb] at HC2
                    simp only [Bool.true_and, Bool.false_and, Bool.not_true, Bool.not_false] at HC2
                    have hnb : (a1 != s) = !(a1 == s) := rfl
                    rw [hsb] at hnb
                    simp only [Bool.not_true, Bool.not_false] at hnb
                    clear hvb
                    repeat (go_big_quiet_step ((go_at_call 20; exact Calls.regrown_of (HC2.out _ _))))
                    refine wpQuiet_nil ?_
                    intro _ hw'
                    obtain ⟨⟨dq, osq⟩, hw''⟩ := hw'
                    subst hw''
                    first | rw [hnb] | skip
                    clear hnb hsb
                    have hbr := below_regrown wo dq osq
                    have hst8 := hstx.below hbr
                    have hm8 := amap_keep hmx (hbr.block _ (amap_lt hmx))
                    have hr8 := arange_keep hrx (hbr.block _ (amap_lt (arange_amap hrx))) (hbr.block _ (arange_lt hrx))
                    have hblk8 := heap_below hbr (lt_of_block hblk) hblk
                    have e1 := cell_at (i := 1) hblk8 rfl
                    have e2 := cell_at (i := 2) hblk8 rfl
                    clear hbr hstx hmx hrx hblk c0 c1 c2 hlk HC HC2 hblk8
                    generalize grow (redrawn wo dq) osq = wp at hst8 hm8 hr8 e1 e2 ⊢
                    go_wp2_with fail
                    refine (holders_st' a2 a3 hst8 hG2).mono ?_
                    rintro e w9 ⟨_, rfl, ho9, hst9, hb9⟩
                    have hm9 := amap_keep hm8 (hb9.block _ (amap_lt hm8))
                    have hr9 := arange_keep hr8 (hb9.block _ (amap_lt (arange_amap hr8))) (hb9.block _ (arange_lt hr8))
                    obtain ⟨ha, hcap, rfl, hI9⟩ := ints_of_row ho9 (fun x hx => holders_wf hst9.dir hx)
                    have HHk := Lib.hid (fun x hx => HH.out a2 a3 x hx)
                    have hlen9 := holders_len hst9.dir (id := a2) (pg := a3)
                    clear e1 e2 hm8 hr8 hst8 ho9
                    generalize holders G2 a2 a3 = hs at hI9 HHk hlen9 ⊢
                    go_wp2_with fail
                    go_loop [15, 121] (fun _ k => ∃ j : Nat, j ≤ hs.length ∧ k = .int .i64 j) (fun _ k => hs.length - (intOf k).toNat)
                    case atStart => exact ⟨0, by omega, rfl⟩
                    case round =>
                      obtain ⟨j, hj, rfl⟩ := hrel
                      by_cases hjl : j < hs.length
                      · obtain ⟨pb, poff, hpa, hpb, pc⟩ := hI9.get hjl
                        have hyb := i64_bd (hI9.wf _ (List.getElem_mem hjl))
                        have hne := HHk.out _ (List.getElem_mem hjl)
                        subst hpa
                        go_wp2
                        go_round
                        case rel => exact ⟨j + 1, by omega, by go_num⟩
                        case measure => simp [intOf]; omega
                      · go_wp2_with fail
                        go_roundw
                        case rel => exact ⟨_, hr9, hst9, hm9⟩
                        case measure => rw [arange_left hr9]; exact HLv.out
          · intro a1 a2 a3 v w5 hmem hz hk hr5 hg5 hs5 hen
            simp only [kReg, vInt] at hen
            have HM := Lib.hid hmem
            have HZ := Lib.hid hz
            have hst5 := hst.far hib hiw hg5
            have hm5 : amap w5 mb kReg vBool okR M := amap_keep hm (hg5.block _ (amap_lt hm) (fun e => him (Option.some.inj e).symm))
            have hbx5 : Below w5.heap.size w5 (w5.alloc (.cells #[.int .i64 a1, .int .i64 a2, .int .i64 a3] 50)) := (Below.refl _ _).alloc (Nat.le_refl _) _
            have hblk := heap_alloc_new w5 (.cells #[.int .i64 a1, .int .i64 a2, .int .i64 a3] 50)
            have hstx := hst5.below hbx5
            have hmx := amap_keep hm5 (hbx5.block _ (amap_lt hm5))
            have hrx := arange_keep hr5 (hbx5.block _ (amap_lt (arange_amap hr5))) (hbx5.block _ (arange_lt hr5))
            have hxm : wr.heap.size ≠ mb := by have := amap_lt hm; omega
            have hL := left_lt HM.out HZ.out
            rw [← arange_left hr] at hL
            have HLv := Lib.hid hL
            have HVn := Lib.hid (val_step (amap_nodup (arange_amap hr)) HM.out HVv.out)
            have hnd := hs5
            rw [hs5] at hblk
            clear hL hmem hz hm hst hr hg5 hst5 hm5 hbx5 hr5 HVv HM HZ
            go_wp2_with fail
            clear hen
            generalize w5.alloc (.cells #[.int .i64 a1, .int .i64 a2, .int .i64 a3] 50) = wo at hstx hmx hrx hblk ⊢
            generalize wr.heap.size = xb at hblk hxm ⊢
            have hstd := hstx.below below_drew1
            have hmd : amap wo.drew mb kReg vBool okR M := amap_keep hmx rfl
            have hrd : arange wo.drew vb ib kReg vInt okR V ((a1, a2, a3) :: S) := arange_keep hrx rfl rfl
            have hblkd : wo.drew.heap[xb]? = some (.cells #[.int .i64 a1, .int .i64 a2, .int .i64 a3] 50 (0, 0)) := hblk
            clear hstx hmx hrx hblk
            have d1 := cell_at (i := 0) hblkd rfl
            have d2 := cell_at (i := 1) hblkd rfl
            have d3 := cell_at (i := 2) hblkd rfl
            go_region_held3 (fun w' => w'.cell? ⟨xb, 0, none⟩ = some (.int .i64 a1) ∧ w'.cell? ⟨xb, 1, none⟩ = some (.int .i64 a2) ∧ w'.cell? ⟨xb, 2, none⟩ = some (.int .i64 a3)) (first | exact ⟨d1, d2, d3⟩ | exact ⟨e1, e2, e3⟩ | exact ⟨f1, f2, f3⟩)
              ((go_at_call 20
                refine (valid_so a1 a2 a3 v hstd hk.1 hk.2.1 hk.2.2).mono ?_
                rintro e w6 ⟨rfl, hb6⟩
                have hb6x := heap_below hb6 (lt_of_block hblkd) hblkd
                have hst6 := hstd.below hb6
                have hm6 := amap_keep hmd (hb6.block _ (amap_lt hmd))
                have hr6 := arange_keep hrd (hb6.block _ (amap_lt (arange_amap hrd))) (hb6.block _ (arange_lt hrd))
                obtain ⟨w7, hrun, hm7, hg7, -⟩ := amap_update (E := 4) keyTri Try.underlying51 hm6 (k := (a1, a2, a3)) hk ((alook G (a1, a2, a3)).isSome && verOf R C a2 a3 == v)
                simp only [kReg, vBool] at hrun
                have hst7 := Lib.hid (hst6.far hmsep hmw hg7)
                have hr7 := Lib.hid (arange_keep hr6 (hg7.block _ (amap_lt (arange_amap hr6)) (fun e => hmv (Option.some.inj e).symm)) (hg7.block _ (arange_lt hr6) (fun e => him (Option.some.inj e))))
                have hm7h := Lib.hid hm7
                have hb7x := (hg7.block _ (lt_of_block hb6x) (fun e => hxm (Option.some.inj e))).trans hb6x
                have e1 := cell_at (i := 0) hb6x rfl
                have e2 := cell_at (i := 1) hb6x rfl
                have e3 := cell_at (i := 2) hb6x rfl
                have f1 := cell_at (i := 0) hb7x rfl
                have f2 := cell_at (i := 1) hb7x rfl
                have f3 := cell_at (i := 2) hb7x rfl
                clear hm7 hg7 hb6x hb7x hst6 hm6 hr6 hb6))
            go_wp2_with fail
            go_roundw
            case rel => exact ⟨_, _, hr7.out, hst7.out, hm7h.out, HVn.out⟩
            case measure => rw [arange_left hr7.out]; exact HLv.out

end Go.Proofs.Ytbocefnfhnnbjaa
