/-
  Walks: few and groups of the law's package: groups of texts. Conditions: few and short texts.
-/
import Derived.Test.YthkpcalopmddpaaDoorT44
import Derived.Test.YthkpcalopmddpaaDoorGF
namespace Go.Proofs.YthkpcalopmddpaaDoor
open Go.RowKit Go.Sort
attribute [local go_sem] ByteArray.mk_append_mk strOfNums_size ext_drop ext_take

/-- A value is a list of texts in cells below a block, as an argument has them. -/
structure TxS (w : World) (B : Nat) (v : Value) (l : List By) : Prop where
  at_ : ∃ a cap, v = .slice a l.length cap ∧ Strs w B a l ∧ True ∧ l.length ≤ cap ∧ cap ≤ 9223372036854775807
theorem TxS.below {w w' : World} {B : Nat} {v : Value} {l : List By} (h : TxS w B v l) (hb : Below B w w') : TxS w' B v l := by
  obtain ⟨a, cap, h1, h2, h3, h4, h5⟩ := h.at_
  exact ⟨a, cap, h1, h2.below hb, h3, h4, h5⟩
/-- A value is a list of lists of texts in cells below a block. -/
structure Grp (w : World) (B : Nat) (v : Value) (L : List (List By)) : Prop where
  at_ : ∃ a cap, v = .slice a L.length cap ∧ (L ≠ [] → ∃ b off, a = some ⟨b, off, none⟩ ∧ b < B ∧ ∀ i (h : i < L.length), ∃ u, w.cell? ⟨b, off + i, none⟩ = some u ∧ TxS w B u L[i])
theorem Grp.below {w w' : World} {B : Nat} {v : Value} {L : List (List By)} (h : Grp w B v L) (hb : Below B w w') : Grp w' B v L := by
  obtain ⟨a, cap, h1, h2⟩ := h.at_
  refine ⟨a, cap, h1, fun hn => ?_⟩
  obtain ⟨b, off, e, hlt, hc⟩ := h2 hn
  refine ⟨b, off, e, hlt, fun i hi => ?_⟩
  obtain ⟨u, c1, c2⟩ := hc i hi
  exact ⟨u, (hb.cell (p := ⟨b, off + i, none⟩) hlt).trans c1, c2.below hb⟩
theorem Grp.get {w : World} {B : Nat} {a : Option Addr} {n cap : Nat} {L : List (List By)} (h : Grp w B (.slice a n cap) L) {i : Nat} (hi : i < L.length) : ∃ b off u, a = some ⟨b, off, none⟩ ∧ b < B ∧ w.cell? ⟨b, off + i, none⟩ = some u ∧ TxS w B u L[i] := by
  obtain ⟨a', cap', h1, h2⟩ := h.at_
  obtain ⟨rfl, _, _⟩ := Value.slice.inj h1
  obtain ⟨b, off, e, hlt, hc⟩ := h2 (fun e => by rw [e] at hi; simp at hi)
  obtain ⟨u, c1, c2⟩ := hc i hi
  exact ⟨b, off, u, e, hlt, c1, c2⟩
def fewG (L : List (List By)) : Bool := L.all (fun l => fewV l 6 300) && decide (L.length ≤ 6)

set_option maxRecDepth 100000 in
set_option maxHeartbeats 1000000 in
theorem fewg_any (w : World) (B : Nat) (v : Value) (L : List (List By)) (h : Grp w B v L) (hL : L.length ≤ 9223372036854775807) :
    Calls Tryd.prog 21 #[v] w fun e w' => e = .returned (.bool (fewG L)) ∧ w = w' := by
  obtain ⟨a, cap, rfl, _⟩ := h.at_
  go_enter Tryd.func21, Tryd.ntmps21
  go_wp2_with fail
  go_loop [4, 7] (fun _ x => ∃ j : Nat, j ≤ L.length ∧ x = .int .i64 j ∧ ∀ i (hi : i < L.length), i < j → fewV L[i] 6 300 = true) (fun _ x => L.length - (intOf x).toNat)
  case atStart => exact ⟨0, by omega, rfl, fun i hi h => absurd h (by omega)⟩
  case round =>
    obtain ⟨j, hj, rfl, hno⟩ := hrel
    by_cases hlt : j < L.length
    · obtain ⟨b, off, u, rfl, hbb, hc, hu⟩ := h.get hlt
      obtain ⟨la, lc, rfl, hls, _, hlc, hlc2⟩ := hu.at_
      have HF := Lib.hid (few_any w B la lc L[j] 6 300 hls (by omega))
      cases hp : fewV L[j] 6 300
      · have HA := Lib.hid (show fewG L = false from by
          have : L.all (fun l => fewV l 6 300) = false := by
            rw [List.all_eq_false]; exact ⟨L[j], List.getElem_mem hlt, by simpa using hp⟩
          unfold fewG; rw [this]; rfl)
        rw [hp] at HF
        generalize L[j] = l at hc HF
        clear hno hp hls hu
        go_wp2_with fail
        refine HF.out.mono ?_
        rintro e _ ⟨rfl, rfl⟩
        go_wp2_with fail
        go_ret
        exact ⟨by rw [HA.out]; rfl, rfl⟩
      · have HNo := Lib.hid (show ∀ i (hi : i < L.length), i < j + 1 → fewV L[i] 6 300 = true from fun i hi h => by
          rcases Nat.lt_or_ge i j with h2 | h2
          · exact hno i hi h2
          · have e : i = j := by omega
            subst e; exact hp)
        rw [hp] at HF
        generalize L[j] = l at hc HF
        clear hno hp hls hu
        go_wp2_with fail
        refine HF.out.mono ?_
        rintro e _ ⟨rfl, rfl⟩
        go_wp2_with fail
        go_round
        case rel => exact ⟨j + 1, by omega, by go_num, HNo.out⟩
        case measure => simp [intOf]; omega
    · have hall : L.all (fun l => fewV l 6 300) = true := by
        rw [List.all_eq_true]
        intro x hx
        obtain ⟨i, hi, rfl⟩ := List.mem_iff_getElem.1 hx
        exact hno i hi (by omega)
      have HA := Lib.hid (show fewG L = decide (L.length ≤ 6) by unfold fewG; rw [hall]; rfl)
      clear hno hall
      by_cases hn : L.length ≤ 6
      · have HD := Lib.hid (show fewG L = true by rw [HA.out]; exact decide_eq_true hn)
        have hnI : (L.length : Int) ≤ 6 := by omega
        go_wp2_with fail
        go_ret
        exact ⟨by rw [HD.out]; rfl, rfl⟩
      · have HD := Lib.hid (show fewG L = false by rw [HA.out]; exact decide_eq_false hn)
        have hnI : ¬ (L.length : Int) ≤ 6 := by omega
        go_wp2_with fail
        go_ret
        exact ⟨by rw [HD.out]; rfl, rfl⟩

/-! ### groups -/

def cutG (fmt : Int) (len : Nat) (s : By) : By := if fmt = 0 then (s ++ List.replicate (len - s.length) 45).take len else s.take len
def groupsV (fmt : Int) (len : Nat) (L : List (List By)) : List (List By) := L.map (List.map (cutG fmt len))
/-- Own rows of texts. -/
def RowsAt (w : World) (base : Nat) (us : List Value) (G : List (List By)) : Prop :=
  us.length = G.length ∧ ∀ (i : Nat) (u : Value) (g : List By), us[i]? = some u → G[i]? = some g → w.ownsRow base 9 1 u g.length (g.map sv)
theorem RowsAt.snoc {w : World} {base : Nat} {us : List Value} {G : List (List By)} {u : Value} {g : List By} (h : RowsAt w base us G) (hu : w.ownsRow base 9 1 u g.length (g.map sv)) : RowsAt w base (us ++ [u]) (G ++ [g]) := by
  refine ⟨by rw [List.length_append, List.length_append, h.1]; rfl, fun i x y hx hy => ?_⟩
  rcases Nat.lt_or_ge i us.length with hi | hi
  · rw [List.getElem?_append_left hi] at hx
    rw [List.getElem?_append_left (by rw [← h.1]; exact hi)] at hy
    exact h.2 i x y hx hy
  · rw [List.getElem?_append_right hi] at hx
    rw [List.getElem?_append_right (by rw [← h.1]; exact hi), ← h.1] at hy
    obtain ⟨m, hm⟩ : ∃ m, m = i - us.length := ⟨_, rfl⟩
    rw [← hm] at hx hy
    cases m with
    | zero => simp at hx hy; subst hx hy; exact hu
    | succ m => simp at hx
theorem RowsAt.only {w w' : World} {base : Nat} {us : List Value} {G : List (List By)} {S : List Nat} (h : RowsAt w base us G) (ho : Only S w w') (hs : ∀ u ∈ us, ∀ k, u.ownBlock = some k → k ∉ S) : RowsAt w' base us G :=
  ⟨h.1, fun i u g hu hg => own_only (h.2 i u g hu hg) ho (hs u (List.mem_of_getElem? hu))⟩
theorem RowsAt.below {w w' : World} {base : Nat} {us : List Value} {G : List (List By)} (h : RowsAt w base us G) (hb : Below w.heap.size w w') : RowsAt w' base us G :=
  ⟨h.1, fun i u g hu hg => own_below (h.2 i u g hu hg) hb⟩
/-- What the outer loop of groups holds. -/
structure GoSt (w wr : World) (us : List Value) (G : List (List By)) (v : Value) : Prop where
  bel : Below w.heap.size w wr
  own : wr.ownsRow w.heap.size 24 1 v us.length us
  rows : RowsAt wr w.heap.size us G
  blk : ∃ k, v.ownBlock = some k ∧ k < wr.heap.size ∧ ∀ u ∈ us, ∀ j, u.ownBlock = some j → j ≠ k
theorem RowsAt.lt {w : World} {base : Nat} {us : List Value} {G : List (List By)} (h : RowsAt w base us G) {u : Value} (hu : u ∈ us) {k : Nat} (hk : u.ownBlock = some k) : k < w.heap.size := by
  obtain ⟨i, hi, rfl⟩ := List.mem_iff_getElem.1 hu
  have hg : i < G.length := h.1 ▸ hi
  exact row_own_lt (h.2 i _ _ (List.getElem?_eq_getElem hi) (List.getElem?_eq_getElem hg)) hk
theorem RowsAt.mono {w : World} {base base' : Nat} {us : List Value} {G : List (List By)} (h : RowsAt w base us G) (hb : base' ≤ base) : RowsAt w base' us G :=
  ⟨h.1, fun i u g hu hg => own_mono (h.2 i u g hu hg) hb⟩
theorem GoSt.step {w wo wr w6 : World} {o : Obj} {us : List Value} {G : List (List By)} {out v6 gv : Value} {g : List By} (h : GoSt w wo us G out) (hb : Below wo.heap.size wo wr) (hg : wr.ownsRow wo.heap.size 9 1 gv g.length (g.map sv))
    (hown : w6.ownsRow w.heap.size 24 1 v6 (us ++ [gv]).length (us ++ [gv])) (hg6 : (wr.alloc o).grownBy w6 out.ownBlock) (hb7 : v6.ownBlock = out.ownBlock ∨ v6.ownBlock = some (wr.alloc o).heap.size) : GoSt w w6 (us ++ [gv]) (G ++ [g]) v6 := by
  obtain ⟨k0, e0, l0, d0⟩ := h.blk
  have hso : w.heap.size ≤ wo.heap.size := h.bel.size
  have hsr : wo.heap.size ≤ wr.heap.size := hb.size
  have hon : Only [k0] (wr.alloc o) w6 := (Only.refl [k0] (wr.alloc o)).grown hg6 (fun k hk => Or.inl (by rw [e0] at hk; have := Option.some.inj hk; simp [this]))
  have hba : Below wr.heap.size wr (wr.alloc o) := (Below.refl _ _).alloc (Nat.le_refl _) o
  have hgb : ∀ k, gv.ownBlock = some k → wo.heap.size ≤ k ∧ k < wr.heap.size := fun k hk => ⟨row_own hg hk, row_own_lt hg hk⟩
  have hub : ∀ u ∈ us, ∀ k, u.ownBlock = some k → k < wo.heap.size := fun u hu k hk => h.rows.lt hu hk
  have hr6 : RowsAt w6 w.heap.size us G := ((h.rows.below hb).below hba).only hon (fun u hu k hk => by have := d0 u hu k hk; simpa using this)
  have hg7 : w6.ownsRow w.heap.size 9 1 gv g.length (g.map sv) := own_only (own_below (own_mono hg hso) hba) hon (fun k hk => by have := (hgb k hk).1; simp; omega)
  have hbel : Below w.heap.size w w6 := (((h.bel.trans (hb.mono hso)).alloc (Nat.le_trans hso hsr) o).grown hg6 (by simp; omega) (fun k hk => row_own h.own hk))
  refine ⟨hbel, hown, hr6.snoc hg7, ?_⟩
  rcases hb7 with hb7 | hb7
  · refine ⟨k0, by rw [hb7, e0], row_own_lt hown (by rw [hb7, e0]), fun u hu j hj => ?_⟩
    rcases List.mem_append.1 hu with hu | hu
    · exact d0 u hu j hj
    · rw [List.mem_singleton] at hu; subst hu
      have := (hgb j hj).1; omega
  · refine ⟨_, hb7, row_own_lt hown hb7, fun u hu j hj => ?_⟩
    have hz : (wr.alloc o).heap.size = wr.heap.size + 1 := by simp
    rcases List.mem_append.1 hu with hu | hu
    · have := hub u hu j hj; omega
    · rw [List.mem_singleton] at hu; subst hu
      have := (hgb j hj).2; omega
theorem infoT : (Tryd.prog.info? 24).map (fun i => (i.zero, i.size, i.bytes)) = some (some (.slice none 0 0), 1, 24) := by kernel_rfl
theorem own_one {w : World} {base : Nat} {e : TypeId} {size : Nat} {v : Value} {n : Nat} {xs : List Value} (h : w.ownsRow base e size v n xs) : v.oneCell' = true := by
  obtain ⟨_, _, rfl⟩ := own_slice h; rfl

set_option maxRecDepth 100000 in
set_option maxHeartbeats 4000000 in
theorem groups_any (w : World) (B : Nat) (fmt : Int) (len blk : Nat) (v : Value) (L : List (List By)) (h : Grp w B v L) (hB : B ≤ w.heap.size) (hL : L.length ≤ 1000) (hl : ∀ l ∈ L, l.length ≤ 1000 ∧ ∀ s ∈ l, s.length ≤ 10000) (hlen : len ≤ 10000) :
    Calls Tryd.prog 28 #[.agg (dsv 0 fmt len blk), v] w fun e w' =>
      ∃ v' us, e = .returned v' ∧ w'.ownsRow w.heap.size 24 1 v' us.length us ∧ RowsAt w' w.heap.size us (groupsV fmt len L) ∧ Below w.heap.size w w' := by
  obtain ⟨i0, hi0, hz0, hz1, hz2⟩ := info_parts info9
  obtain ⟨j0, hj0, hy0, hy1, hy2⟩ := info_parts infoT
  obtain ⟨a, cap, rfl, _⟩ := h.at_
  obtain ⟨w1, hw1⟩ : ∃ w1, w1 = w.alloc (.cells (dsv 0 fmt len blk) 28) := ⟨_, rfl⟩
  have HB0 := Lib.hid (show Below w.heap.size w w1 by rw [hw1]; exact box_below w (dsv 0 fmt len blk) 28)
  have HD0 := Lib.hid (show w1.heap[w.heap.size]? = some (.cells (dsv 0 fmt len blk) 28 (0, 0)) by rw [hw1]; exact heap_alloc_new w _)
  have HZ1 := Lib.hid (show w1.heap.size = w.heap.size + 1 by rw [hw1]; simp)
  have H1 := Lib.hid (h.below (HB0.out.mono hB))
  have HW1 := Lib.hid hw1
  have hlit : (w1.alloc (.cells #[] 24)).ownsRow w1.heap.size 24 1 (.slice (some ⟨w1.heap.size, 0, none⟩) 0 0) 0 [] :=
    World.ownsRow_lit (base := w1.heap.size) (e := 24) (size := 1) w1 #[] 0 (Nat.le_refl _) (by simp [maxLen]) rfl
  have HS := Lib.hid (show GoSt w1 (w1.alloc (.cells #[] 24)) [] [] (.slice (some ⟨w1.heap.size, 0, none⟩) 0 0) from
    ⟨box_below w1 #[] 24, hlit, ⟨rfl, fun i u g hu => (by simp at hu)⟩, ⟨w1.heap.size, rfl, by simp, fun u hu => (by cases hu)⟩⟩)
  clear hw1 hlit h
  go_enter Tryd.func28, Tryd.ntmps28
  go_wp2_with fail
  rw [← HW1.out]
  go_loopw [5, 14] (fun o k wr => ∃ (j : Nat) (us : List Value), j ≤ L.length ∧ k = .int .i64 j ∧ GoSt w1 wr us (groupsV fmt len (L.take j)) o) (fun _ k _ => L.length - (intOf k).toNat)
  case atStart => exact ⟨0, [], by omega, rfl, by rw [← HZ1.out]; exact HS.out⟩
  case round =>
    clear HS
    obtain ⟨j, us, hj, rfl, hS⟩ := hrel
    obtain ⟨wo, rfl⟩ : ∃ wo, wo = wr := ⟨wr, rfl⟩
    have HS := Lib.hid hS
    have hus : us.length ≤ 1000 := by rw [hS.rows.1]; unfold groupsV; rw [List.length_map, List.length_take]; omega
    by_cases hlt : j < L.length
    · obtain ⟨b, off, u, rfl, hbb, hc, hu⟩ := (H1.out.below (hS.bel.mono (Nat.le_trans hB HB0.out.size))).get hlt
      obtain ⟨la, lc, rfl, hls, _, hlc, hlc2⟩ := hu.at_
      obtain ⟨hl1, hl2⟩ := hl L[j] (List.getElem_mem hlt)
      have HG := Lib.hid (show groupsV fmt len (L.take (j + 1)) = groupsV fmt len (L.take j) ++ [L[j].map (cutG fmt len)] by unfold groupsV; rw [take_snoc' L j hlt, List.map_append]; rfl)
      generalize L[j] = l at hc hls hlc hl1 hl2 HG
      have HL2 := Lib.hid hl2
      have HLS := Lib.hid hls
      clear hu hls hS hl2
      obtain ⟨s0, hs0⟩ : ∃ s0, s0 = wo.heap.size := ⟨_, rfl⟩
      have hlit : (wo.alloc (.cells #[] 9)).ownsRow wo.heap.size 9 1 (.slice (some ⟨wo.heap.size, 0, none⟩) 0 0) 0 [] :=
        World.ownsRow_lit (base := wo.heap.size) (e := 9) (size := 1) wo #[] 0 (Nat.le_refl _) (by simp [maxLen]) rfl
      have HL0 := Lib.hid hlit
      have HBX := Lib.hid (box_below wo #[] 9)
      have hsz1 : w1.heap.size ≤ wo.heap.size := HS.out.bel.size
      have HDR := Lib.hid ((HS.out.bel.block w.heap.size (by have := HZ1.out; omega)).trans HD0.out)
      clear hlit
      go_wp2_with fail
      go_loopw [8, 21] (fun g k wr2 => ∃ (i : Nat) (dn : List By), i ≤ l.length ∧ k = .int .i64 i ∧ Below wo.heap.size wo wr2 ∧ wr2.ownsRow wo.heap.size 9 1 g dn.length (dn.map sv) ∧ dn = (l.take i).map (cutG fmt len)) (fun _ k _ => l.length - (intOf k).toNat)
      case atStart => exact ⟨0, [], by omega, rfl, HBX.out, HL0.out, rfl⟩
      case round =>
        obtain ⟨i, dn, hi, rfl, hb2, ho2, hdn⟩ := hrel
        have HB2 := Lib.hid hb2
        have HO2 := Lib.hid ho2
        have hdl : dn.length ≤ 1000 := by rw [hdn, List.length_map, List.length_take]; omega
        obtain ⟨ga, gc, rfl⟩ := own_slice ho2
        by_cases hlt2 : i < l.length
        · obtain ⟨b3, off3, rfl, hb3, hc3⟩ := (HLS.out.below (hb2.mono (by have := HS.out.bel.size; have := HZ1.out; omega))).get hlt2
          have hsl := HL2.out l[i] (List.getElem_mem hlt2)
          have HDN := Lib.hid (show dn ++ [cutG fmt len l[i]] = (l.take (i + 1)).map (cutG fmt len) by rw [hdn, take_snoc' l i hlt2, List.map_append]; rfl)
          have hd2 := (hb2.block w.heap.size (lt_of_block HDR.out)).trans HDR.out
          have d2 := cell_at (i := 2) (v := .int .i64 fmt) hd2 rfl
          have d3 := cell_at (i := 3) (v := .int .i64 len) hd2 rfl
          generalize l[i] = t at hc3 hsl HDN
          clear hb2 ho2 hdn hd2
          by_cases hf : fmt = 0
          · subst hf
            obtain ⟨q, hq⟩ : ∃ q, q = cutG 0 len t := ⟨_, rfl⟩
            rw [← hq] at HDN
            go_wp2_with fail
            go_loop [10] (fun x => ∃ m : Nat, x = .string ⟨(t ++ List.replicate m 45).toArray⟩ ∧ m ≤ len - t.length) (fun x => len - (match x with | .string s => s.data.size | _ => 0))
            case atStart => exact ⟨0, by simp, by omega⟩
            case round =>
              obtain ⟨m, rfl, hm⟩ := hrel
              have hyl : (t ++ List.replicate m 45).length = t.length + m := by rw [List.length_append, List.length_replicate]
              by_cases hlo : t.length + m < len
              · have HY := Lib.hid (show (t ++ List.replicate m 45) ++ [45] = t ++ List.replicate (m + 1) 45 by rw [List.append_assoc, List.replicate_succ'])
                generalize t ++ List.replicate m 45 = y at hyl HY
                have hloI : (y.length : Int) < (len : Int) := by omega
                have n1 : ¬ 9223372036854775807 < y.length + 1 := by omega
                have HYL := Lib.hid hyl
                clear hyl
                go_wp2_with fail
                go_round
                case rel => exact ⟨m + 1, by rw [← HY.out], by omega⟩
                case measure => have := HYL.out; simp; omega
              · have hqq : (t ++ List.replicate m 45).take len = q := by rw [hq, cutG, if_pos rfl, show m = len - t.length by omega]
                generalize t ++ List.replicate m 45 = y at hyl hqq
                have hloI : ¬ (y.length : Int) < (len : Int) := by omega
                have hmn : min (y.length : Int) (len : Int) = (len : Int) := by omega
                have hy0 : (0 : Int) ≤ (len : Int) := by omega
                have hy1 : (len : Int) ≤ (y.length : Int) := by omega
                have hxt : (ByteArray.mk y.toArray).extract 0 len = ⟨q.toArray⟩ := by rw [ext_take, hqq]
                clear hyl hqq hq
                have hown2 := HO2.out
                go_wp2_with (at_builtin; go_must (refine wpList_append_own _ rfl _ _ 24 rfl wo.heap.size 9 i0 (.string ByteArray.empty) 1 16 Tryd.underlying24 hi0 hz0 hz1 hz2 rfl (by decide) _ _ _ rfl (hown2.alloc _) _ 1 1 [.string ⟨q.toArray⟩] rfl rfl ?e11 ?e21 ?e31 ?e41 ?e51 ?_))
                try case e11 => exact news_at (cs := #[.string ⟨q.toArray⟩]) (heap_alloc_new _ _)
                case e21 => simp [Value.oneCell']
                case e31 => unfold maxLen; (try simp); omega
                case e41 => (try simp); omega
                case e51 => have := HB2.out.size; simp at this ⊢; omega
                intro v6 w6 hown6 hg6 _
                have hbA := HB2.out.alloc HB2.out.size (.cells #[.string ⟨q.toArray⟩] 9)
                have hb6 := hbA.grown hg6 hbA.size (fun k hk => row_own hown2 hk)
                have hown7 : w6.ownsRow wo.heap.size 9 1 v6 (dn ++ [q]).length ((dn ++ [q]).map sv) := by simpa [sv] using hown6
                have HB7 := Lib.hid hb6
                have HO7 := Lib.hid hown7
                clear hown2 hown6 hown7 hg6 hbA hb6
                go_wp2_with fail
                go_roundw
                case rel => exact ⟨i + 1, dn ++ [q], by omega, by go_num, HB7.out, HO7.out, HDN.out⟩
                case measure => simp [intOf]; omega
          · obtain ⟨q, hq⟩ : ∃ q, q = cutG fmt len t := ⟨_, rfl⟩
            rw [← hq] at HDN
            obtain ⟨kk, hkk⟩ : ∃ kk, kk = min t.length len := ⟨_, rfl⟩
            have hqq : t.take kk = q := by
              rw [hq, cutG, if_neg hf, hkk]
              rcases Nat.le_total t.length len with h | h
              · rw [Nat.min_eq_left h, List.take_length, List.take_of_length_le h]
              · rw [Nat.min_eq_right h]
            have hmn : min (t.length : Int) (len : Int) = (kk : Int) := by omega
            have hy0 : (0 : Int) ≤ (kk : Int) := by omega
            have hy1 : (kk : Int) ≤ (t.length : Int) := by omega
            have hxt : (ByteArray.mk t.toArray).extract 0 kk = ⟨q.toArray⟩ := by rw [ext_take, hqq]
            have hfb : (fmt == 0) = false := by simp [hf]
            clear hkk hqq hq
            have hown2 := HO2.out
            go_wp2_with (at_builtin; go_must (refine wpList_append_own _ rfl _ _ 24 rfl wo.heap.size 9 i0 (.string ByteArray.empty) 1 16 Tryd.underlying24 hi0 hz0 hz1 hz2 rfl (by decide) _ _ _ rfl (hown2.alloc _) _ 1 1 [.string ⟨q.toArray⟩] rfl rfl ?e12 ?e22 ?e32 ?e42 ?e52 ?_))
            try case e12 => exact news_at (cs := #[.string ⟨q.toArray⟩]) (heap_alloc_new _ _)
            case e22 => simp [Value.oneCell']
            case e32 => unfold maxLen; (try simp); omega
            case e42 => (try simp); omega
            case e52 => have := HB2.out.size; simp at this ⊢; omega
            intro v6 w6 hown6 hg6 _
            have hbA := HB2.out.alloc HB2.out.size (.cells #[.string ⟨q.toArray⟩] 9)
            have hb6 := hbA.grown hg6 hbA.size (fun k hk => row_own hown2 hk)
            have hown7 : w6.ownsRow wo.heap.size 9 1 v6 (dn ++ [q]).length ((dn ++ [q]).map sv) := by simpa [sv] using hown6
            have HB7 := Lib.hid hb6
            have HO7 := Lib.hid hown7
            clear hown2 hown6 hown7 hg6 hbA hb6
            go_wp2_with fail
            go_roundw
            case rel => exact ⟨i + 1, dn ++ [q], by omega, by go_num, HB7.out, HO7.out, HDN.out⟩
            case measure => simp [intOf]; omega
        · have hdl2 : dn = l.map (cutG fmt len) := by rw [hdn, List.take_of_length_le (by omega)]
          have HDL := Lib.hid hdl2
          have hownO := own_below HS.out.own hb2
          have HOO := Lib.hid hownO
          clear hb2 ho2 hdn hdl2 hownO
          have hownO := HOO.out
          have hbz : w1.heap.size ≤ wr.heap.size := Nat.le_trans hsz1 HB2.out.size
          go_wp2_with (at_builtin; go_must (refine wpList_append_own_at _ rfl _ _ 48 rfl w1.heap.size 24 j0 (.slice none 0 0) 1 24 Tryd.underlying48 hj0 hy0 hy1 hy2 rfl (by decide) _ _ _ rfl (hownO.alloc _) _ 1 1 [.slice ga dn.length gc] rfl rfl ?f1 ?f2 ?f3 ?f4 ?f5 ?_))
          case f1 => exact news_at (cs := #[.slice ga dn.length gc]) (heap_alloc_new _ _)
          case f2 => simp [Value.oneCell']
          case f3 => unfold maxLen; (try simp); omega
          case f4 => (try simp); omega
          case f5 => simp; omega
          intro v6 w6 hown6 hg6 _ hb7
          have HZ := Lib.hid (HS.out.step HB2.out HO2.out (by simpa using hown6) hg6 (by simpa using hb7))
          clear hown6 hg6 hb7 hownO
          go_wp2_with fail
          go_roundw
          case rel => exact ⟨j + 1, us ++ [.slice ga dn.length gc], by omega, by go_num, by rw [HG.out, ← HDL.out]; exact HZ.out⟩
          case measure => simp [intOf]; omega
    · have hG : groupsV fmt len (L.take j) = groupsV fmt len L := by rw [List.take_of_length_le (by omega)]
      have HG := Lib.hid hG
      clear hG
      obtain ⟨oa, oc, rfl⟩ := own_slice hS.own
      clear hS
      go_wp2_with fail
      go_ret
      have hsw : w.heap.size ≤ w1.heap.size := HB0.out.size
      exact ⟨_, us, rfl, own_mono HS.out.own hsw, HG.out ▸ HS.out.rows.mono hsw, HB0.out.trans (HS.out.bel.mono hsw)⟩

end Go.Proofs.YthkpcalopmddpaaDoor
