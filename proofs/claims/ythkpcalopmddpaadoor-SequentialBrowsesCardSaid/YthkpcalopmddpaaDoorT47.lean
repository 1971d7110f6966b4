/-
  Walks: grow of the law's package: a data set to which groups of records are appended. Conditions: valid sizes; few groups of few short texts.
-/
import Derived.Test.YthkpcalopmddpaaDoorT43
import Derived.Test.YthkpcalopmddpaaDoorT46
import Derived.Test.YthkpcalopmddpaaDoorGJ
namespace Go.Proofs.YthkpcalopmddpaaDoor
open Go.RowKit Go.Sort
attribute [local go_sem ↓] loadDs_down

section
variable {P : Program} {w : World}
/-- A row that lies in cells is appended to an own row; where the new row lies. -/
theorem wpList_append_rows_at {ops : Array Oper} {rest : List Oper} {o : Oper} {a : Act} {Q : Exit → Act → World → Prop} (hgd : o.guard = none) (s x : Operand) (t : TypeId)
    (ho : o.op = .call { callee := .builtin .append, args := #[s, x], argTypes := #[t, t] })
    (base : Nat) (e : TypeId) (i : TypeInfo) (z : Value) (size bytes : Nat) (ht : P.underlying t = some (.slice e)) (hi : P.info? e = some i) (hz : i.zero = some z)
    (hsize : i.size = size) (hby : i.bytes = bytes) (hzs : z.cells.size = size) (hsz : 0 < size)
    (v : Value) (n : Nat) (xs : List Value) (hs : a.eval s = v) (hown : w.ownsRow base e size v n xs)
    (ad : Option Addr) (m c : Nat) (news : List Value) (hx : a.eval x = .slice ad m c) (hl : news.length = m * size)
    (hnews : (∃ p, ad = some p ∧ ∀ (j : Nat) (u : Value), news[j]? = some u → w.cell? (p.add j) = some u) ∨ (ad = none ∧ c = 0 ∧ m = 0)) (h1 : ∀ u ∈ news, u.oneCell' = true)
    (h63 : n + m ≤ maxLen) (hbytes : (n + m) * bytes ≤ 140737488355328) (hbase : base ≤ w.heap.size)
    (h : ∀ v' w', w'.ownsRow base e size v' (n + m) (xs ++ news) → w.grownBy w' v.ownBlock → (v'.ownBlock = v.ownBlock ∨ v'.ownBlock = some w.heap.size) → wpList P ops Q rest (a.put o.dst v') w') : wpList P ops Q (o :: rest) a w := by
  rcases hnews with ⟨p, rfl, hc⟩ | ⟨rfl, rfl, rfl⟩
  · exact wpList_append_own_at w hgd s x t ho base e i z size bytes ht hi hz hsize hby hzs hsz v n xs hs hown p m c news hx hl hc h1 h63 hbytes hbase fun v' w' h2 h3 _ h5 => h v' w' h2 h3 h5
  · have hn : news = [] := List.length_eq_zero_iff.1 (by rw [hl]; simp)
    subst hn
    refine wpList_plain hgd fun K hK => ?_
    unfold Oper.wp execOp
    simp only [ho, resolve, invoke, builtin, Sem.run_bind, Sem.run_pure, Result.andThen_ok, List.map_toArray, List.map_cons, List.map_nil, hs, hx, run_append_owned_none (P := P) w base t o.type e i size ht hi v n xs hown]
    exact hK _ _ (h v w (by rw [List.append_nil]; exact hown) ⟨rfl, rfl, rfl, Nat.le_refl _, fun _ _ _ => rfl⟩ (Or.inl rfl))
end


/-- One step of grow. -/
structure GStep (fmt : Int) (len blk j : Nat) (R g : List By) (N : Nat) (ws : List (Nat × By)) : Prop where
  need : needT fmt len blk g (readV fmt len blk (secR fmt len blk j R)) = .ok N
  app : appT fmt len blk (1 + j) g (readV fmt len blk (secR fmt len blk j R)) = (ws, 0)
  big : ∀ c, readV fmt len blk (secR fmt len blk j R) = .ok c → (streamOf (packV fmt len blk (c.recs ++ g))).length ≤ 1000000000
  put : putV (secR fmt len blk j R) ws = secR fmt len blk (1 + j) (R ++ g)
  ln : (secR fmt len blk (1 + j) (R ++ g)).length = N
  l1 : (secR fmt len blk j R).length ≤ 300
  l2 : N ≤ 300
  wn : 1 ≤ ws.length ∧ ws.length ≤ 300
  w0 : ∃ d r, ws = (0, d) :: r
  wb : ∀ x ∈ ws, x.1 ≤ 5000
theorem chgW_fst (before : List By) : ∀ (l : List By) (i : Nat), ∀ x ∈ chgW before i l, x.1 ≤ i + l.length
  | [], _, x, h => by simp [chgW] at h
  | s :: l, i, x, h => by
    unfold chgW at h
    split at h
    · rcases List.mem_cons.1 h with rfl | h
      · simp only [List.length_cons]; omega
      · have := chgW_fst before l (i + 1) x h
        rw [List.length_cons]; omega
    · have := chgW_fst before l (i + 1) x h
      rw [List.length_cons]; omega
theorem grow_step {fmt : Int} {len blk j : Nat} {R g : List By} (hd : dsV 0 fmt len blk = true) (hj : j ≤ 1000) (hR : RecOk fmt len R) (hg : RecOk fmt len g) (hl : (R ++ g).length ≤ 36) : ∃ N ws, GStep fmt len blk j R g N ws := by
  have hRl : R.length ≤ 36 := by rw [List.length_append] at hl; omega
  have hs1 := stream_small hd R hR.alw hR.sml hRl
  have hRg := recOk_append hR hg
  have hs2 := stream_small hd (R ++ g) hRg.alw hRg.sml hl
  have hrd := readV_secs hd j R hR.alw (by omega) (by omega) (by omega)
  have hmono := packV_grows hd R g
  have n1 := sec_le (S := streamOf (packV fmt len blk R)) (k := 297) (by omega)
  have n2 := sec_le (S := streamOf (packV fmt len blk (R ++ g))) (k := 297) (by omega)
  have hw1 := chgW_len (secA (streamOf (packV fmt len blk R)).length (streamOf (packV fmt len blk R))) (secA (streamOf (packV fmt len blk (R ++ g))).length (streamOf (packV fmt len blk (R ++ g)))) 0
  have hw2 := chgW_fst (secA (streamOf (packV fmt len blk R)).length (streamOf (packV fmt len blk R))) (secA (streamOf (packV fmt len blk (R ++ g))).length (streamOf (packV fmt len blk (R ++ g)))) 0
  have hput := put_app j R.length (1 + j) (R ++ g).length (streamOf (packV fmt len blk R)) (streamOf (packV fmt len blk (R ++ g))) (sec_mono hmono) (by omega)
  have hlen : (secR fmt len blk j R).length = 1 + (secA (streamOf (packV fmt len blk R)).length (streamOf (packV fmt len blk R))).length := by unfold secR secsOf; rw [List.length_cons]; omega
  have hlen2 : (secR fmt len blk (1 + j) (R ++ g)).length = 1 + (secA (streamOf (packV fmt len blk (R ++ g))).length (streamOf (packV fmt len blk (R ++ g)))).length := by unfold secR secsOf; rw [List.length_cons]; omega
  refine ⟨_, _, ⟨?_, ?_, ?_, hput, hlen2, by omega, by omega, ?_, ⟨_, _, rfl⟩, ?_⟩⟩
  · unfold secR; rw [hrd]; rfl
  · unfold secR; rw [hrd]; rfl
  · intro c hc
    unfold secR at hc
    rw [hrd] at hc
    obtain rfl := Except.ok.inj hc
    simp only; omega
  · unfold appW; rw [List.length_cons]; omega
  · intro x hx
    unfold appW at hx
    rcases List.mem_cons.1 hx with rfl | hx
    · simp
    · have := hw2 x hx; omega

/-- What the loop of grow holds. -/
structure GwSt (Wg W : World) (base b0 : Nat) (lv av : Value) (l all : List By) : Prop where
  only : Only [b0] Wg W
  ol : W.ownsRow base 9 1 lv l.length (l.map sv)
  oa : W.ownsRow base 9 1 av all.length (all.map sv)
  ba : ∀ k, av.ownBlock = some k → k = b0 ∨ Wg.heap.size ≤ k
  ne : ∀ k, lv.ownBlock = some k → av.ownBlock ≠ some k

theorem GwSt.step {Wg wr w6 w7 w8 : World} {base b0 : Nat} {lv av v7 v8 : Value} {l all l2 g : List By} (h : GwSt Wg wr base b0 lv av l all) (hb6 : Below wr.heap.size wr w6) (hb7 : Below w6.heap.size w6 w7)
    (ho7 : w7.ownsRow w6.heap.size 9 1 v7 l2.length (l2.map sv)) (hg8 : w7.grownBy w8 av.ownBlock) (hb8 : v8.ownBlock = av.ownBlock ∨ v8.ownBlock = some w7.heap.size) (ho8 : w8.ownsRow base 9 1 v8 (all ++ g).length ((all ++ g).map sv)) (hbase : base ≤ Wg.heap.size) :
    GwSt Wg w8 base b0 v7 v8 l2 (all ++ g) := by
  have hs1 := h.only.size
  have hs2 := hb6.size
  have hs3 := hb7.size
  have hb17 : Below wr.heap.size wr w7 := hb6.trans (hb7.mono hs2)
  have hav : ∀ k, av.ownBlock = some k → k < wr.heap.size := fun k hk => row_own_lt h.oa hk
  have hon : Only av.ownBlock.toList w7 w8 := (Only.refl _ w7).grown hg8 (fun k hk => Or.inl (by simp [hk]))
  have hv7 : ∀ k, v7.ownBlock = some k → w6.heap.size ≤ k ∧ k < w7.heap.size := fun k hk => ⟨row_own ho7 hk, row_own_lt ho7 hk⟩
  refine ⟨(h.only.step_below hb17).grown hg8 (fun k hk => ?_), own_mono (own_only ho7 hon (fun k hk hm => ?_)) (by omega), ho8, fun k hk => ?_, fun k hk h8 => ?_⟩
  · rcases h.ba k hk with rfl | h1
    · exact Or.inl (by simp)
    · exact Or.inr h1
  · have := hav k (by simpa using hm)
    have := (hv7 k hk).1; omega
  · rcases hb8 with hb8 | hb8
    · exact h.ba k (hb8 ▸ hk)
    · rw [hb8] at hk
      have h3 : w7.heap.size = k := Option.some.inj hk
      exact Or.inr (by omega)
  · have h7 := hv7 k hk
    rcases hb8 with hb8 | hb8
    · have := hav k (hb8 ▸ h8); omega
    · rw [hb8] at h8
      have h3 : w7.heap.size = k := Option.some.inj h8
      omega
theorem own_cells {w : World} {base : Nat} {e : TypeId} {v : Value} {us : List Value} (h : w.ownsRow base e 1 v us.length us) {i : Nat} (hi : i < us.length) : ∃ g cap, v = .slice (some ⟨g, 0, none⟩) us.length cap ∧ base ≤ g ∧ g < w.heap.size ∧ w.cell? ⟨g, i, none⟩ = some us[i] := by
  rcases h.2 with ⟨rfl, hn⟩ | ⟨g, cap, cur, rfl, hbase, hblk, q1, q2, q3, q4⟩
  · omega
  · refine ⟨g, cap, rfl, hbase, lt_of_block hblk, ?_⟩
    rw [cell_of_row w g i cur e (0, 0) hblk]
    have hi2 : us[i]? = some us[i] := List.getElem?_eq_getElem hi
    generalize us[i] = x at hi2 ⊢
    rw [← q4, Nat.mul_one, List.getElem?_take, if_pos hi] at hi2
    simpa using hi2
theorem txt_nil (w : World) (B : Nat) : Txt w B (.slice none 0 0) [] := ⟨none, 0, rfl, strs_nil _ _ _, ⟨Or.inr ⟨rfl, rfl, rfl⟩⟩, Nat.le_refl _, by omega⟩

set_option maxRecDepth 100000 in
set_option maxHeartbeats 8000000 in
theorem grow_any (w : World) (B : Nat) (fmt : Int) (len blk : Nat) (v : Value) (L : List (List By)) (h : Grp w B v L) (hB : B ≤ w.heap.size) (hd : dsV 0 fmt len blk = true) (hf : fewG L = true) (hc0 : Codes w) :
    Calls Tryd.prog 22 #[.agg (dsv 0 fmt len blk), v] w fun e w' =>
      ∃ lv av, e = .returned (.tuple #[lv, av, .bool true]) ∧ w'.ownsRow w.heap.size 9 1 lv (secR fmt len blk L.length (groupsV fmt len L).flatten).length ((secR fmt len blk L.length (groupsV fmt len L).flatten).map sv) ∧
        w'.ownsRow w.heap.size 9 1 av (groupsV fmt len L).flatten.length ((groupsV fmt len L).flatten.map sv) ∧ Below w.heap.size w w' := by
  obtain ⟨i0, hi0, hz0, hz1, hz2⟩ := info_parts info9
  obtain ⟨hG6, hGok⟩ := groups_ok (fmt := fmt) (len := len) hf
  have hLG : (groupsV fmt len L).length = L.length := by unfold groupsV; rw [List.length_map]
  have hlen : len ≤ 1000 := by
    rcases ds_parts hd with ⟨rfl, hv⟩ | ⟨rfl, hv⟩ | ⟨rfl, hv⟩
    · simp [fixV] at hv; omega
    · simp [varV] at hv; omega
    · simp [spnV] at hv; omega
  have hLl : ∀ l ∈ L, l.length ≤ 1000 ∧ ∀ s ∈ l, s.length ≤ 10000 := by
    intro l hl
    unfold fewG at hf
    rw [Bool.and_eq_true, List.all_eq_true] at hf
    have h3 := hf.1 l hl
    unfold fewV at h3
    rw [Bool.and_eq_true, List.all_eq_true] at h3
    refine ⟨by have := h3.2; simp at this; omega, fun s hs => ?_⟩
    have := h3.1 s hs; simp at this; omega
  have HFM := Lib.hid (fun W hc => format_any 0 fmt len blk 0 W hc)
  rw [buildRes_nil, if_pos ⟨hd, by decide⟩] at HFM
  have hp0 : putV [] [(0, headB 0 0 0)] = secR fmt len blk 0 [] := by
    have := put_all 0 0 [] (by simp [secA])
    unfold secR
    rw [packV_nil]
    exact this
  have HGR := Lib.hid (fun W b1 b2 => groups_any W B fmt len blk v L b1 b2 (by omega) hLl (by omega))
  have HD0 := Lib.hid (heap_alloc_new w (.cells (dsv 0 fmt len blk) 28))
  have HB0 := Lib.hid (box_below w (dsv 0 fmt len blk) 28)
  have hz0' : (w.alloc (.cells (dsv 0 fmt len blk) 28)).heap.size = w.heap.size + 1 := by simp
  have HZ0 := Lib.hid hz0'
  generalize groupsV fmt len L = G at *
  generalize hd0 : headB (0 : Int).toNat 0 0 = hdd at HFM
  have hd0' : headB 0 0 0 = hdd := hd0
  rw [hd0'] at hp0
  clear hz0' hf hLl hd0 hd0'
  have dl0 := loadDs_at HD0.out rfl
  go_enter Tryd.func22, Tryd.ntmps22
  go_wp2_with fail
  refine (HFM.out _ (hc0.below HB0.out hc0.pos)).mono ?_
  rintro e w1 hP
  obtain ⟨v1, rfl, ho1⟩ := hP.out
  obtain ⟨a1, c1, rfl, hW1⟩ := wrs_of_row ho1
  have HB1 := Lib.hid (HB0.out.trans (hP.bel.mono HB0.out.size))
  have HD1 := Lib.hid ((hP.bel.block w.heap.size (lt_of_block HD0.out)).trans HD0.out)
  have hs1 : w.heap.size < w1.heap.size := by have := hP.bel.size; have := HZ0.out; omega
  clear hP ho1 dl0
  have HPT := Lib.hid (put_sec w1 0 (.slice none 0 0) [] a1 c1 [(0, hdd)] (txt_nil _ _) (Nat.zero_le _) hW1 (by simp) (by simp) (fun x hx => by rw [List.mem_singleton] at hx; subst hx; simp))
  rw [hp0] at HPT
  go_wp2_with fail
  refine HPT.out.mono ?_
  rintro e w2 ⟨v2, rfl, ho2, hb2⟩
  have HB2 := Lib.hid (HB1.out.trans (hb2.mono HB1.out.size))
  have HO2 := Lib.hid ho2
  have hs2 : w1.heap.size ≤ w2.heap.size := hb2.size
  obtain ⟨W3, hW3⟩ : ∃ W3, W3 = w2.alloc (.cells #[] 9) := ⟨_, rfl⟩
  have hlit : W3.ownsRow w.heap.size 9 1 (.slice (some ⟨w2.heap.size, 0, none⟩) 0 0) 0 [] := by
    rw [hW3]; exact World.ownsRow_lit (base := w.heap.size) (e := 9) (size := 1) w2 #[] 0 HB2.out.size (by simp [maxLen]) rfl
  have hb23 : Below w2.heap.size w2 W3 := by rw [hW3]; exact box_below w2 #[] 9
  have hs3 : W3.heap.size = w2.heap.size + 1 := by rw [hW3]; simp
  have HB3 := Lib.hid (HB2.out.trans (hb23.mono HB2.out.size))
  have HL3 := Lib.hid hlit
  have HO3 := Lib.hid (own_below ho2 hb23)
  have HD3 := Lib.hid ((hb23.block w.heap.size (by omega)).trans ((hb2.block w.heap.size (by omega)).trans HD1.out))
  have HS3 := Lib.hid hs3
  have hlb : ∀ k, v2.ownBlock = some k → k < w2.heap.size := fun k hk => row_own_lt ho2 hk
  have HLB := Lib.hid hlb
  have HW3 := Lib.hid hW3
  clear hW3 hlit hb23 hs3 ho2 hb2 HPT hlb
  have dl3 := loadDs_at HD3.out rfl
  rw [HW3.out] at dl3
  go_wp2_with fail
  rw [← HW3.out]
  refine (HGR.out _ (h.below (HB3.out.mono hB)) (Nat.le_trans hB HB3.out.size)).mono ?_
  rintro e w4 ⟨v4, us, rfl, ho4, hr4, hb4⟩
  obtain ⟨oa, oc, rfl⟩ := own_slice ho4
  have hul : us.length = G.length := hr4.1
  have HB4 := Lib.hid (HB3.out.trans (hb4.mono HB3.out.size))
  have hs4 : W3.heap.size ≤ w4.heap.size := hb4.size
  have HD4 := Lib.hid ((hb4.block w.heap.size (by have := HS3.out; omega)).trans HD3.out)
  have HS := Lib.hid (show GwSt w4 w4 w.heap.size w2.heap.size v2 (.slice (some ⟨w2.heap.size, 0, none⟩) 0 0) (secR fmt len blk 0 []) [] from
    ⟨Only.refl _ _, own_mono (own_below HO3.out hb4) (by omega), own_below HL3.out hb4, fun k hk => Or.inl (Option.some.inj hk).symm, fun k hk h2 => by
      have := HLB.out k hk
      have h3 : w2.heap.size = k := Option.some.inj h2
      omega⟩)
  have HR4 := Lib.hid hr4
  have HO4 := Lib.hid ho4
  clear hb4 hr4 ho4 dl3
  go_wp2_with fail
  go_loopw [9, 10, 31] (fun lv av k wr => ∃ (j : Nat), j ≤ G.length ∧ k = .int .i64 j ∧ GwSt w4 wr w.heap.size w2.heap.size lv av (secR fmt len blk j (G.take j).flatten) (G.take j).flatten) (fun _ _ k _ => G.length - (intOf k).toNat)
  case atStart => exact ⟨0, by omega, rfl, HS.out⟩
  case round =>
    clear HS
    obtain ⟨j, hj, rfl, hS⟩ := hrel
    have HS := Lib.hid hS
    have hs3' := HS3.out
    have hs5 : w4.heap.size ≤ wr.heap.size := hS.only.size
    have HBR := Lib.hid (HB4.out.trans (hS.only.below (B := w.heap.size) HB4.out.size (fun k hk => by simp at hk; omega)))
    by_cases hlt : j < G.length
    · have hju : j < us.length := by omega
      obtain ⟨gb, gcap, hge, hgb1, hgb2, hgc⟩ := own_cells HO4.out hju
      obtain ⟨rfl, rfl⟩ : oa = some ⟨gb, 0, none⟩ ∧ oc = gcap := by injection hge with h1 _ h2; exact ⟨h1, h2⟩
      have hgc' := (hS.only.cell (p := ⟨gb, j, none⟩) hgb2 (by simp; omega)).trans hgc
      have hrow := HR4.out.2 j us[j] G[j] (List.getElem?_eq_getElem hju) (List.getElem?_eq_getElem hlt)
      have hrow' := own_only hrow hS.only (fun k hk => by have := row_own hrow hk; simp; omega)
      obtain ⟨hg6, hgok⟩ := hGok G[j] (List.getElem_mem hlt)
      have hfl := groups_flat (fmt := fmt) (len := len) (G.take j) (fun x hx => hGok x (List.mem_of_mem_take hx))
      have hsn : (G.take (j + 1)).flatten = (G.take j).flatten ++ G[j] := by rw [take_snoc' G j hlt, List.flatten_append, List.flatten_cons, List.flatten_nil, List.append_nil]
      have hRl : ((G.take j).flatten ++ G[j]).length ≤ 36 := by have := hfl.1; rw [List.length_take] at this; rw [List.length_append]; omega
      obtain ⟨N, ws, hst⟩ := grow_step (j := j) hd (by omega) hfl.2 hgok hRl
      have hrl : (G.take j).flatten.length ≤ 36 := by rw [List.length_append] at hRl; omega
      have HTX := Lib.hid (txt_of_row hrow')
      have HSN := Lib.hid hsn
      have HST := Lib.hid hst
      have HDR := Lib.hid ((hS.only.block w.heap.size (lt_of_block HD4.out) (by simp; omega)).trans HD4.out)
      have hub : ∀ k, us[j].ownBlock = some k → W3.heap.size ≤ k ∧ k < w4.heap.size := fun k hk => ⟨row_own hrow hk, row_own_lt hrow hk⟩
      have HUR := Lib.hid hrow'
      have hTL := txt_of_row hS.ol
      have HTL := Lib.hid hTL
      obtain ⟨la, lc, hlv, hls, _, _, _⟩ := hTL.at_
      subst hlv
      have hcod := hc0.below HBR.out hc0.pos
      have HND := Lib.hid (need_ok wr wr.heap.size la lc (secR fmt len blk j (G.take j).flatten) fmt len blk us[j] G[j] hls HTX.out (Nat.le_refl _) hst.l1 (by omega) hd hgok.alw hst.big hcod)
      have HAP := Lib.hid (fun (W : World) (hb : Below wr.heap.size wr W) => app_ok W wr.heap.size la lc (secR fmt len blk j (G.take j).flatten) fmt len blk (1 + j) us[j] G[j] (hls.below hb) (HTX.out.below hb) hb.size hst.l1 (by omega) hd (by simp [numV]; omega) hgok.alw hst.big (hcod.below hb hcod.pos))
      rw [hst.need] at HND
      rw [hst.app] at HAP
      simp only at HAP
      rw [show ((1 + j : Nat) : Int) = 1 + (j : Int) by omega] at HAP
      have HPU := Lib.hid (fun (W : World) (a : Option Addr) (cap : Nat) (hb : Below wr.heap.size wr W) (hw : Wrs W a ws) => put_sec W wr.heap.size _ (secR fmt len blk j (G.take j).flatten) a cap ws (HTL.out.below hb) hb.size hw (by have := hst.l1; omega) (by have := hst.wn; omega) hst.wb)
      rw [hst.put] at HPU
      obtain ⟨dw, rw', hw0⟩ := hst.w0
      have hN := hst.l2
      have hln := hst.ln
      have hwn := hst.wn
      have HLN := Lib.hid hln
      clear hln hst hls hTL hsn hgok hrow hrow' hfl hcod
      generalize us[j] = uj at *
      generalize G[j] = gj at *
      generalize (G.take j).flatten = R at *
      generalize secR fmt len blk j R = lR at *
      have dlr := loadDs_at HDR.out rfl
      go_wp2_with fail
      refine HND.out.mono ?_
      rintro e w5 hP
      obtain rfl := hP.good N rfl
      have hb5 := hP.bel
      have HB5 := Lib.hid hb5
      have HD5 := Lib.hid ((hb5.block w.heap.size (lt_of_block HDR.out)).trans HDR.out)
      clear hP hb5 dlr
      have dl5 := loadDs_at HD5.out rfl
      go_wp2_with fail
      refine (HAP.out _ HB5.out).mono ?_
      rintro e w6 hP
      obtain ⟨v6, rfl, ho6⟩ := hP.out
      obtain ⟨a6, c6, rfl, hW6⟩ := wrs_of_row ho6
      have HB6 := Lib.hid (HB5.out.trans (hP.bel.mono HB5.out.size))
      obtain ⟨wb, hwa, wc0, _⟩ := hW6.get (i := 0) (by omega)
      subst hwa
      have hw00 : ws[0].1 = 0 := by subst hw0; rfl
      rw [hw00] at wc0
      simp only [Nat.zero_mul] at wc0
      have HW6 := Lib.hid hW6
      clear hP ho6 dl5 hW6 hw00 hw0
      have hw1I : ¬ (ws.length : Int) < 1 := by omega
      have hw0I : (0 : Int) < (ws.length : Int) := by omega
      go_wp2_with fail
      refine (HPU.out _ _ _ HB6.out HW6.out).mono ?_
      rintro e w7 ⟨v7, rfl, ho7, hb7⟩
      have HB7 := Lib.hid (HB6.out.trans (hb7.mono HB6.out.size))
      have HTX7 := Lib.hid (HTX.out.below HB7.out)
      obtain ⟨xa, xc, rfl, _, hxn, _, _⟩ := HTX7.out.at_
      have hall := own_below HS.out.oa HB7.out
      have HAL := Lib.hid hall
      have HXN := Lib.hid hxn
      have HO7 := Lib.hid ho7
      have HB67 := Lib.hid hb7
      have hs67 : w6.heap.size ≤ w7.heap.size := hb7.size
      have hs56 : wr.heap.size ≤ w6.heap.size := HB6.out.size
      clear ho7 hb7 hxn hall
      have hall := HAL.out
      go_wp2_with (at_builtin; (refine wpList_append_rows_at rfl _ _ 24 rfl w.heap.size 9 i0 (.string ByteArray.empty) 1 16 Tryd.underlying24 hi0 hz0 hz1 hz2 rfl (by decide) _ _ _ rfl hall _ _ _ (gj.map sv) rfl (by simp) HXN.out.out (one_sv gj) (by unfold maxLen; omega) (by omega) (Nat.le_trans HBR.out.size (Nat.le_trans hs56 hs67)) ?_))
      intro v8 w8 ho8 hg8 hb8
      have hst8 := HS.out.step (g := gj) HB6.out HB67.out HO7.out hg8 hb8 (by rw [List.length_append, List.map_append]; exact ho8) (by omega)
      have HZ := Lib.hid hst8
      have hln := HLN.out
      subst hln
      obtain ⟨l2, hl2⟩ : ∃ l2, l2 = secR fmt len blk (1 + j) (R ++ gj) := ⟨_, rfl⟩
      rw [← hl2] at HO7 HZ ⊢
      obtain ⟨pa, pc, rfl⟩ := own_slice HO7.out
      have HL2 := Lib.hid hl2
      clear ho8 hg8 hb8 hst8 hl2
      go_wp2_with fail
      go_roundw
      case rel => exact ⟨j + 1, by omega, by go_num, by rw [HSN.out, show j + 1 = 1 + j by omega, ← HL2.out]; exact HZ.out⟩
      case measure => simp [intOf]; omega
    · have hj' : j = G.length := by omega
      have htk : (G.take j).flatten = G.flatten := by rw [List.take_of_length_le (by omega)]
      rw [htk, hj', hLG] at HS
      clear hS
      go_wp2_with fail
      refine bodyPost_ret3 rfl rfl rfl rfl rfl ?_
      exact ⟨_, _, rfl, HS.out.ol, HS.out.oa, HBR.out⟩

end Go.Proofs.YthkpcalopmddpaaDoor
