/-
  Walks: Append, where the description, the number and the records are in order. Conditions: at most 300 sectors and 1000 records.
-/
import Derived.Test.YthkpcalopmddpaaGreatDoorT42
import Derived.Test.YthkpcalopmddpaaGreatDoorT33
namespace Go.Proofs.YthkpcalopmddpaaGreatDoor
open Go.RowKit Go.Sort
attribute [local go_sem ↓] loadDs_down loadCon_down storeCon_down

def appT (fmt : Int) (len blk n : Nat) (rs : List By) : Except Int Con → List (Nat × By) × Int
  | .error k => ([], k)
  | .ok c => (appW n (c.recs ++ rs).length c.str (streamOf (packV fmt len blk (c.recs ++ rs))), 0)

set_option maxRecDepth 100000 in
set_option maxHeartbeats 8000000 in
theorem app_ok (w : World) (B : Nat) (a : Option Addr) (cap : Nat) (l : List By) (fmt : Int) (len blk n : Nat) (rsv : Value) (rs : List By) (h : Strs w B a l) (hr : Txt w B rsv rs) (hB : B ≤ w.heap.size) (hl : l.length ≤ 300) (hrl : rs.length ≤ 1000) (hdv : dsV 0 fmt len blk = true) (hnv : numV n = true) (ha : alwV fmt len rs = true)
    (hS : ∀ c, readV fmt len blk l = .ok c → (streamOf (packV fmt len blk (c.recs ++ rs))).length ≤ 1000000000) (hc0 : Codes w) :
    Calls Tryz.prog 21 #[.agg (dsv 0 fmt len blk), pgv a l.length cap, .int .i64 n, rsv] w fun e w' => WPost w (appT fmt len blk n rs (readV fmt len blk l)).1 (appT fmt len blk n rs (readV fmt len blk l)).2 e w' := by
  obtain ⟨j0, hj0, hy0, hy1, hy2⟩ := info_parts infoW
  have HD0 := Lib.hid (heap_alloc_new w (.cells (dsv 0 fmt len blk) 29))
  have HB0 := Lib.hid (box_below w (dsv 0 fmt len blk) 29)
  have HMR := Lib.hid (fun W b1 b2 b3 b4 => more_ok W B a cap l fmt len blk n rsv rs b1 b2 b3 hl hrl hdv hnv ha b4)
  have HER := Lib.hid (fun k (hk : readV fmt len blk l = .error k) => readV_bad hk)
  have hnn : n ≤ 1099511627776 := by simp [numV] at hnv; omega
  have HOK := Lib.hid (fun c (hc : readV fmt len blk l = .ok c) => readV_ok hdv hc)
  generalize readV fmt len blk l = T at HMR hS HER HOK ⊢
  have dl0 := loadDs_at HD0.out rfl
  go_enter Tryz.func21, Tryz.ntmps21
  go_wp2_with fail
  refine (HMR.out _ (h.below (HB0.out.mono hB)) (hr.below (HB0.out.mono hB)) (Nat.le_trans hB HB0.out.size) (hc0.below HB0.out hc0.pos)).mono ?_
  rintro e w1 hP
  have HB1 := Lib.hid (HB0.out.trans (hP.bel.mono HB0.out.size))
  obtain ⟨o, m, k, rfl, hk⟩ := hP.any
  clear hP dl0
  cases T with
  | error k' =>
    rcases hk with ⟨c, d, hk, _⟩ | ⟨hk, rfl, rfl⟩
    · cases hk
    obtain rfl : k' = k := Except.error.inj hk
    have hk0 := HER.out k' rfl
    have e1 : (k' == 0) = false := by simp [hk0]
    have e2 : (k' != 0) = true := by simp [hk0]
    obtain ⟨s1, s2⟩ := store_news w1 coz coz rfl rfl coz_one coz_one
    obtain ⟨b1, _, _⟩ := con_news w1 coz coz
    have HBF := Lib.hid (HB1.out.trans (b1.mono HB1.out.size))
    clear hk hk0 b1 HER hS HMR HOK
    go_wp2_with fail
    go_ret2
    exact WPost.none k' HBF.out
  | ok c =>
    rcases hk with ⟨c', d, hk, rfl, h1, h2⟩ | ⟨hk, _⟩
    rotate_left
    · cases hk
    simp only [moreT, Except.ok.injEq, Prod.mk.injEq] at hk
    obtain ⟨rfl, rfl⟩ := hk
    have hs := hS c rfl
    have hRO := HOK.out c rfl
    have hso : c.str.length ≤ 1000000000 := by have := hRO.sl; omega
    have hfw := hRO.few
    have hcl : (c.recs ++ rs).length ≤ 40000 := by rw [List.length_append]; omega
    obtain ⟨q1, q2⟩ := h1.one
    obtain ⟨q3, q4⟩ := h2.one
    obtain ⟨s1, s2⟩ := store_news w1 o m q1 q3 q2 q4
    obtain ⟨b1, g1, g2⟩ := con_news w1 o m
    obtain ⟨rv, bv, rfl, h3, h4⟩ := h2.ex
    obtain ⟨na, nc, rfl⟩ := own_slice h3
    obtain ⟨nb, nd, rfl⟩ := own_slice h4
    obtain ⟨rw, bw, rfl, h5, h6⟩ := h1.ex
    obtain ⟨oa, oc, rfl⟩ := own_slice h5
    obtain ⟨ob, od, rfl⟩ := own_slice h6
    simp only [conV] at s1 s2 b1 g1 g2 h3 h4 ⊢
    obtain ⟨AW, hAW⟩ : ∃ AW, AW = (appT fmt len blk n rs (.ok c)).1 := ⟨_, rfl⟩
    have HTT := Lib.hid (show AW = appW n (c.recs ++ rs).length c.str (streamOf (packV fmt len blk (c.recs ++ rs))) from hAW)
    have HFF := Lib.hid (show (appT fmt len blk n rs (.ok c)).1 = AW ∧ (appT fmt len blk n rs (.ok c)).2 = 0 from ⟨hAW.symm, rfl⟩)
    clear hAW
    generalize streamOf (packV fmt len blk (c.recs ++ rs)) = S at *
    generalize (packV fmt len blk (c.recs ++ rs)).length = PL at *
    generalize (c.recs ++ rs).length = RL at *
    generalize c.str = SO at *
    generalize c.recs.length = OL at *
    generalize c.blk.length = QL at *
    obtain ⟨W3, hW3⟩ : ∃ W3, W3 = (((w1.alloc (.cells coz 77)).alloc (.cells coz 77)).setRow w1.heap.size #[.int .i64 c.ap, .slice oa OL oc, .slice ob QL od, .string ⟨SO.toArray⟩]).setRow (w1.heap.size + 1) #[.int .i64 n, .slice na RL nc, .slice nb PL nd, .string ⟨S.toArray⟩] := ⟨_, rfl⟩
    rw [← hW3] at s2 b1 g1 g2
    have G1 := Lib.hid g1
    have G2 := Lib.hid g2
    have HB3 := Lib.hid (HB1.out.trans (b1.mono HB1.out.size))
    have HSO := Lib.hid (fun W => sectors_any c.ap oa ob OL oc QL od SO W hso)
    have HSN := Lib.hid (fun W => sectors_any n na nb RL nc PL nd S W hs)
    have HHD := Lib.hid (fun W => head_any n RL nc PL nd na nb S W (by omega) (by omega) (by omega))
    have hbl := Nat.le_trans (secA_le SO.length SO) hso
    have htl := Nat.le_trans (secA_le S.length S) hs
    have HAW := Lib.hid (show appW n RL SO S = (0, headB n RL S.length) :: chgW (secA SO.length SO) 0 (secA S.length S) from rfl)
    have hhd : pad (num n ++ num RL ++ num S.length) = headB n RL S.length := rfl
    rw [hhd] at HHD
    generalize headB n RL S.length = hd at HHD HAW
    generalize secA SO.length SO = BB at HSO HAW hbl
    generalize secA S.length S = TT at HSN HAW htl
    have dl1 := loadCon_at G1.out rfl
    have HW3 := Lib.hid hW3
    clear h1 h2 h3 h4 h5 h6 b1 g1 g2 q1 q2 q3 q4 HER hS HMR HOK hRO hfw hW3 hhd
    go_wp2_with fail
    refine (HSO.out _).mono ?_
    rintro e w4 ⟨v4, rfl, ho4, hb4⟩
    obtain ⟨ba, bc, rfl, hBS, hbc, hbc2⟩ := row_all ho4
    have HB4 := Lib.hid (HB3.out.trans (hb4.mono HB3.out.size))
    have HG4 := Lib.hid ((hb4.block (w1.heap.size + 1) (lt_of_block G2.out)).trans G2.out)
    have HBS := Lib.hid hBS
    clear ho4 hb4 hBS dl1
    have dl4 := loadCon_at HG4.out rfl
    go_wp2_with fail
    refine (HHD.out _).mono ?_
    rintro e w5 ⟨rfl, hb5⟩
    have HB5 := Lib.hid (HB4.out.trans (hb5.mono HB4.out.size))
    have HG5 := Lib.hid ((hb5.block (w1.heap.size + 1) (lt_of_block HG4.out)).trans HG4.out)
    have HBS5 := Lib.hid (HBS.out.below hb5)
    have hz45 : w4.heap.size ≤ w5.heap.size := hb5.size
    clear hb5 dl4
    have dl5 := loadCon_at ((halloc w5 (.cells #[.int .i64 0, .string ⟨hd.toArray⟩] 59) (lt_of_block HG5.out)).trans HG5.out) rfl
    go_wp2_with fail
    refine (HSN.out _).mono ?_
    rintro e w6 ⟨v6, rfl, ho6, hb6⟩
    obtain ⟨sa, sc, rfl, hT6⟩ := strsIn_of_row ho6
    have hlit : (w5.alloc (.cells #[.int .i64 (0 : Nat), .string ⟨hd.toArray⟩] 59)).ownsRow w.heap.size 59 2 (.slice (some ⟨w5.heap.size, 0, none⟩) 1 1) 1 (flatW [(0, hd)]) :=
      World.ownsRow_lit (base := w.heap.size) (e := 59) (size := 2) w5 #[.int .i64 (0 : Nat), .string ⟨hd.toArray⟩] 1 HB5.out.size (by simp [maxLen]) rfl
    have HS := Lib.hid (show BdSt w6 w5.heap.size w.heap.size w6 [(0, hd)] (.slice (some ⟨w5.heap.size, 0, none⟩) 1 1) from
      ⟨Only.refl _ _, own_below hlit hb6, fun k hk => Or.inl (Option.some.inj hk).symm⟩)
    have HB6 := Lib.hid ((HB5.out.alloc HB5.out.size (.cells #[.int .i64 (0 : Nat), .string ⟨hd.toArray⟩] 59)).trans (hb6.mono (HB5.out.alloc HB5.out.size _).size))
    have hz46 : w4.heap.size ≤ w6.heap.size := by have := hb6.size; simp at this; omega
    have HBS6 := Lib.hid (HBS5.out.below (((Below.refl w5.heap.size w5).alloc (Nat.le_refl _) (.cells #[.int .i64 (0 : Nat), .string ⟨hd.toArray⟩] 59)).trans (hb6.mono (by simp)) |>.mono hz45))
    have HT6 := Lib.hid hT6
    have hz6 : (w5.alloc (.cells #[.int .i64 (0 : Nat), .string ⟨hd.toArray⟩] 59)).heap.size = w5.heap.size + 1 := by simp
    have HZ6 := Lib.hid hz6
    clear ho6 hb6 hT6 hlit hz6 dl5
    go_wp2_with fail
    go_loopw [14, 15, 16, 37] (fun o _ _ k wr => ∃ (j : Nat) (ws : List (Nat × By)), j ≤ TT.length ∧ k = .int .i64 j ∧ BdSt w6 w5.heap.size w.heap.size wr ws o ∧ AW = ws ++ chgW BB j (TT.drop j) ∧ ws.length ≤ j + 1) (fun _ _ _ k _ => TT.length - (intOf k).toNat)
    case atStart => exact ⟨0, [(0, hd)], by omega, rfl, HS.out, by rw [HTT.out, HAW.out]; rfl, by simp⟩
    case round =>
      clear HS
      obtain ⟨j, ws, hj, rfl, hS, htot, hwl⟩ := hrel
      have HO := Lib.hid hS.own
      by_cases hlt : j < TT.length
      · obtain ⟨b, rfl, hbl6, hcc⟩ := hS.text HT6.out (by simp) hlt
        have HBW := Lib.hid (HBS6.out.below (hS.only.below (B := w4.heap.size) hz46 (fun k hk => by simp at hk; omega)))
        rw [List.drop_eq_getElem_cons hlt] at htot
        generalize TT[j] = d at hcc htot
        have HSS := Lib.hid hS
        clear hS
        have hjI : (j : Int) < (TT.length : Int) := by omega
        by_cases hge : BB.length ≤ j
        · have hgI : (BB.length : Int) ≤ (j : Int) := by omega
          have HN := Lib.hid (show AW = (ws ++ [(1 + j, d)]) ++ chgW BB (j + 1) (TT.drop (j + 1)) by rw [htot, chgW, if_pos (Or.inl hge), List.append_assoc]; rfl)
          clear htot hge
          have hown := HO.out
          go_wp2_with (at_builtin; go_must (refine wpList_append_own_at _ rfl _ _ 48 rfl w.heap.size 59 j0 (.agg #[.int .i64 0, .string ByteArray.empty]) 2 24 Tryz.underlying48 hj0 hy0 hy1 hy2 rfl (by decide) _ _ _ rfl (hown.alloc _) _ 1 1 [.int .i64 (1 + (j : Int)), .string ⟨d.toArray⟩] rfl rfl ?e11 ?e21 ?e31 ?e41 ?e51 ?_))
          case e11 => exact news_at (cs := #[.int .i64 (1 + (j : Int)), .string ⟨d.toArray⟩]) (heap_alloc_new _ _)
          case e21 => simp [Value.oneCell']
          case e31 => unfold maxLen; (try simp); omega
          case e41 => (try simp); omega
          case e51 => have := HSS.out.only.size; have := HB6.out.size; simp; omega
          intro v7 w7 ho7 hg7 _ hb7
          have HZ := Lib.hid (HSS.out.step (HSS.out.only.alloc _) (1 + j, d) (by simp) (by simpa [wrC, sv] using ho7) hg7 (by simpa using hb7))
          clear ho7 hg7 hb7 hown
          go_wp2_with fail
          go_roundw
          case rel => exact ⟨j + 1, ws ++ [(1 + j, d)], by omega, by go_num, HZ.out, HN.out, by rw [List.length_append, List.length_singleton]; omega⟩
          case measure => simp [intOf]; omega
        · have hgI : ¬ (BB.length : Int) ≤ (j : Int) := by omega
          obtain ⟨b2, off, rfl, _, hcb⟩ := HBW.out.get (show j < BB.length by omega)
          have hbg : BB[j]? = some BB[j] := List.getElem?_eq_getElem (by omega)
          generalize BB[j] = x at hcb hbg
          have hi0 : (0 : Int) ≤ (j : Int) := by omega
          have hi1 : (j : Int) < (BB.length : Int) := by omega
          by_cases hx : x = d
          · subst hx
            have HN := Lib.hid (show AW = ws ++ chgW BB (j + 1) (TT.drop (j + 1)) by rw [htot, chgW, if_neg (by rintro (h | h); exact hge h; exact h hbg)])
            clear htot hge hbg
            go_wp2_with fail
            go_roundw
            case rel => exact ⟨j + 1, ws, by omega, by go_num, HSS.out, HN.out, by omega⟩
            case measure => simp [intOf]; omega
          · have HN := Lib.hid (show AW = (ws ++ [(1 + j, d)]) ++ chgW BB (j + 1) (TT.drop (j + 1)) by rw [htot, chgW, if_pos (Or.inr (by rw [hbg]; intro h; exact hx (Option.some.inj h))), List.append_assoc]; rfl)
            have hxb : (x == d) = false := by simpa using hx
            clear htot hge hbg hx
            have hown := HO.out
            go_wp2_with (at_builtin; go_must (refine wpList_append_own_at _ rfl _ _ 48 rfl w.heap.size 59 j0 (.agg #[.int .i64 0, .string ByteArray.empty]) 2 24 Tryz.underlying48 hj0 hy0 hy1 hy2 rfl (by decide) _ _ _ rfl (hown.alloc _) _ 1 1 [.int .i64 (1 + (j : Int)), .string ⟨d.toArray⟩] rfl rfl ?e11 ?e21 ?e31 ?e41 ?e51 ?_))
            case e21 => simp [Value.oneCell']
            case e31 => unfold maxLen; (try simp); omega
            case e41 => (try simp); omega
            case e51 => have := HSS.out.only.size; have := HB6.out.size; simp; omega
            intro v7 w7 ho7 hg7 _ hb7
            have HZ := Lib.hid (HSS.out.step (HSS.out.only.alloc _) (1 + j, d) (by simp) (by simpa [wrC, sv] using ho7) hg7 (by simpa using hb7))
            clear ho7 hg7 hb7 hown
            go_wp2_with fail
            go_roundw
            case rel => exact ⟨j + 1, ws ++ [(1 + j, d)], by omega, by go_num, HZ.out, HN.out, by rw [List.length_append, List.length_singleton]; omega⟩
            case measure => simp [intOf]; omega
      · rw [List.drop_eq_nil_of_le (by omega)] at htot
        have hWS : AW = ws := by rw [htot]; simp [chgW]
        have hbf : Below w.heap.size w wr := HB6.out.trans (hS.only.below HB6.out.size (fun k hk => by simp at hk; rw [hk]; exact HB5.out.size))
        have HZ := Lib.hid hS.own
        have HBf := Lib.hid hbf
        have HWS := Lib.hid hWS
        clear hS hbf HO htot hWS
        go_wp2_with fail
        go_ret2
        rw [HFF.out.1, HFF.out.2, HWS.out]
        exact ⟨⟨_, rfl, HZ.out⟩, HBf.out⟩

end Go.Proofs.YthkpcalopmddpaaGreatDoor
