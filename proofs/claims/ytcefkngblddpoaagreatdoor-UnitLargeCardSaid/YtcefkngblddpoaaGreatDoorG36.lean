/-
  Walk: the first committed pair behind a key that a unit has not changed. Condition: unit and base lie in memory; the pairs rise.
  Plain: the best of several pairs does not depend on their order. No walk.
-/
import Derived.Test.YtcefkngblddpoaaGreatDoorG35
import Derived.Test.YtcefkngblddpoaaGreatDoorG24
namespace Go.Proofs.YtcefkngblddpoaaGreatDoor

section
set_option maxRecDepth 100000
set_option maxHeartbeats 8000000
set_option linter.unusedSimpArgs false
set_option linter.unusedVariables false
open Go.RowKit Go.Sort
theorem rise_tail {p : Pr} {l : List Pr} (h : Rise (p :: l)) : Rise l ∧ ∀ q ∈ l, Op.bytesLess p.1 q.1 = true := by
 unfold Rise at h ⊢
 rw [List.pairwise_cons] at h
 exact ⟨h.2, h.1⟩
theorem nextL_find (k : By) : ∀ (l : List Pr), Rise l → nextL k l = answN (l.find? (fun p => Op.bytesLess k p.1))
 | [], _ => rfl
 | p :: l, h => by
   obtain ⟨h1, h2⟩ := rise_tail h
   have ih := nextL_find k l h1
   cases hp : Op.bytesLess p.1 k with
   | true =>
     have hk := ls_asym hp
     rw [List.find?_cons_of_neg (by rw [hk]; simp), ← ih]
     have e1 : posL k (p :: l) = posL k l + 1 := by unfold posL; rw [List.findIdx_cons]; simp [hp]
     have e3 : hasL k (p :: l) = hasL k l := by unfold hasL; rw [e1, List.getElem?_cons_succ]
     unfold nextL
     rw [e3, e1]
     cases hasL k l <;> simp
   | false =>
     have e1 : posL k (p :: l) = 0 := by unfold posL; rw [List.findIdx_cons]; simp [hp]
     by_cases e : p.1 = k
     · have e2 : hasL k (p :: l) = true := by unfold hasL; rw [e1]; simp [e]
       unfold nextL
       rw [e2, e1, if_pos rfl, List.find?_cons_of_neg (by rw [e, ls_irr]; simp)]
       cases l with
       | nil => rfl
       | cons q l =>
         have := h2 q (by simp)
         rw [e] at this
         rw [List.find?_cons_of_pos (by rw [this])]
         rfl
     · have e2 : hasL k (p :: l) = false := by unfold hasL; rw [e1]; simp [e]
       have e3 := ls_tot hp e
       unfold nextL
       rw [e2, e1, if_neg (by simp), List.find?_cons_of_pos (by rw [e3])]
       rfl
theorem find_eq {α : Type} {f g : α → Bool} : ∀ (l : List α), (∀ x ∈ l, f x = g x) → l.find? f = l.find? g
 | [], _ => rfl
 | x :: l, h => by
   rw [List.find?_cons, List.find?_cons, h x (by simp), find_eq l (fun y hy => h y (by simp [hy]))]
theorem find_skip (k : By) (g : By → Bool) (p : Pr) : ∀ (l : List Pr), Rise l → l.find? (fun q => Op.bytesLess k q.1) = some p → l.find? (fun q => Op.bytesLess k q.1 && g q.1) = if g p.1 = true then some p else l.find? (fun q => Op.bytesLess p.1 q.1 && g q.1)
 | [], _, h => by simp at h
 | q :: l, hr, h => by
   obtain ⟨h1, h2⟩ := rise_tail hr
   cases hq : Op.bytesLess k q.1 with
   | true =>
     rw [List.find?_cons_of_pos (by rw [hq])] at h
     obtain rfl := Option.some.inj h
     by_cases hg : g q.1 = true
     · rw [if_pos hg, List.find?_cons_of_pos (by rw [hq, hg]; rfl)]
     · rw [if_neg hg, List.find?_cons_of_neg (by simp [hg]), List.find?_cons_of_neg (by rw [ls_irr]; simp)]
       refine find_eq l fun x hx => ?_
       rw [h2 x hx, ls_trans hq (h2 x hx)]
   | false =>
     rw [List.find?_cons_of_neg (by rw [hq]; simp)] at h
     have hp := List.mem_of_find?_eq_some h
     rw [List.find?_cons_of_neg (by rw [hq]; simp), find_skip k g p l h1 h]
     congr 1
     rw [List.find?_cons_of_neg (by rw [ls_asym (h2 p hp)]; simp)]
theorem less_count {k : By} {p : Pr} {l : List Pr} (h : l.find? (fun q => Op.bytesLess k q.1) = some p) : (l.filter (fun q => Op.bytesLess p.1 q.1)).length < (l.filter (fun q => Op.bytesLess k q.1)).length := by
 have hk : Op.bytesLess k p.1 = true := by simpa using List.find?_some h
 exact filter_lt50 (fun x _ hx => ls_trans hk hx) (List.mem_of_find?_eq_some h) hk (ls_irr _)
theorem comU_eq (C : Int → List Pr) (u : Un) (id : Int) (k : By) : comU C u id k = if (match alook u.sets id with | some x => x.emp | none => false) = true then none else (C id).find? (fun p => Op.bytesLess k p.1 && (chgU u id p.1).isNone) := by
 unfold comU
 cases h : alook u.sets id with
 | none =>
   simp only [Bool.false_eq_true, if_false]
   refine find_eq _ fun x _ => ?_
   unfold chgU; rw [h]; simp
 | some x =>
   simp only
   by_cases he : x.emp = true
   · rw [if_pos he, if_pos he]
   · rw [if_neg he, if_neg he]
     refine find_eq _ fun y _ => ?_
     unfold chgU
     rw [h]
     simp only [he]
     cases alook x.keys y.1 <;> simp
/-- The text that a value is. -/
def strOf : Value → By
 | .string s => s.data.toList
 | _ => []
section
attribute [local go_sem ↓] loadSn_down storeSn_down
theorem ucom_w (w : World) (S F : List Nat) (p m : Nat) (b : Bs) (u : Un) (id : Int) (k : By) (h : UnAt w S p b.val (lvOf m) u) (hb : BsAt w F b) (hr : Rise (b.pairs id)) (hkl : ∀ q ∈ b.pairs id, q.1.length ≤ 1000000) (hi : I64 id) :
 Calls Tryz.prog 103 #[.pointer (some ⟨p, 0, none⟩), .int .i64 id, .string ⟨k.toArray⟩] w fun e w' => e = .returned (.tuple (nextT (answN (comU b.pairs u id k)))) ∧ Below w.heap.size w w' := by
 have HCH := Lib.hid (fun (W : World) (s : By) (hW : Below w.heap.size w W) (hs : s.length ≤ 1000000) => changed_w W S p b.val (lvOf m) u id s (h.below hW) hi hs)
 obtain ⟨R, hR⟩ : ∃ R, R = comU b.pairs u id k := ⟨_, rfl⟩
 rw [← hR]
 rw [comU_eq] at hR
 have HB := Lib.hid (fun (W : World) (hW : Below w.heap.size w W) => hb.below hW)
 obtain ⟨kk, rfl, hkb, _, hks, hk⟩ := h
 have c4 := cell_at (i := 4) (v := .map (some kk.mb)) hk.row rfl
 have hlk := look_os hk hi
 have hue := hk.look id
 have HKB := Lib.hid hkb
 have HROW := Lib.hid hk.row
 clear hb hkb hks
 generalize hg : (fun s => (chgU u id s).isNone) = g at *
 have hgs : ∀ s, (chgU u id s).isNone = g s := fun s => by rw [← hg]
 simp only [hgs] at hR
 have HGS := Lib.hid hgs
 have HRI := Lib.hid hr
 have HKL := Lib.hid hkl
 clear hg hgs hr hkl
 obtain ⟨em, hem⟩ : ∃ em, em = (match alook u.sets id with | some x => x.emp | none => false) := ⟨_, rfl⟩
 rw [← hem] at hR
 rw [hue] at hem
 cases ho : alook kk.os id with
 | none =>
   rw [ho] at hlk hem
   simp only [Option.map_none, Option.getD_none, Option.isSome_none] at hlk hem
   rw [hem, if_neg (by simp)] at hR
   have HR0 := Lib.hid hR
   clear hR hem hue ho hk
   go_enter Tryz.func103, Tryz.ntmps103
   go_wp2_with fail
   clear hlk c4
   go_loopw [2] (fun t wr => ∃ k' : By, t = .string ⟨k'.toArray⟩ ∧ R = (b.pairs id).find? (fun q => Op.bytesLess k' q.1 && g q.1) ∧ Below w.heap.size w wr) (fun t _ => ((b.pairs id).filter (fun q => Op.bytesLess (strOf t) q.1)).length)
   case atStart => exact ⟨k, rfl, HR0.out, Below.refl _ _⟩
   case round =>
    clear HR0
    obtain ⟨k', rfl, hrk, hbw⟩ := hrel
    have HBW := Lib.hid hbw
    have HRK := Lib.hid hrk
    have c1 : wr.cell? ⟨kk.p, 1, none⟩ = some b.val := cell_at (i := 1) (heap_below hbw (lt_of_block HROW.out) HROW.out) (by rw [← HKB.out]; rfl)
    have HNX := Lib.hid (nextL_find k' (b.pairs id) HRI.out)
    have HBA := Lib.hid (HB.out wr hbw)
    clear hbw hrk
    cases hf : (b.pairs id).find? (fun q => Op.bytesLess k' q.1) with
    | none =>
      rw [hf] at HNX
      have HQ := Lib.hid (show R = none by
       rw [HRK.out]
       refine List.find?_eq_none.2 fun x hx => ?_
       have := List.find?_eq_none.1 hf x hx
       simp at this ⊢
       intro h; rw [this] at h; cases h)
      clear hf
      cases b with
      | sets bp cs =>
        have HG := Lib.hid (bnext_w wr F bp cs id k' HBA.out)
        rw [HNX.out] at HG
        simp only [nextT, answN] at HG
        go_wp2_with fail
        refine HG.out.mono ?_
        rintro e W5 ⟨rfl, hb5⟩
        have HB5 := Lib.hid (HBW.out.trans (hb5.mono HBW.out.size))
        clear hb5
        go_wp2_with fail
        go_ret3
        exact ⟨by rw [HQ.out]; rfl, HB5.out⟩
      | count bp z org fmt len blk =>
        have HG := Lib.hid (cnext_w wr bp id k')
        simp only [nextT, nextL_nil] at HG
        go_wp2_with fail
        refine HG.out.mono ?_
        rintro e W5 ⟨rfl, hb5⟩
        have HB5 := Lib.hid (HBW.out.trans (hb5.mono HBW.out.size))
        clear hb5
        go_wp2_with fail
        go_ret3
        exact ⟨by rw [HQ.out]; rfl, HB5.out⟩
    | some q =>
      rw [hf] at HNX
      have HLC := Lib.hid (less_count hf)
      have HSK := Lib.hid (find_skip k' g q (b.pairs id) HRI.out hf)
      have HQL := Lib.hid (HKL.out q (List.mem_of_find?_eq_some hf))
      clear hf
      cases b with
      | count bp z org fmt len blk => exact absurd HLC.out (by simp [Bs.pairs])
      | sets bp cs =>
        have HG := Lib.hid (bnext_w wr F bp cs id k' HBA.out)
        rw [HNX.out] at HG
        simp only [nextT, answN] at HG
        obtain ⟨qk, qr⟩ := q
        simp only at HG HSK HLC HQL
        cases hgq : g qk with
        | true =>
          rw [hgq, if_pos rfl] at HSK
          have HQ := Lib.hid (show R = some (qk, qr) by rw [HRK.out, HSK.out])
          have HCN := Lib.hid (show chgU u id qk = none by have := HGS.out qk; rw [hgq] at this; simpa using this)
          clear hgq
          go_wp2_with fail
          refine HG.out.mono ?_
          rintro e W5 ⟨rfl, hb5⟩
          have HB5 := Lib.hid (HBW.out.trans (hb5.mono HBW.out.size))
          have HC := Lib.hid (HCH.out W5 qk HB5.out HQL.out)
          rw [HCN.out] at HC
          simp only [chgR, snC] at HC
          clear hb5
          go_wp2_with fail
          refine HC.out.mono ?_
          rintro e W6 ⟨rfl, hb6⟩
          obtain ⟨W7, hst, _, hb7⟩ := put_sn W6 none
          simp only [snC] at hst
          have HB7 := Lib.hid (HB5.out.trans ((hb6.trans (hb7.mono hb6.size)).mono HB5.out.size))
          clear hb6 hb7
          go_wp2_with fail
          go_ret3
          exact ⟨by rw [HQ.out]; rfl, HB7.out⟩
        | false =>
          rw [hgq, if_neg (by simp)] at HSK
          obtain ⟨sn, hsn⟩ : ∃ sn, chgU u id qk = some sn := by
           have := HGS.out qk; rw [hgq] at this
           cases hc : chgU u id qk with
           | none => rw [hc] at this; simp at this
           | some sn => exact ⟨sn, rfl⟩
          have HCN := Lib.hid hsn
          clear hgq hsn
          go_wp2_with fail
          refine HG.out.mono ?_
          rintro e W5 ⟨rfl, hb5⟩
          have HB5 := Lib.hid (HBW.out.trans (hb5.mono HBW.out.size))
          have HC := Lib.hid (HCH.out W5 qk HB5.out HQL.out)
          rw [HCN.out] at HC
          simp only [chgR] at HC
          clear hb5
          go_wp2_with fail
          refine HC.out.mono ?_
          rintro e W6 ⟨rfl, hb6⟩
          obtain ⟨W7, hst, _, hb7⟩ := put_sn W6 sn
          have HB7 := Lib.hid (HB5.out.trans ((hb6.trans (hb7.mono hb6.size)).mono HB5.out.size))
          clear hb6 hb7
          go_wp2_with fail
          go_roundw
          case rel => exact ⟨qk, rfl, by rw [HRK.out, HSK.out], HB7.out⟩
          case measure => exact HLC.out
 | some o =>
   rw [ho] at hlk hem
   simp only [Option.map_some, Option.getD_some, Option.isSome_some] at hlk hem
   have e0 := cell_at (i := 0) (v := .bool o.x.emp) (hk.at ho).row rfl
   rw [← hem] at e0
   clear hem hue ho hk
   cases em with
   | true =>
     rw [if_pos rfl] at hR
     have HR0 := Lib.hid hR
     clear hR
     go_enter Tryz.func103, Tryz.ntmps103
     go_wp2_with fail
     go_ret3
     exact ⟨by rw [HR0.out]; rfl, Below.refl _ _⟩
   | false =>
     rw [if_neg (by simp)] at hR
     have HR0 := Lib.hid hR
     clear hR
     go_enter Tryz.func103, Tryz.ntmps103
     go_wp2_with fail
     clear hlk c4 e0
     go_loopw [2] (fun t wr => ∃ k' : By, t = .string ⟨k'.toArray⟩ ∧ R = (b.pairs id).find? (fun q => Op.bytesLess k' q.1 && g q.1) ∧ Below w.heap.size w wr) (fun t _ => ((b.pairs id).filter (fun q => Op.bytesLess (strOf t) q.1)).length)
     case atStart => exact ⟨k, rfl, HR0.out, Below.refl _ _⟩
     case round =>
      clear HR0
      obtain ⟨k', rfl, hrk, hbw⟩ := hrel
      have HBW := Lib.hid hbw
      have HRK := Lib.hid hrk
      have c1 : wr.cell? ⟨kk.p, 1, none⟩ = some b.val := cell_at (i := 1) (heap_below hbw (lt_of_block HROW.out) HROW.out) (by rw [← HKB.out]; rfl)
      have HNX := Lib.hid (nextL_find k' (b.pairs id) HRI.out)
      have HBA := Lib.hid (HB.out wr hbw)
      clear hbw hrk
      cases hf : (b.pairs id).find? (fun q => Op.bytesLess k' q.1) with
      | none =>
        rw [hf] at HNX
        have HQ := Lib.hid (show R = none by
         rw [HRK.out]
         refine List.find?_eq_none.2 fun x hx => ?_
         have := List.find?_eq_none.1 hf x hx
         simp at this ⊢
         intro h; rw [this] at h; cases h)
        clear hf
        cases b with
        | sets bp cs =>
          have HG := Lib.hid (bnext_w wr F bp cs id k' HBA.out)
          rw [HNX.out] at HG
          simp only [nextT, answN] at HG
          go_wp2_with fail
          refine HG.out.mono ?_
          rintro e W5 ⟨rfl, hb5⟩
          have HB5 := Lib.hid (HBW.out.trans (hb5.mono HBW.out.size))
          clear hb5
          go_wp2_with fail
          go_ret3
          exact ⟨by rw [HQ.out]; rfl, HB5.out⟩
        | count bp z org fmt len blk =>
          have HG := Lib.hid (cnext_w wr bp id k')
          simp only [nextT, nextL_nil] at HG
          go_wp2_with fail
          refine HG.out.mono ?_
          rintro e W5 ⟨rfl, hb5⟩
          have HB5 := Lib.hid (HBW.out.trans (hb5.mono HBW.out.size))
          clear hb5
          go_wp2_with fail
          go_ret3
          exact ⟨by rw [HQ.out]; rfl, HB5.out⟩
      | some q =>
        rw [hf] at HNX
        have HLC := Lib.hid (less_count hf)
        have HSK := Lib.hid (find_skip k' g q (b.pairs id) HRI.out hf)
        have HQL := Lib.hid (HKL.out q (List.mem_of_find?_eq_some hf))
        clear hf
        cases b with
        | count bp z org fmt len blk => exact absurd HLC.out (by simp [Bs.pairs])
        | sets bp cs =>
          have HG := Lib.hid (bnext_w wr F bp cs id k' HBA.out)
          rw [HNX.out] at HG
          simp only [nextT, answN] at HG
          obtain ⟨qk, qr⟩ := q
          simp only at HG HSK HLC HQL
          cases hgq : g qk with
          | true =>
            rw [hgq, if_pos rfl] at HSK
            have HQ := Lib.hid (show R = some (qk, qr) by rw [HRK.out, HSK.out])
            have HCN := Lib.hid (show chgU u id qk = none by have := HGS.out qk; rw [hgq] at this; simpa using this)
            clear hgq
            go_wp2_with fail
            refine HG.out.mono ?_
            rintro e W5 ⟨rfl, hb5⟩
            have HB5 := Lib.hid (HBW.out.trans (hb5.mono HBW.out.size))
            have HC := Lib.hid (HCH.out W5 qk HB5.out HQL.out)
            rw [HCN.out] at HC
            simp only [chgR, snC] at HC
            clear hb5
            go_wp2_with fail
            refine HC.out.mono ?_
            rintro e W6 ⟨rfl, hb6⟩
            obtain ⟨W7, hst, _, hb7⟩ := put_sn W6 none
            simp only [snC] at hst
            have HB7 := Lib.hid (HB5.out.trans ((hb6.trans (hb7.mono hb6.size)).mono HB5.out.size))
            clear hb6 hb7
            go_wp2_with fail
            go_ret3
            exact ⟨by rw [HQ.out]; rfl, HB7.out⟩
          | false =>
            rw [hgq, if_neg (by simp)] at HSK
            obtain ⟨sn, hsn⟩ : ∃ sn, chgU u id qk = some sn := by
             have := HGS.out qk; rw [hgq] at this
             cases hc : chgU u id qk with
             | none => rw [hc] at this; simp at this
             | some sn => exact ⟨sn, rfl⟩
            have HCN := Lib.hid hsn
            clear hgq hsn
            go_wp2_with fail
            refine HG.out.mono ?_
            rintro e W5 ⟨rfl, hb5⟩
            have HB5 := Lib.hid (HBW.out.trans (hb5.mono HBW.out.size))
            have HC := Lib.hid (HCH.out W5 qk HB5.out HQL.out)
            rw [HCN.out] at HC
            simp only [chgR] at HC
            clear hb5
            go_wp2_with fail
            refine HC.out.mono ?_
            rintro e W6 ⟨rfl, hb6⟩
            obtain ⟨W7, hst, _, hb7⟩ := put_sn W6 sn
            have HB7 := Lib.hid (HB5.out.trans ((hb6.trans (hb7.mono hb6.size)).mono HB5.out.size))
            clear hb6 hb7
            go_wp2_with fail
            go_roundw
            case rel => exact ⟨qk, rfl, by rw [HRK.out, HSK.out], HB7.out⟩
            case measure => exact HLC.out
end
end

section
set_option linter.unusedSimpArgs false
set_option linter.unusedVariables false
open Go.RowKit Go.Sort
theorem betU_comm (k : By) (z : Option Pr) (x y : By × Option By) (h : x.1 ≠ y.1) : betU k (betU k z x) y = betU k (betU k z y) x := by
 obtain ⟨xk, xs⟩ := x
 obtain ⟨yk, ys⟩ := y
 simp only at h
 cases xs with
 | none => rfl
 | some xr =>
   cases ys with
   | none => rfl
   | some yr =>
     cases hx : Op.bytesLess k xk with
     | false => simp [betU, hx]
     | true =>
       cases hy : Op.bytesLess k yk with
       | false => simp [betU, hy]
       | true =>
         cases hxy : Op.bytesLess xk yk with
         | true =>
           have hyx := ls_asym hxy
           cases z with
           | none => simp [betU, hx, hy, hxy, hyx]
           | some o =>
             cases ho : Op.bytesLess yk o.1 with
             | true =>
               have := ls_trans hxy ho
               simp [betU, hx, hy, hxy, hyx, ho, this]
             | false =>
               cases hp : Op.bytesLess xk o.1 with
               | true => simp [betU, hx, hy, hxy, hyx, ho, hp]
               | false => simp [betU, hx, hy, hxy, hyx, ho, hp]
         | false =>
           have hyx := ls_tot hxy h
           cases z with
           | none => simp [betU, hx, hy, hxy, hyx]
           | some o =>
             cases ho : Op.bytesLess xk o.1 with
             | true =>
               have := ls_trans hyx ho
               simp [betU, hx, hy, hxy, hyx, ho, this]
             | false =>
               cases hp : Op.bytesLess yk o.1 with
               | true => simp [betU, hx, hy, hxy, hyx, ho, hp]
               | false => simp [betU, hx, hy, hxy, hyx, ho, hp]
theorem nodup_of_fst {α β : Type} {l : List (α × β)} (h : (l.map Prod.fst).Nodup) : l.Nodup := by
 induction l with
 | nil => simp
 | cons p l ih =>
   rw [List.map_cons, List.nodup_cons] at h
   rw [List.nodup_cons]
   exact ⟨fun hm => h.1 (List.mem_map.2 ⟨p, hm, rfl⟩), ih h.2⟩
theorem fst_inj {α β : Type} {l : List (α × β)} (h : (l.map Prod.fst).Nodup) {p q : α × β} (hp : p ∈ l) (hq : q ∈ l) (e : p.1 = q.1) : p = q := by
 induction l with
 | nil => cases hp
 | cons x l ih =>
   rw [List.map_cons, List.nodup_cons] at h
   rcases List.mem_cons.1 hp with e1 | hp2
   · rcases List.mem_cons.1 hq with e2 | hq2
     · rw [e1, e2]
     · exact absurd (List.mem_map.2 ⟨q, hq2, by rw [← e, e1]⟩) h.1
   · rcases List.mem_cons.1 hq with e2 | hq2
     · exact absurd (List.mem_map.2 ⟨p, hp2, by rw [e, e2]⟩) h.1
     · exact ih h.2 hp2 hq2
/-- All keys were looked at, in whatever order. -/
theorem fold_all (k : By) (q : Option Pr) {m L : List (By × Option By)} (hm : (m.map Prod.fst).Nodup) (hL : (L.map Prod.fst).Nodup) (hs : ∀ p ∈ L, p ∈ m) (ha : ∀ p ∈ m, p.1 ∈ L.map Prod.fst) : L.foldl (betU k) q = m.foldl (betU k) q := by
 have hp : L.Perm m := (List.perm_ext_iff_of_nodup (nodup_of_fst hL) (nodup_of_fst hm)).2 (fun p => ⟨hs p, fun hpm => by
  obtain ⟨p', hp', e⟩ := List.mem_map.1 (ha p hpm)
  rw [← fst_inj hm (hs p' hp') hpm e]; exact hp'⟩)
 refine hp.foldl_eq' (fun x hx y hy z => ?_) q
 by_cases e : x.1 = y.1
 · rw [fst_inj hL hx hy e]
 · exact betU_comm k z x y e
end

end Go.Proofs.YtcefkngblddpoaaGreatDoor
