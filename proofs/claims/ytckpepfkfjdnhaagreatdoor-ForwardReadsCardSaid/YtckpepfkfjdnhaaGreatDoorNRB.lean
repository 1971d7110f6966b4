/-
  Walks: the program's reader of contents. Conditions: the contents in memory.
  Walks: the program's reader of contents: Get and Next. Conditions: the contents in memory.
-/
import Derived.Test.YtckpepfkfjdnhaaGreatDoorNRA
namespace Go.Proofs.YtckpepfkfjdnhaaGreatDoor

section
open Go.RowKit Go.Sort

theorem fidx_pairs {id : Int} {cs : List Co} : (fidx (fun x : Co => decide (x.z.id = id)) cs = -1 ∧ pairsP id cs = []) ∨ ∃ i, ∃ (h : i < cs.length), fidx (fun x : Co => decide (x.z.id = id)) cs = (i : Int) ∧ pairsP id cs = cs[i].l := by
  unfold fidx pairsP
  cases hq : cs.findIdx? (fun x : Co => decide (x.z.id = id)) with
  | none =>
    left
    have : cs.find? (fun x => decide (x.z.id = id)) = none := by
      rw [List.find?_eq_none]; rw [List.findIdx?_eq_none_iff] at hq; intro x hx; simpa using hq x hx
    rw [this]; exact ⟨rfl, rfl⟩
  | some i =>
    right
    rw [List.findIdx?_eq_some_iff_getElem] at hq
    obtain ⟨hi, h1, h2⟩ := hq
    refine ⟨i, hi, rfl, ?_⟩
    have := pairs_at hi (fun x hx => by
      obtain ⟨k, hk, rfl⟩ := List.mem_take_iff_getElem.1 hx
      simpa using h2 k (by omega)) (by simpa using h1)
    unfold pairsP at this
    exact this

section
attribute [local go_sem ↓] loadCo_down
set_option maxRecDepth 100000 in
set_option maxHeartbeats 4000000 in
theorem ids_any (x : Co) (id : Int) (g : Nat) (w : World) (hg : w.cell? ⟨g, 0, none⟩ = some (.int .i64 id)) :
    Calls Tryz.prog 287 #[.agg x.cs, .pointer (some ⟨g, 0, none⟩)] w fun e w' => e = .returned (.bool (decide (x.z.id = id))) ∧ Below w.heap.size w w' := by
  have hA := heap_alloc_new w (.cells x.cs 26)
  have hb := box_below0 w x.cs 26
  obtain ⟨w0, hw0⟩ : ∃ w0, w0 = w.alloc (.cells x.cs 26) := ⟨_, rfl⟩
  rw [← hw0] at hA hb
  have HW := Lib.hid hw0
  have HB := Lib.hid hb
  have c0 := cell_at (i := 0) (v := .int .i64 x.z.id) hA rfl
  have cg := (hb.cell (p := ⟨g, 0, none⟩) (block_lt_of_cell hg)).trans hg
  clear hA hw0 hb hg
  obtain ⟨d, hd⟩ : ∃ d, d = decide (x.z.id = id) := ⟨_, rfl⟩
  have HD := Lib.hid hd
  rw [← hd]
  clear hd
  by_cases hx : x.z.id = id
  · go_enter Tryz.func287, Tryz.ntmps287
    go_upto_region 1 with fail
    rw [← HW.out]
    go_wp2_with fail
    go_ret
    exact ⟨by rw [HD.out]; simp [hx], HB.out⟩
  · go_enter Tryz.func287, Tryz.ntmps287
    go_upto_region 1 with fail
    rw [← HW.out]
    go_wp2_with fail
    go_ret
    exact ⟨by rw [HD.out]; simp [hx], HB.out⟩

set_option maxRecDepth 100000 in
set_option maxHeartbeats 4000000 in
theorem idxco_any (w : World) (B : Nat) (a : Option Addr) (cap : Nat) (l : List Co) (g : Addr) (p : Co → Bool) (h : Cons w B a l) (hB : B ≤ w.heap.size) (hl : l.length ≤ 1000000)
    (hF : ∀ (W : World) (x : Co), x ∈ l → Below w.heap.size w W → Calls Tryz.prog 287 #[.agg x.cs, .pointer (some g)] W fun e w' => e = .returned (.bool (p x)) ∧ Below W.heap.size W w') :
    Calls Tryz.prog 286 #[.slice a l.length cap, .func (.func 287) #[] #[.pointer (some g)]] w fun e w' => e = .returned (.int .i64 (fidx p l)) ∧ Below w.heap.size w w' := by
  have HF := Lib.hid hF
  have HS := Lib.hid h
  clear hF h
  go_enter Tryz.func286, Tryz.ntmps286
  go_wp2_with fail
  go_loopw [5, 8] (fun _ i wr => ∃ j : Nat, j ≤ l.length ∧ i = .int .i64 j ∧ (∀ x ∈ l.take j, p x = false) ∧ Below w.heap.size w wr) (fun _ i _ => l.length - (intOf i).toNat)
  case atStart => exact ⟨0, by omega, rfl, by simp, Below.refl _ _⟩
  case round =>
    obtain ⟨j, hj, rfl, hno, hb⟩ := hrel
    have HB := Lib.hid hb
    have HNO := Lib.hid hno
    clear hb hno
    by_cases hlt : j < l.length
    · have hmem := List.getElem_mem hlt
      obtain ⟨b, off, rfl, hbb, hat⟩ := HS.out.get hlt
      have ld := (hat.below (HB.out.mono hB) hbb).load
      clear hat
      have HC := Lib.hid (HF.out wr l[j] hmem HB.out)
      have HN := Lib.hid (fun (hp : p l[j] = false) => show ∀ x ∈ l.take (j + 1), p x = false by
        intro x hx
        rw [List.take_succ_eq_append_getElem hlt] at hx
        rcases List.mem_append.1 hx with hx | hx
        · exact HNO.out x hx
        · obtain rfl := List.mem_singleton.1 hx; exact hp)
      have HY := Lib.hid (fun (hp : p l[j] = true) => fidx_at (p := p) hlt HNO.out hp)
      clear hmem
      generalize l[j] = x at HC HN HY ld
      cases hp : p x with
      | true =>
        rw [hp] at HC
        have HR := Lib.hid (HY.out hp)
        clear hp
        go_wp2_with fail
        refine HC.out.mono ?_
        rintro e w2 ⟨rfl, hb2⟩
        have HB2 := Lib.hid (HB.out.trans (hb2.mono HB.out.size))
        clear hb2 ld
        go_wp2_with fail
        go_ret
        exact ⟨by rw [HR.out]; rfl, HB2.out⟩
      | false =>
        rw [hp] at HC
        have HR := Lib.hid (HN.out hp)
        clear hp
        go_wp2_with fail
        refine HC.out.mono ?_
        rintro e w2 ⟨rfl, hb2⟩
        have HB2 := Lib.hid (HB.out.trans (hb2.mono HB.out.size))
        clear hb2 ld
        go_wp2_with fail
        go_roundw
        case rel => exact ⟨j + 1, by omega, by go_num, HR.out, HB2.out⟩
        case measure => simp [intOf]; omega
    · have HR := Lib.hid (show fidx p l = -1 by
        have := HNO.out
        rw [List.take_of_length_le (by omega)] at this
        exact fidx_none this)
      go_wp2_with fail
      go_ret
      exact ⟨by rw [HR.out]; rfl, HB.out⟩

set_option maxRecDepth 100000 in
set_option maxHeartbeats 4000000 in
theorem fpairs_any (w : World) (B : Nat) (a : Option Addr) (cap : Nat) (cs : List Co) (id : Int) (h : Cons w B a cs) (hB : B ≤ w.heap.size) (hn : cs.length ≤ 1000000) :
    Calls Tryz.prog 285 #[.slice a cs.length cap, .int .i64 id] w fun e w' => ∃ a5 c5, e = .returned (.slice a5 (pairsP id cs).length c5) ∧ Prs w' B a5 (pairsP id cs) ∧ (pairsP id cs).length ≤ c5 ∧ Below w.heap.size w w' := by
  have hA := heap_alloc_new w (.cells #[.int .i64 id] 3)
  have hb := box_below0 w #[.int .i64 id] 3
  obtain ⟨w0, hw0⟩ : ∃ w0, w0 = w.alloc (.cells #[.int .i64 id] 3) := ⟨_, rfl⟩
  rw [← hw0] at hA hb
  have HW := Lib.hid hw0
  have HB := Lib.hid hb
  have HS := Lib.hid (h.below (hb.mono hB))
  have HI := Lib.hid (idxco_any w0 B a cap cs ⟨w.heap.size, 0, none⟩ (fun x => decide (x.z.id = id)) HS.out (Nat.le_trans hB hb.size) hn
    (fun W x _ hW => ids_any x id w.heap.size W (cell_at (i := 0) (heap_below hW (lt_of_block hA) hA) rfl)))
  clear hA hw0 hb h
  rcases fidx_pairs (id := id) (cs := cs) with ⟨h1, h2⟩ | ⟨i, hi, h1, h2⟩
  · rw [h1] at HI
    have HP := Lib.hid h2
    clear h1 h2
    go_enter Tryz.func285, Tryz.ntmps285
    go_upto_region 1 with fail
    rw [← HW.out]
    go_wp2_with fail
    refine HI.out.mono ?_
    rintro e w2 ⟨rfl, hb2⟩
    have HB2 := Lib.hid (HB.out.trans (hb2.mono HB.out.size))
    clear hb2
    go_wp2_with fail
    go_ret
    exact ⟨none, 0, by rw [HP.out]; rfl, by rw [HP.out]; exact prs_nil _ _ _, by rw [HP.out]; exact Nat.le_refl _, HB2.out⟩
  · rw [h1] at HI
    have HP := Lib.hid h2
    obtain ⟨b, off, rfl, hbb, hat⟩ := HS.out.get hi
    have HAT := Lib.hid hat
    have HPR := Lib.hid (HS.out.prs _ (List.getElem_mem hi))
    have iI : (i : Int) < (cs.length : Int) := by omega
    have iN : ¬ (i : Int) < 0 := by omega
    clear h1 h2 hat
    generalize cs[i] = x at HAT HPR HP
    go_enter Tryz.func285, Tryz.ntmps285
    go_upto_region 1 with fail
    rw [← HW.out]
    go_wp2_with fail
    refine HI.out.mono ?_
    rintro e w2 ⟨rfl, hb2⟩
    have HB2 := Lib.hid (HB.out.trans (hb2.mono HB.out.size))
    have e22 : w2.cell? ⟨b, off + i * 23 + 22, none⟩ = some (.slice x.a x.l.length x.cap) := (hb2.cell (p := ⟨b, off + i * 23 + 22, none⟩) (Nat.lt_of_lt_of_le hbb (Nat.le_trans hB HB.out.size))).trans (HAT.out 22 _ rfl)
    have HPZ := Lib.hid (HPR.out.1.below (hb2.mono (Nat.le_trans hB HB.out.size)))
    clear hb2
    go_wp2_with fail
    go_ret
    exact ⟨x.a, x.cap, by rw [HP.out]; rfl, by rw [HP.out]; exact HPZ.out, by rw [HP.out]; exact HPR.out.2.1, HB2.out⟩
end
end

section
open Go.RowKit Go.Sort

theorem pairs_len {id : Int} {cs : List Co} {n : Nat} (h : ∀ x ∈ cs, x.l.length ≤ n) : (pairsP id cs).length ≤ n := by
  unfold pairsP
  cases hq : cs.find? (fun x => decide (x.z.id = id)) with
  | none => simp
  | some x => exact h x (List.mem_of_find?_eq_some hq)

set_option maxRecDepth 100000 in
set_option maxHeartbeats 4000000 in
theorem fget_any (w : World) (B : Nat) (a : Option Addr) (cap : Nat) (cs : List Co) (id : Int) (k : By) (h : Cons w B a cs) (hB : B ≤ w.heap.size) (hl : ∀ x ∈ cs, x.l.length ≤ 1000000) (hn : cs.length ≤ 1000000) :
    Calls Tryz.prog 283 #[.slice a cs.length cap, .int .i64 id, .string ⟨k.toArray⟩] w fun e w' => e = .returned (.tuple #[.string ⟨(getL k (pairsP id cs)).1.toArray⟩, .int .i64 (getL k (pairsP id cs)).2]) ∧ Below w.heap.size w w' := by
  have HF := Lib.hid (fpairs_any w B a cap cs id h hB hn)
  have HL := Lib.hid (pairs_len (id := id) hl)
  generalize pairsP id cs = L at HF HL
  go_enter Tryz.func283, Tryz.ntmps283
  go_wp2_with fail
  refine HF.out.mono ?_
  rintro e w1 ⟨a5, c5, rfl, hP, hc, hb1⟩
  have HB1 := Lib.hid hb1
  have HP := Lib.hid hP
  have HFD := Lib.hid (find_any k w1 B a5 c5 L hP (Nat.le_trans hB hb1.size) HL.out hc)
  clear hP hb1
  cases hh : hasL k L with
  | false =>
    rw [hh] at HFD
    have HQ := Lib.hid (show getL k L = ([], 6) from getL_no hh)
    clear hh
    go_wp2_with fail
    refine HFD.out.mono ?_
    rintro e w2 ⟨rfl, hb2⟩
    have HB2 := Lib.hid (HB1.out.trans (hb2.mono HB1.out.size))
    clear hb2
    go_wp2_with fail
    go_ret2
    exact ⟨by rw [HQ.out]; rfl, HB2.out⟩
  | true =>
    rw [hh] at HFD
    have hp := hasL_lt hh
    have HQ := Lib.hid (show getL k L = (L[posL k L].2, 0) from getL_yes hh hp)
    obtain ⟨b5, off5, rfl, hbb5, g1, g2⟩ := HP.out.get hp
    have HG2 := Lib.hid g2
    have pI : (posL k L : Int) < (L.length : Int) := by omega
    clear hh g1 g2
    generalize L[posL k L] = pr at HQ HG2
    generalize posL k L = m at HFD HG2 hp pI
    go_wp2_with fail
    refine HFD.out.mono ?_
    rintro e w2 ⟨rfl, hb2⟩
    have HB2 := Lib.hid (HB1.out.trans (hb2.mono HB1.out.size))
    have g2 := (hb2.cell (p := ⟨b5, off5 + m * 2 + 1, none⟩) (Nat.lt_of_lt_of_le hbb5 (Nat.le_trans hB HB1.out.size))).trans HG2.out
    clear hb2
    go_wp2_with fail
    go_ret2
    exact ⟨by rw [HQ.out]; rfl, HB2.out⟩

set_option maxRecDepth 100000 in
set_option maxHeartbeats 4000000 in
theorem fnext_any (w : World) (B : Nat) (a : Option Addr) (cap : Nat) (cs : List Co) (id : Int) (k : By) (h : Cons w B a cs) (hB : B ≤ w.heap.size) (hl : ∀ x ∈ cs, x.l.length ≤ 1000000) (hn : cs.length ≤ 1000000) :
    Calls Tryz.prog 284 #[.slice a cs.length cap, .int .i64 id, .string ⟨k.toArray⟩] w fun e w' => e = .returned (.tuple #[.string ⟨(nextL k (pairsP id cs)).1.toArray⟩, .string ⟨(nextL k (pairsP id cs)).2.1.toArray⟩, .int .i64 (nextL k (pairsP id cs)).2.2]) ∧ Below w.heap.size w w' := by
  have HF := Lib.hid (fpairs_any w B a cap cs id h hB hn)
  have HL := Lib.hid (pairs_len (id := id) hl)
  generalize pairsP id cs = L at HF HL
  go_enter Tryz.func284, Tryz.ntmps284
  go_wp2_with fail
  refine HF.out.mono ?_
  rintro e w1 ⟨a5, c5, rfl, hP, hc, hb1⟩
  have HB1 := Lib.hid hb1
  have HP := Lib.hid hP
  have HFD := Lib.hid (find_any k w1 B a5 c5 L hP (Nat.le_trans hB hb1.size) HL.out hc)
  have hL6 := HL.out
  clear hP hb1
  obtain ⟨i1, hi1⟩ : ∃ i1, i1 = if hasL k L = true then posL k L + 1 else posL k L := ⟨_, rfl⟩
  have hle := posL_le k L
  by_cases hin : i1 < L.length
  · have HQ := Lib.hid (show nextL k L = (L[i1].1, L[i1].2, 0) by unfold nextL; rw [← hi1, List.getElem?_eq_getElem hin])
    obtain ⟨b5, off5, rfl, hbb5, g1, g2⟩ := HP.out.get hin
    have HG1 := Lib.hid g1
    have HG2 := Lib.hid g2
    have HBB := Lib.hid (Nat.lt_of_lt_of_le hbb5 (Nat.le_trans hB HB1.out.size))
    have pI : ¬ (L.length : Int) ≤ (i1 : Int) := by omega
    have pI2 : (i1 : Int) < (L.length : Int) := by omega
    clear g1 g2
    generalize L[i1] = pr at HQ HG1 HG2
    cases hh : hasL k L with
    | true =>
      rw [hh] at HFD
      rw [hh, if_pos rfl] at hi1
      generalize posL k L = m at HFD hi1 hle
      subst hi1
      have hw1 : IntKind.i64.wrap ((m : Int) + 1) = ((m + 1 : Nat) : Int) := by rw [IntKind.wrap_i64]; omega
      have pI' : ¬ (L.length : Int) ≤ (m : Int) + 1 := by omega
      have pI2' : (m : Int) + 1 < (L.length : Int) := by omega
      go_wp2_with fail
      refine HFD.out.mono ?_
      rintro e w2 ⟨rfl, hb2⟩
      have HB2 := Lib.hid (HB1.out.trans (hb2.mono HB1.out.size))
      have g1 : w2.drew.cell? ⟨b5, off5 + (m + 1) * 2, none⟩ = some (.string ⟨pr.1.toArray⟩) := (hb2.cell (p := ⟨b5, off5 + (m + 1) * 2, none⟩) HBB.out).trans HG1.out
      have g2 : w2.drew.cell? ⟨b5, off5 + (m + 1) * 2 + 1, none⟩ = some (.string ⟨pr.2.toArray⟩) := (hb2.cell (p := ⟨b5, off5 + (m + 1) * 2 + 1, none⟩) HBB.out).trans HG2.out
      clear hb2
      go_wp2_with fail
      go_region
      all_goals
        go_wp2_with fail
        go_ret3
        exact ⟨by rw [HQ.out]; rfl, below_drewN HB2.out 1⟩
    | false =>
      rw [hh] at HFD
      rw [hh, if_neg (by decide)] at hi1
      generalize posL k L = m at HFD hi1 hle
      subst hi1
      go_wp2_with fail
      refine HFD.out.mono ?_
      rintro e w2 ⟨rfl, hb2⟩
      have HB2 := Lib.hid (HB1.out.trans (hb2.mono HB1.out.size))
      have g1 : w2.drew.cell? ⟨b5, off5 + i1 * 2, none⟩ = some (.string ⟨pr.1.toArray⟩) := (hb2.cell (p := ⟨b5, off5 + i1 * 2, none⟩) HBB.out).trans HG1.out
      have g2 : w2.drew.cell? ⟨b5, off5 + i1 * 2 + 1, none⟩ = some (.string ⟨pr.2.toArray⟩) := (hb2.cell (p := ⟨b5, off5 + i1 * 2 + 1, none⟩) HBB.out).trans HG2.out
      clear hb2
      go_wp2_with fail
      go_region
      all_goals
        go_wp2_with fail
        go_ret3
        exact ⟨by rw [HQ.out]; rfl, below_drewN HB2.out 1⟩
  · have HQ := Lib.hid (show nextL k L = ([], [], 6) by unfold nextL; rw [← hi1, List.getElem?_eq_none (by omega)])
    have pI : (L.length : Int) ≤ (i1 : Int) := by omega
    cases hh : hasL k L with
    | true =>
      rw [hh] at HFD
      rw [hh, if_pos rfl] at hi1
      generalize posL k L = m at HFD hi1 hle
      subst hi1
      have hw1 : IntKind.i64.wrap ((m : Int) + 1) = ((m + 1 : Nat) : Int) := by rw [IntKind.wrap_i64]; omega
      have pI' : (L.length : Int) ≤ (m : Int) + 1 := by omega
      go_wp2_with fail
      refine HFD.out.mono ?_
      rintro e w2 ⟨rfl, hb2⟩
      have HB2 := Lib.hid (HB1.out.trans (hb2.mono HB1.out.size))
      clear hb2
      go_wp2_with fail
      go_ret3
      exact ⟨by rw [HQ.out]; rfl, HB2.out⟩
    | false =>
      rw [hh] at HFD
      rw [hh, if_neg (by decide)] at hi1
      generalize posL k L = m at HFD hi1 hle
      subst hi1
      go_wp2_with fail
      refine HFD.out.mono ?_
      rintro e w2 ⟨rfl, hb2⟩
      have HB2 := Lib.hid (HB1.out.trans (hb2.mono HB1.out.size))
      clear hb2
      go_wp2_with fail
      go_ret3
      exact ⟨by rw [HQ.out]; rfl, HB2.out⟩
end

end Go.Proofs.YtckpepfkfjdnhaaGreatDoor
