/-
  Walks: the content of a sealed sector of a copy. Condition: the copy lies in memory and has the sector.
  Walks: the head of a copy. Condition: the copy lies in memory and has a sector.
-/
import Derived.Test.YtjpkdhnponcciaaGreatDoorCA
import Derived.Handy
namespace Go.Proofs.YtjpkdhnponcciaaGreatDoor

section
open Go.RowKit Go.Sort

/-- A copy as a value. -/
def ifC (k : Bk) : Cp → Value
  | none => .nilIface
  | some _ => .iface 25 (memV k.p)
def CpAt (w : World) (k : Bk) (c : Cp) : Prop := ∀ M, c = some M → MmAt w k M
theorem CpAt.below {w w' : World} {k : Bk} {c : Cp} (h : CpAt w k c) (hb : Below w.heap.size w w') : CpAt w' k c := fun M e => (h M e).below hb
def opT : Option By → Array Value
  | some s => #[.string ⟨s.toArray⟩, .bool true]
  | none => #[.string ⟨#[]⟩, .bool false]
/-- What checksum.Open returns. -/
theorem csopen_any (s : By) (w : World) (hs : s.length ≤ 1000) : Calls Tryz.prog 151 #[.string ⟨s.toArray⟩] w fun e w' =>
    e = .returned (.tuple (match openL s with | some t => #[.string ⟨t.toArray⟩, .int .i64 0] | none => #[.string ⟨#[]⟩, .int .i64 11])) ∧ Below w.heap.size w w' := by
  have hsz : (⟨s.toArray⟩ : ByteArray).size = s.length := by show s.toArray.size = _; simp
  have hbody : Cs.bodyB ⟨s.toArray⟩ = ⟨(s.take (s.length - 4)).toArray⟩ := by
    apply Cs.bytes_ext
    rw [Cs.bodyB_list, hsz]
  have hval : Cs.Val ⟨s.toArray⟩ ↔ sealL (s.take (s.length - 4)) = s := by
    unfold Cs.Val
    rw [hbody]
    constructor
    · intro h
      have := congrArg (fun b : ByteArray => b.data.toList) h
      simpa [Cs.tailB, Cs.bstr, sealL, ByteArray.data_append] using this
    · intro h
      apply Cs.bytes_ext
      rw [ByteArray.data_append, Array.toList_append]
      exact h
  by_cases h4 : 4 ≤ s.length
  · by_cases hv : sealL (s.take (s.length - 4)) = s
    · have e : openL s = some (s.take (s.length - 4)) := by unfold openL; rw [if_pos ⟨h4, hv⟩]
      rw [e]
      refine (Cs.open_good _ w (by omega) (by omega) (hval.2 hv)).mono ?_
      rintro e w' ⟨rfl, hb⟩
      exact ⟨by rw [hbody], hb⟩
    · have e : openL s = none := by unfold openL; rw [if_neg (fun h => hv h.2)]
      rw [e]
      exact (Cs.open_bad _ w (by omega) (by omega) (fun h => hv (hval.1 h))).mono fun _ _ ⟨h1, h2⟩ => ⟨h1, h2⟩
  · have e : openL s = none := by unfold openL; rw [if_neg (fun h => h4 h.1)]
    rw [e]
    exact (Cs.open_short _ w (by omega)).mono fun _ _ ⟨h1, h2⟩ => ⟨h1, h2⟩
set_option maxRecDepth 100000 in
set_option maxHeartbeats 1000000 in
theorem open_w (w : World) (k : Bk) (c : Cp) (n : Nat) (h : CpAt w k c) (hn : ∀ M, c = some M → n < M.secs.length) : Calls Tryz.prog 86 #[ifC k c, .int .i64 n] w fun e w' => e = .returned (.tuple (opT (opC c n))) ∧ Below w.heap.size w w' := by
  cases c with
  | none =>
    unfold ifC
    go_enter Tryz.func86, Tryz.ntmps86
    go_wp2_with fail
    go_ret2
    exact ⟨rfl, Below.refl _ _⟩
  | some M =>
    have hM := h M rfl
    have hlt := hn M rfl
    have HR := Lib.hid (read_w w k M n hM hlt)
    have hfull := hM.full
    unfold ifC
    cases hr : M.rd n with
    | none =>
      have HE := Lib.hid (show opC (some M) n = none by simp [opC, hr])
      rw [hr] at HR
      clear hr h hn hM hlt hfull
      unfold rdT at HR
      go_enter Tryz.func86, Tryz.ntmps86
      go_wp2_with (go_at_call 301; refine HR.out.mono ?_; rintro e w1 ⟨rfl, rfl⟩)
      go_ret2
      exact ⟨by rw [HE.out]; rfl, Below.refl _ _⟩
    | some s =>
      have hsl : s.length = 128 := hfull s (List.mem_of_getElem? (rd_secs hr))
      have HE := Lib.hid (show opC (some M) n = openL s by simp [opC, hr])
      have HC := Lib.hid (csopen_any s w (by omega))
      rw [hr] at HR
      clear hr h hn hM hlt hfull hsl
      unfold rdT at HR
      cases ho : openL s with
      | none =>
        rw [ho] at HE HC
        clear ho
        simp only at HC
        go_enter Tryz.func86, Tryz.ntmps86
        go_wp2_with first | (go_at_call 301; refine HR.out.mono ?_; rintro e w1 ⟨rfl, rfl⟩) | (go_at_call 151; refine HC.out.mono ?_; rintro e w1 ⟨rfl, hb⟩)
        go_ret2
        exact ⟨by rw [HE.out]; rfl, hb⟩
      | some t =>
        rw [ho] at HE HC
        clear ho
        simp only at HC
        go_enter Tryz.func86, Tryz.ntmps86
        go_wp2_with first | (go_at_call 301; refine HR.out.mono ?_; rintro e w1 ⟨rfl, rfl⟩) | (go_at_call 151; refine HC.out.mono ?_; rintro e w1 ⟨rfl, hb⟩)
        go_ret2
        exact ⟨by rw [HE.out]; rfl, hb⟩
end

section
open Go.RowKit Go.Sort

set_option maxRecDepth 100000 in
set_option maxHeartbeats 1000000 in
theorem rh1_w (w : World) (c g : Nat) (left : By) (err : Int) (hc : w.cell? ⟨c, 0, none⟩ = some (.pointer (some ⟨g, 0, none⟩))) (h : RdAt w g left err) (hl : left.length ≤ 1000000) :
    Calls Tryz.prog 88 #[.pointer (some ⟨c, 0, none⟩)] w fun e w' => e = .returned (.int .i64 (cntR 1099511627777 left err).1) ∧ RdAt w' g (cntR 1099511627777 left err).2.1 (cntR 1099511627777 left err).2.2 ∧ Only [g] w w' := by
  have HC := Lib.hid (count_gen 1099511627777 (by decide) w g left err h hl)
  generalize (cntR 1099511627777 left err) = q at HC ⊢
  obtain ⟨n, l2, e2⟩ := q
  simp only at HC ⊢
  clear h
  go_enter Tryz.func88, Tryz.ntmps88
  go_wp2_with fail
  refine HC.out.mono ?_
  rintro e w1 ⟨rfl, h1, h2⟩
  go_wp2_with fail
  go_ret
  exact ⟨rfl, h1, h2⟩
def hdT : Option Hw → Array Value
  | some h => #[.agg h.cs, .bool true]
  | none => #[.agg hwZ.cs, .bool false]
section
attribute [local go_sem ↓] loadHd_down storeHd_down
set_option maxRecDepth 100000 in
set_option maxHeartbeats 4000000 in
theorem readHead_w (w : World) (k : Bk) (c : Cp) (h : CpAt w k c) (hn : ∀ M, c = some M → 0 < M.secs.length) : Calls Tryz.prog 48 #[ifC k c] w fun e w' => e = .returned (.tuple (hdT (hdC c))) ∧ Below w.heap.size w w' := by
  obtain ⟨w0, hw0⟩ : ∃ w0, w0 = w.alloc (.cells hdZ 105) := ⟨_, rfl⟩
  have hx : w0.heap[w.heap.size]? = some (.cells hdZ 105 (0, 0)) := by rw [hw0]; exact heap_alloc_new w _
  have hb0 : Below w.heap.size w w0 := by rw [hw0]; exact box_below0 _ _ _
  have HW := Lib.hid hw0
  have HO := Lib.hid (open_w w0 k c 0 (h.below hb0) hn)
  have HB0 := Lib.hid hb0
  have HX := Lib.hid hx
  have HD := Lib.hid (show hdC c = (opC c 0).bind hwD from rfl)
  have hlen : ∀ s, opC c 0 = some s → s.length ≤ 1000 := by
    intro s hs
    cases c with
    | none => cases hs
    | some M =>
      simp only [opC, Option.bind_some] at hs
      cases hr : M.rd 0 with
      | none => rw [hr] at hs; cases hs
      | some t =>
        rw [hr] at hs
        have ht := (h M rfl).full t (List.mem_of_getElem? (rd_secs hr))
        simp only [Option.bind_some, openL] at hs
        split at hs
        · cases hs; rw [List.length_take]; omega
        · cases hs
  clear hx hb0 h hn
  cases ho : opC c 0 with
  | none =>
    rw [ho] at HO HD
    have HD2 := Lib.hid (show hdC c = none by rw [HD.out]; rfl)
    unfold opT at HO
    clear ho HD hlen hw0
    go_enter Tryz.func48, Tryz.ntmps48
    go_upto_region 1 with fail
    rw [← HW.out]
    go_wp2_with fail
    refine HO.out.mono ?_
    rintro e w1 ⟨rfl, hb1⟩
    have hx1 := heap_below hb1 (lt_of_block HX.out) HX.out
    have st := storeHd_at (cs := hdZ) hx1 rfl rfl (by simp [Value.oneCell'])
    have HG := Lib.hid (setRow_heap w1 w.heap.size hdZ hdZ 105 (0, 0) hx1)
    have HBZ := Lib.hid (below_setRow (HB0.out.trans (hb1.mono HB0.out.size)) (Nat.le_refl w.heap.size) hdZ)
    clear hb1 hx1
    go_wp2_with fail
    (try simp only [Exit.inBlock, Exit.then])
    (try simp only [Exit.inBlock, Exit.then])
    refine ret2_hd (cs := hdZ) rfl rfl rfl rfl rfl HG.out ?_
    rw [HD2.out]
    exact ⟨rfl, HBZ.out⟩
  | some s =>
    have hs := hlen s ho
    rw [ho] at HO HD
    have HD2 := Lib.hid (show hdC c = hwD s by rw [HD.out]; rfl)
    unfold opT at HO
    clear ho HD hlen hw0
    go_enter Tryz.func48, Tryz.ntmps48
    go_upto_region 1 with fail
    rw [← HW.out]
    go_wp2_with fail
    refine HO.out.mono ?_
    rintro e w1 ⟨rfl, hb1⟩
    have HX1 := Lib.hid (heap_below hb1 (lt_of_block HX.out) HX.out)
    have HB1 := Lib.hid (HB0.out.trans (hb1.mono HB0.out.size))
    clear hb1
    go_wp2_with fail
    refine (newReader_any s w1).mono ?_
    rintro e w2 ⟨rfl, hr2, hb2⟩
    go_wp2_with fail
    have HNE := Lib.hid (show w2.heap.size ≠ w1.heap.size by have := hr2.lt; omega)
    have HNX := Lib.hid (show w.heap.size ≠ w1.heap.size by have := lt_of_block HX1.out; omega)
    obtain ⟨w3, hw3⟩ : ∃ w3, w3 = w2.alloc (.cells #[.pointer (some ⟨w1.heap.size, 0, none⟩)] 167) := ⟨_, rfl⟩
    have hg3 : w3.heap[w2.heap.size]? = some (.cells #[.pointer (some ⟨w1.heap.size, 0, none⟩)] 167 (0, 0)) := by rw [hw3]; exact heap_alloc_new _ _
    have hb3 : Below w2.heap.size w2 w3 := by rw [hw3]; exact box_below0 _ _ _
    rw [← hw3]
    have hc3 : w3.cell? ⟨w2.heap.size, 0, none⟩ = some (.pointer (some ⟨w1.heap.size, 0, none⟩)) := cell_at hg3 rfl
    have HS3 := Lib.hid (show w2.heap.size + 1 ≤ w3.heap.size by rw [hw3]; simp)
    have HR3 := Lib.hid (RdAt.mk (heap_below hb3 hr2.lt hr2.row) : RdAt w3 w1.heap.size s 0)
    have HX3 := Lib.hid (heap_below (hb2.trans (hb3.mono hb2.size)) (lt_of_block HX1.out) HX1.out)
    have HB3 := Lib.hid (HB1.out.trans ((hb2.trans (hb3.mono hb2.size)).mono HB1.out.size))
    obtain ⟨l3, hl3⟩ : ∃ l, l = s := ⟨_, rfl⟩
    obtain ⟨e3, he3⟩ : ∃ e : Int, e = 0 := ⟨_, rfl⟩
    have HL3 := Lib.hid hl3
    have HE3 := Lib.hid he3
    have hll3 : l3.length ≤ 1000 := by rw [hl3]; exact hs
    rw [← hl3, ← he3] at HR3
    clear hw3 hg3 hb3 hr2 hb2 hl3 he3 hs
    refine (rh1_w w3 w2.heap.size w1.heap.size l3 e3 hc3 HR3.out (by omega)).mono ?_
    rintro e w4 ⟨rfl, hr4, ho4⟩
    have hL4 := cntR_len 1099511627777 l3 e3
    have hQ4 := Lib.hid (rfl : cntR 1099511627777 l3 e3 = cntR 1099511627777 l3 e3)
    obtain ⟨⟨n4, l4, e4⟩, hq4⟩ : ∃ q, q = cntR 1099511627777 l3 e3 := ⟨_, rfl⟩
    rw [← hq4] at hr4 hL4
    simp only [← hq4] at hr4 hL4 ⊢
    have hll4 : l4.length ≤ 1000 := by omega
    have hc4 := (ho4.cell (p := ⟨w2.heap.size, 0, none⟩) (by have := HS3.out; show w2.heap.size < _; omega) (by rw [List.mem_singleton]; exact HNE.out)).trans hc3
    have HS4 := Lib.hid (Nat.le_trans HS3.out ho4.size)
    have HR4 := Lib.hid hr4
    have HX4 := Lib.hid (ho4.heap HX3.out (by rw [List.mem_singleton]; have := HX1.out; exact HNX.out))
    have HB4 := Lib.hid (HB3.out.trans ((ho4.below (B := w.heap.size) HB3.out.size (fun i hi => by rw [List.mem_singleton] at hi; rw [hi]; exact HB1.out.size))))
    have HQ4 := Lib.hid hq4
    clear hr4 ho4 hL4 hq4 hQ4 hc3
    go_wp2_with fail
    refine (rh1_w w4 w2.heap.size w1.heap.size l4 e4 hc4 HR4.out (by omega)).mono ?_
    rintro e w5 ⟨rfl, hr5, ho5⟩
    have hL5 := cntR_len 1099511627777 l4 e4
    have hQ5 := Lib.hid (rfl : cntR 1099511627777 l4 e4 = cntR 1099511627777 l4 e4)
    obtain ⟨⟨n5, l5, e5⟩, hq5⟩ : ∃ q, q = cntR 1099511627777 l4 e4 := ⟨_, rfl⟩
    rw [← hq5] at hr5 hL5
    simp only [← hq5] at hr5 hL5 ⊢
    have hll5 : l5.length ≤ 1000 := by omega
    have hc5 := (ho5.cell (p := ⟨w2.heap.size, 0, none⟩) (by have := HS4.out; show w2.heap.size < _; omega) (by rw [List.mem_singleton]; exact HNE.out)).trans hc4
    have HS5 := Lib.hid (Nat.le_trans HS4.out ho5.size)
    have HR5 := Lib.hid hr5
    have HX5 := Lib.hid (ho5.heap HX4.out (by rw [List.mem_singleton]; have := HX1.out; exact HNX.out))
    have HB5 := Lib.hid (HB4.out.trans ((ho5.below (B := w.heap.size) HB4.out.size (fun i hi => by rw [List.mem_singleton] at hi; rw [hi]; exact HB1.out.size))))
    have HQ5 := Lib.hid hq5
    clear hr5 ho5 hL5 hq5 hQ5 hc4
    go_wp2_with fail
    refine (rh1_w w5 w2.heap.size w1.heap.size l5 e5 hc5 HR5.out (by omega)).mono ?_
    rintro e w6 ⟨rfl, hr6, ho6⟩
    have hL6 := cntR_len 1099511627777 l5 e5
    have hQ6 := Lib.hid (rfl : cntR 1099511627777 l5 e5 = cntR 1099511627777 l5 e5)
    obtain ⟨⟨n6, l6, e6⟩, hq6⟩ : ∃ q, q = cntR 1099511627777 l5 e5 := ⟨_, rfl⟩
    rw [← hq6] at hr6 hL6
    simp only [← hq6] at hr6 hL6 ⊢
    have hll6 : l6.length ≤ 1000 := by omega
    have hc6 := (ho6.cell (p := ⟨w2.heap.size, 0, none⟩) (by have := HS5.out; show w2.heap.size < _; omega) (by rw [List.mem_singleton]; exact HNE.out)).trans hc5
    have HS6 := Lib.hid (Nat.le_trans HS5.out ho6.size)
    have HR6 := Lib.hid hr6
    have HX6 := Lib.hid (ho6.heap HX5.out (by rw [List.mem_singleton]; have := HX1.out; exact HNX.out))
    have HB6 := Lib.hid (HB5.out.trans ((ho6.below (B := w.heap.size) HB5.out.size (fun i hi => by rw [List.mem_singleton] at hi; rw [hi]; exact HB1.out.size))))
    have HQ6 := Lib.hid hq6
    clear hr6 ho6 hL6 hq6 hQ6 hc5
    go_wp2_with fail
    refine (rh1_w w6 w2.heap.size w1.heap.size l6 e6 hc6 HR6.out (by omega)).mono ?_
    rintro e w7 ⟨rfl, hr7, ho7⟩
    have hL7 := cntR_len 1099511627777 l6 e6
    have hQ7 := Lib.hid (rfl : cntR 1099511627777 l6 e6 = cntR 1099511627777 l6 e6)
    obtain ⟨⟨n7, l7, e7⟩, hq7⟩ : ∃ q, q = cntR 1099511627777 l6 e6 := ⟨_, rfl⟩
    rw [← hq7] at hr7 hL7
    simp only [← hq7] at hr7 hL7 ⊢
    have hll7 : l7.length ≤ 1000 := by omega
    have hc7 := (ho7.cell (p := ⟨w2.heap.size, 0, none⟩) (by have := HS6.out; show w2.heap.size < _; omega) (by rw [List.mem_singleton]; exact HNE.out)).trans hc6
    have HS7 := Lib.hid (Nat.le_trans HS6.out ho7.size)
    have HR7 := Lib.hid hr7
    have HX7 := Lib.hid (ho7.heap HX6.out (by rw [List.mem_singleton]; have := HX1.out; exact HNX.out))
    have HB7 := Lib.hid (HB6.out.trans ((ho7.below (B := w.heap.size) HB6.out.size (fun i hi => by rw [List.mem_singleton] at hi; rw [hi]; exact HB1.out.size))))
    have HQ7 := Lib.hid hq7
    clear hr7 ho7 hL7 hq7 hQ7 hc6
    go_wp2_with fail
    refine (rh1_w w7 w2.heap.size w1.heap.size l7 e7 hc7 HR7.out (by omega)).mono ?_
    rintro e w8 ⟨rfl, hr8, ho8⟩
    have hL8 := cntR_len 1099511627777 l7 e7
    have hQ8 := Lib.hid (rfl : cntR 1099511627777 l7 e7 = cntR 1099511627777 l7 e7)
    obtain ⟨⟨n8, l8, e8⟩, hq8⟩ : ∃ q, q = cntR 1099511627777 l7 e7 := ⟨_, rfl⟩
    rw [← hq8] at hr8 hL8
    simp only [← hq8] at hr8 hL8 ⊢
    have hll8 : l8.length ≤ 1000 := by omega
    have hc8 := (ho8.cell (p := ⟨w2.heap.size, 0, none⟩) (by have := HS7.out; show w2.heap.size < _; omega) (by rw [List.mem_singleton]; exact HNE.out)).trans hc7
    have HS8 := Lib.hid (Nat.le_trans HS7.out ho8.size)
    have HR8 := Lib.hid hr8
    have HX8 := Lib.hid (ho8.heap HX7.out (by rw [List.mem_singleton]; have := HX1.out; exact HNX.out))
    have HB8 := Lib.hid (HB7.out.trans ((ho8.below (B := w.heap.size) HB7.out.size (fun i hi => by rw [List.mem_singleton] at hi; rw [hi]; exact HB1.out.size))))
    have HQ8 := Lib.hid hq8
    clear hr8 ho8 hL8 hq8 hQ8 hc7
    obtain ⟨w9, st9, hg9, hb9⟩ := put_hd w8 #[.int .i64 n4, .int .i64 n5, .int .i64 n6, .int .i64 n7, .int .i64 n8] rfl (by simp [Value.oneCell'])
    have hc9 := (hb9.cell (p := ⟨w2.heap.size, 0, none⟩) (by have := HS8.out; show w2.heap.size < _; omega)).trans hc8
    have HR9 := Lib.hid (RdAt.mk (heap_below hb9 HR8.out.lt HR8.out.row) : RdAt w9 w1.heap.size l8 e8)
    have HX9 := Lib.hid (heap_below hb9 (lt_of_block HX8.out) HX8.out)
    have HB9 := Lib.hid (HB8.out.trans (hb9.mono HB8.out.size))
    have c0 := cell_at (i := 0) (v := .int .i64 n4) hg9 rfl
    have c3 := cell_at (i := 3) (v := .int .i64 n7) hg9 rfl
    have c4 := cell_at (i := 4) (v := .int .i64 n8) hg9 rfl
    have HG9 := Lib.hid hg9
    clear hc8 hg9 hb9
    have HV := Lib.hid (show hwD s = if l8.length = 0 ∨ n4 < 16 ∨ 4096 < n4 ∨ n7 < 1 ∨ n4 ≤ n7 ∨ n4 - 1 < n8 then none else some ⟨n4, n5, n6, n7, n8⟩ by
      unfold hwD
      simp only [← HL3.out, ← HE3.out, ← HQ4.out, ← HQ5.out, ← HQ6.out, ← HQ7.out, ← HQ8.out])
    have ld := loadHd_at HG9.out rfl
    have st0 := storeHd_at (cs := hdZ) HX9.out rfl rfl (by simp [Value.oneCell'])
    have st1 := storeHd_at (cs := #[.int .i64 n4, .int .i64 n5, .int .i64 n6, .int .i64 n7, .int .i64 n8]) HX9.out rfl rfl (by simp [Value.oneCell'])
    have G0 := Lib.hid (setRow_heap w9 w.heap.size hdZ hdZ 105 (0, 0) HX9.out)
    have B0 := Lib.hid (below_setRow HB9.out (Nat.le_refl w.heap.size) hdZ)
    have G1 := Lib.hid (setRow_heap w9 w.heap.size hdZ #[.int .i64 n4, .int .i64 n5, .int .i64 n6, .int .i64 n7, .int .i64 n8] 105 (0, 0) HX9.out)
    have B1 := Lib.hid (below_setRow HB9.out (Nat.le_refl w.heap.size) #[.int .i64 n4, .int .i64 n5, .int .i64 n6, .int .i64 n7, .int .i64 n8])
    have HLL := Lib.hid (fun (h : ¬ l8 = []) => show l8.length ≠ 0 by rw [ne_eq, List.length_eq_zero_iff]; exact h)
    clear HO HX HQ4 HQ5 HQ6 HQ7 HQ8 HL3 HE3
    go_wp2_with (go_at_call 90; refine (left_any w9 w1.heap.size l8 e8 HR9.out).mono ?_; rintro e w10 ⟨rfl, rfl⟩)
    all_goals (try simp only [Exit.inBlock, Exit.then])
    all_goals first
      | (refine ret2_hd (cs := #[.int .i64 n4, .int .i64 n5, .int .i64 n6, .int .i64 n7, .int .i64 n8]) rfl rfl rfl rfl rfl G1.out ?_
         rw [HD2.out, HV.out, if_neg (by have := HLL.out (by assumption); omega)]
         exact ⟨rfl, B1.out⟩)
      | (refine ret2_hd (cs := hdZ) rfl rfl rfl rfl rfl G0.out ?_
         rw [HD2.out, HV.out, if_pos (by first | omega | (left; rw [List.length_eq_zero_iff]; assumption) | (rename_i hh; simp only [beq_iff_eq] at hh; omega))]
         exact ⟨rfl, B0.out⟩)
end
end

end Go.Proofs.YtjpkdhnponcciaaGreatDoor
