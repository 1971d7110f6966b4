/-
  Walk: the reference's segments of a block. Condition: valid sizes.
-/
import Derived.Test.YthkpcalopmddpaaGreatDoorHB
import Derived.Test.YthkpcalopmddpaaGreatDoorGQ
namespace Go.Proofs.YthkpcalopmddpaaGreatDoor
open Go.RowKit Go.Sort
attribute [local go_sem] ByteArray.mk_append_mk strOfNums_size ext_drop ext_take

theorem infoR : (Tryz.prog.info? 151).map (fun i => (i.zero, i.size, i.bytes)) = some (some (.agg #[.bool false, .bool false, .string ByteArray.empty]), 3, 24) := by kernel_rfl
theorem info_sg : (Tryz.prog.info? 151).map (·.size) = some 3 := by kernel_rfl
/-- A segment of the reference, loaded and stored whole. -/
def loadSg (p : Addr) : Sem Value := loadVar 151 p
theorem loadSg_down (p : Addr) : loadVar 151 p = loadSg p := rfl
theorem loadSg_at {w : World} {g : Nat} {cs : Array Value} {t : TypeId} {fr : Nat × Nat} (hg : w.heap[g]? = some (.cells cs t fr)) (hi : cs.size = 3) : (loadSg ⟨g, 0, none⟩).run Tryz.prog w = .ok (.agg cs) w :=
  run_loadVar_row (P := Tryz.prog) w g t 151 cs fr _ hg Tryz.underlying151 rfl (by rw [info_sg, hi])
def storeSg (p : Addr) (v : Value) : Sem Unit := storeVar 151 p v
theorem storeSg_down (p : Addr) (v : Value) : storeVar 151 p v = storeSg p v := rfl
theorem storeSg_at {w : World} {g : Nat} {cs : Array Value} {t : TypeId} {old : Array Value} (hg : w.heap[g]? = some (.cells old t (0, 0))) (hi : cs.size = 3) (ho : old.size = cs.size) (h1 : cs.all (·.oneCell') = true) : (storeSg ⟨g, 0, none⟩ (.agg cs)).run Tryz.prog w = .ok () (w.setRow g cs) :=
  run_storeVar_row (P := Tryz.prog) w g t 151 old cs hg (by rw [info_sg, hi]) ho h1
abbrev sgz : Array Value := #[.bool false, .bool false, .string ⟨#[]⟩]
attribute [local go_sem ↓] loadSg_down storeSg_down

/-- What the reference's Segments gives. -/
structure RGPost (w : World) (T : Option (List Seg)) (e : Ending) (w' : World) : Prop where
  good : ∀ L, T = some L → ∃ v, e = .returned (.tuple #[v, .int .i64 0]) ∧ w'.ownsRow w.heap.size 151 3 v L.length (flatS L)
  bad : T = none → e = .returned (.tuple #[.slice none 0 0, .int .i64 11])
  bel : Below w.heap.size w w'
theorem RGPost.no {w w' : World} {T : Option (List Seg)} (hT : T = none) (h : Below w.heap.size w w') : RGPost w T (.returned (.tuple #[.slice none 0 0, .int .i64 11])) w' :=
  ⟨fun L hL => (by rw [hT] at hL; cases hL), fun _ => rfl, h⟩
theorem RGPost.yes {w w' : World} {T : Option (List Seg)} {L : List Seg} {v : Value} (hT : T = some L) (ho : w'.ownsRow w.heap.size 151 3 v L.length (flatS L)) (h : Below w.heap.size w w') : RGPost w T (.returned (.tuple #[v, .int .i64 0])) w' :=
  ⟨fun L' hL => (by rw [hT] at hL; obtain rfl := Option.some.inj hL; exact ⟨_, rfl, ho⟩), fun h => (by rw [hT] at h; cases h), h⟩
/-- The head of a segment at a place is in order. -/
def okH (len blk dl k c e n : Nat) : Prop := c ≤ 3 ∧ e = 0 ∧ 4 ≤ n ∧ k + n ≤ dl ∧ n ≤ 4 + len ∧ (n = 4 → c = 0) ∧ (2 ≤ c → k = 4) ∧ (c % 2 = 1 → k + n = dl ∧ dl = blk)
/-- What the reference's loop holds. -/
structure RgSt (w : World) (len blk : Nat) (d : By) (T : Option (List Seg)) (W : World) (k : Nat) (out : List Seg) (v : Value) : Prop where
  bel : Below w.heap.size w W
  own : W.ownsRow w.heap.size 151 3 v out.length (flatS out)
  tot : ∃ f, T = (segP len blk d.length f out.length (d.drop k)).map (out ++ ·) ∧ (d.drop k).length ≤ f
  le : k ≤ d.length
  few : out.length ≤ k
  fst : (out.length = 0 ∧ k = 4) ∨ (0 < out.length ∧ 4 < k)
theorem segP_nil (len blk dl f k : Nat) : segP len blk dl f k [] = some [] := by cases f <;> rfl
theorem RgSt.done {w W : World} {len blk k : Nat} {d : By} {T : Option (List Seg)} {out : List Seg} {v : Value} (h : RgSt w len blk d T W k out v) (hk : ¬ k < d.length) : T = some out := by
  obtain ⟨f, ht, _⟩ := h.tot
  rw [ht, List.drop_eq_nil_of_le (by omega), segP_nil]; simp
theorem RgSt.short {w W : World} {len blk k : Nat} {d : By} {T : Option (List Seg)} {out : List Seg} {v : Value} (h : RgSt w len blk d T W k out v) (hk : k < d.length) (h4 : d.length < k + 4) : T = none := by
  obtain ⟨f, ht, hf⟩ := h.tot
  have hl : (d.drop k).length = d.length - k := List.length_drop ..
  rw [ht]
  generalize d.drop k = s at *
  match s, f, hl, hf with
  | [], _, hl, _ => simp only [List.length_nil] at hl; omega
  | _ :: _, 0, _, hf => simp only [List.length_cons] at hf; omega
  | [_], f + 1, _, _ => rfl
  | [_, _], f + 1, _, _ => rfl
  | [_, _, _], f + 1, _, _ => rfl
  | a :: b :: c :: e :: r, _, hl, _ => simp only [List.length_cons] at hl; omega
theorem RgSt.step {w W : World} {len blk k : Nat} {d : By} {T : Option (List Seg)} {out : List Seg} {v : Value} (h : RgSt w len blk d T W k out v) {a b c e : UInt8} {r : By} (hd : d.drop k = a :: b :: c :: e :: r) (hr : r = d.drop (k + 4)) {n : Nat} (hn : 256 * a.toNat + b.toNat = n) :
    (¬ okH len blk d.length k c.toNat e.toNat n → T = none) ∧ (okH len blk d.length k c.toNat e.toNat n → ∃ f, T = (segP len blk d.length f (out ++ [(segB c, segA c, r.take (n - 4))]).length (d.drop (k + n))).map ((out ++ [(segB c, segA c, r.take (n - 4))]) ++ ·) ∧ (d.drop (k + n)).length ≤ f) := by
  obtain ⟨f, ht, hf⟩ := h.tot
  have hfst := h.fst
  rw [hd] at ht hf
  obtain ⟨f, rfl⟩ : ∃ g, f = g + 1 := ⟨f - 1, by simp only [List.length_cons] at hf; omega⟩
  have hl : (d.drop k).length = d.length - k := List.length_drop ..
  rw [hd] at hl
  simp only [List.length_cons] at hf hl
  have hdn : 4 ≤ n → r.drop (n - 4) = d.drop (k + n) := fun h4 => by rw [hr, List.drop_drop]; congr 1; omega
  rw [segP, hn] at ht
  have hq : (segOk len r.length c e n ∧ (segB c = true → out.length = 0) ∧ (segA c = true → r.drop (n - 4) = [] ∧ d.length = blk)) ↔ okH len blk d.length k c.toNat e.toNat n := by
    unfold segOk segB segA okH
    rw [List.drop_eq_nil_iff, decide_eq_true_iff, decide_eq_true_iff]
    constructor
    · rintro ⟨⟨h1, h2, h3, h4, h5, h6⟩, h7, h8⟩
      refine ⟨h1, h2, h3, by omega, by omega, h6, fun h => by have := h7 h; omega, fun h => by have := h8 h; omega⟩
    · rintro ⟨h1, h2, h3, h4, h5, h6, h7, h8⟩
      refine ⟨⟨h1, h2, h3, by omega, by omega, h6⟩, fun h => by have := h7 h; omega, fun h => by have := h8 h; omega⟩
  constructor
  · intro hno
    rw [ht, if_neg (fun h => hno (hq.1 h))]; rfl
  · intro hok
    have h4 := hok.2.2.1
    rw [hdn h4] at ht
    refine ⟨f, ?_, by rw [List.length_drop]; omega⟩
    have hq2 := hq.2 hok
    rw [hdn h4] at hq2
    rw [ht, if_pos hq2, List.length_append]
    show _ = (segP len blk d.length f (out.length + 1) (d.drop (k + n))).map _
    generalize segP len blk d.length f (out.length + 1) (d.drop (k + n)) = z
    cases z <;> simp
theorem drop_at {d : By} {k : Nat} {a b c e : UInt8} {r : By} (h : d.drop k = a :: b :: c :: e :: r) : (∀ h, (ByteArray.mk d.toArray)[k]'h = a) ∧ (∀ h, (ByteArray.mk d.toArray)[k + 1]'h = b) ∧ (∀ h, (ByteArray.mk d.toArray)[k + 2]'h = c) ∧ (∀ h, (ByteArray.mk d.toArray)[k + 3]'h = e) := by
  have g : ∀ i (hh : k + i < d.length), d[k + i]? = (a :: b :: c :: e :: r)[i]? := fun i hh => by rw [← h, List.getElem?_drop]
  have q : ∀ (i : Nat) (hh : k + i < (ByteArray.mk d.toArray).size) (x : UInt8), (a :: b :: c :: e :: r)[i]? = some x → (ByteArray.mk d.toArray)[k + i]'hh = x := fun i hh x hx => by
    have h1 : k + i < d.length := by simpa [ByteArray.size] using hh
    have h2 := g i h1
    rw [hx, List.getElem?_eq_getElem h1] at h2
    exact Option.some.inj h2
  exact ⟨fun hh => q 0 hh a rfl, fun hh => q 1 hh b rfl, fun hh => q 2 hh c rfl, fun hh => q 3 hh e rfl⟩

theorem segU_long {len blk : Nat} {d : By} (h8 : ¬ d.length < 8) (hb : ¬ blk < d.length) (hb2 : blk ≤ 1024) : segU len blk d = if d.take 4 = word d.length then segP len blk d.length (d.drop 4).length 0 (d.drop 4) else none := by
  unfold segU
  rw [if_neg (by omega)]
  unfold segU2
  match d, h8, hb with
  | [], h, _ => simp at h
  | [_], h, _ => simp at h
  | [_, _], h, _ => simp at h
  | [_, _, _], h, _ => simp at h
  | a :: b :: c :: e :: r, h, hb =>
    have hw := word_inj (n := (a :: b :: c :: e :: r).length) (a := a) (b := b) (c := c) (e := e) (by omega)
    simp only [List.take_succ_cons, List.take_zero, List.drop_succ_cons, List.drop_zero]
    by_cases hq : rw4 a b c e = some (a :: b :: c :: e :: r).length
    · rw [if_pos (hw.2 hq), if_pos (show rw4 a b c e = some (r.length + 4) from hq)]; rfl
    · rw [if_neg (fun h => hq (hw.1 h)), if_neg (show ¬ rw4 a b c e = some (r.length + 4) from hq)]

set_option maxRecDepth 100000 in
set_option maxHeartbeats 8000000 in
theorem rsegments_any (d : By) (len blk : Nat) (w : World) (hv : spnV len blk = true) (hd : d.length ≤ 900000) :
    Calls Tryz.prog 99 #[.int .i64 len, .int .i64 blk, .string ⟨d.toArray⟩] w fun e w' => RGPost w (segU len blk d) e w' := by
  have hbd : 1 ≤ (len : Int) ∧ (len : Int) ≤ 1000 ∧ (9 : Int) ≤ blk ∧ (blk : Int) ≤ 1024 := by have h := hv; simp [spnV] at h; omega
  obtain ⟨d1, d2, d3, d4⟩ := hbd
  have HV := Lib.hid hv
  obtain ⟨i0, hi0, hz0, hz1, hz2⟩ := info_parts infoR
  clear hv
  have hS : d.length < 8 ∨ blk < d.length → segU len blk d = none := fun h => by unfold segU; rw [if_pos h]
  have hL := fun a b => segU_long (len := len) (blk := blk) (d := d) a b (by omega)
  generalize segU len blk d = T at hS hL ⊢
  by_cases h8 : d.length < 8
  · have HT := Lib.hid (hS (Or.inl h8))
    have h8I : (d.length : Int) < 8 := by omega
    have h8D : decide (d.length < 8) = true := decide_eq_true h8
    have h8E : decide ((d.length : Int) < 8) = true := decide_eq_true h8I
    clear hS hL
    go_enter Tryz.func99, Tryz.ntmps99
    go_wp2_with fail
    refine (rspn_valid _ _ _).mono ?_
    rintro e _ ⟨rfl, rfl⟩
    rw [HV.out]
    go_wp2_with fail
    go_quiet (fail)
    go_wp2_with fail
    go_ret2
    exact RGPost.no HT.out (below_drewN (Below.refl _ _) _)
  · by_cases hb : blk < d.length
    · have HT := Lib.hid (hS (Or.inr hb))
      have h8D : decide (d.length < 8) = false := decide_eq_false h8
      have hbI : (blk : Int) < (d.length : Int) := by omega
      have hbD : decide (blk < d.length) = true := decide_eq_true hb
      have hbE : decide ((blk : Int) < (d.length : Int)) = true := decide_eq_true hbI
      clear hS hL
      go_enter Tryz.func99, Tryz.ntmps99
      go_wp2_with fail
      refine (rspn_valid _ _ _).mono ?_
      rintro e _ ⟨rfl, rfl⟩
      rw [HV.out]
      go_wp2_with fail
      have h8E : decide ((d.length : Int) < 8) = false := decide_eq_false (by omega)
      go_quiet (fail)
      go_wp2_with fail
      go_ret2
      exact RGPost.no HT.out (below_drewN (Below.refl _ _) _)
    · have h8D : decide (d.length < 8) = false := decide_eq_false h8
      have hbD : decide (blk < d.length) = false := decide_eq_false hb
      have hdl : d.length ≤ 1024 := by omega
      have hT := hL h8 hb
      have HW := Lib.hid (fun W => rword_any d.length W (by omega))
      have hdb : d.length ≤ blk := by omega
      have HDB := Lib.hid hdb
      clear hS hL hdb
      generalize word d.length = wd at hT HW
      by_cases hw : d.take 4 = wd
      rotate_left
      · rw [if_neg hw] at hT
        have HT := Lib.hid hT
        obtain ⟨tk, htk⟩ : ∃ tk, d.take 4 = tk := ⟨_, rfl⟩
        have hq1 : (tk == wd) = false := by rw [← htk]; simpa using hw
        have hq2 : (tk != wd) = true := by unfold bne; rw [hq1]; rfl
        have hq3 : decide (tk = wd) = false := by rw [← htk]; exact decide_eq_false hw
        have hq4 : ¬ tk = wd := by rw [← htk]; exact hw
        clear hT hw
        go_enter Tryz.func99, Tryz.ntmps99
        go_wp2_with fail
        refine (rspn_valid _ _ _).mono ?_
        rintro e _ ⟨rfl, rfl⟩
        rw [HV.out]
        go_wp2_with fail
        have h8E : decide ((d.length : Int) < 8) = false := decide_eq_false (by omega)
        have hbE : decide ((blk : Int) < (d.length : Int)) = false := decide_eq_false (by omega)
        refine wp_region_quiet_below (by kernel_rfl) (by kernel_rfl) ?_
        repeat (go_big_quiet_step ((go_at_call 102; exact Calls.regrown_of (HW.out _))))
        refine wpQuiet_nil ?_
        intro _ hw'
        obtain ⟨⟨dq, osq⟩, hw''⟩ := hw'
        subst hw''
        have HB2 := Lib.hid (below_regrown w dq osq)
        go_wp2_with fail
        go_ret2
        exact RGPost.no HT.out HB2.out
      · rw [if_pos hw] at hT
        have HT := Lib.hid hT
        have hq1 : (wd == wd) = true := by simp
        have hq2 : (wd != wd) = false := by simp
        clear hT
        go_enter Tryz.func99, Tryz.ntmps99
        go_wp2_with fail
        refine (rspn_valid _ _ _).mono ?_
        rintro e _ ⟨rfl, rfl⟩
        rw [HV.out]
        go_wp2_with fail
        have h8E : decide ((d.length : Int) < 8) = false := decide_eq_false (by omega)
        have hbE : decide ((blk : Int) < (d.length : Int)) = false := decide_eq_false (by omega)
        refine wp_region_quiet_below (by kernel_rfl) (by kernel_rfl) ?_
        repeat (go_big_quiet_step ((go_at_call 102; exact Calls.regrown_of (HW.out _))))
        refine wpQuiet_nil ?_
        intro _ hw'
        obtain ⟨⟨dq, osq⟩, hw''⟩ := hw'
        subst hw''
        have HB2 := Lib.hid (below_regrown w dq osq)
        have h8G : 4 ≤ d.length := by omega
        clear hw hq1 hq2 h8D hbD h8E hbE h8 hb
        generalize grow (redrawn w dq) osq = wq at HB2 ⊢
        go_wp2_with fail
        have HS := Lib.hid (show RgSt w len blk d T (wq.alloc (.cells #[] 151)) 4 [] (.slice (some ⟨wq.heap.size, 0, none⟩) 0 0) from
          ⟨HB2.out.alloc HB2.out.size _, World.ownsRow_lit (base := w.heap.size) (e := 151) (size := 3) wq #[] 0 HB2.out.size (by simp [maxLen]) rfl, ⟨_, by rw [HT.out]; show _ = (segP len blk d.length (d.drop 4).length 0 (d.drop 4)).map _; cases segP len blk d.length (d.drop 4).length 0 (d.drop 4) <;> rfl, Nat.le_refl _⟩, h8G, by simp, Or.inl ⟨rfl, rfl⟩⟩)
        clear HT
        go_loopw [8, 9, 10, 11, 12] (fun o k _ _ _ wr => ∃ (at_ : Nat) (out : List Seg), k = .int .i64 (at_ : Int) ∧ RgSt w len blk d T wr at_ out o) (fun _ k _ _ _ _ => d.length - (intOf k).toNat)
        case atStart => exact ⟨4, [], rfl, HS.out⟩
        case round =>
          clear HS
          obtain ⟨k, out, rfl, hS⟩ := hrel
          have hfew := hS.few
          have hle := hS.le
          have hol : out.length ≤ 1024 := by omega
          have HB := Lib.hid hS.bel
          have HO := Lib.hid hS.own
          obtain ⟨oa, oc, rfl⟩ := own_slice hS.own
          by_cases hlt : k < d.length
          · have hltI : (k : Int) < (d.length : Int) := by omega
            by_cases h4 : d.length < k + 4
            · have HT := Lib.hid (hS.short hlt h4)
              have h4I : (d.length : Int) < (k : Int) + 4 := by omega
              clear hS h4
              go_wp2_with fail
              go_ret2
              exact RGPost.no HT.out HB.out
            · have h4I : ¬ (d.length : Int) < (k : Int) + 4 := by omega
              obtain ⟨a, b, c, e, r, hdr, hr, _⟩ := drop_four (d := d) (k := k) (by omega)
              obtain ⟨hx0, hx1, hx2, hx3⟩ := drop_at hdr
              have hfst := hS.fst
              have hnn := hS.step hdr hr rfl
              have ha := a.toNat_lt
              have hbb := b.toNat_lt
              have hcb := c.toNat_lt
              have hrl : r.length = d.length - (k + 4) := by rw [hr, List.length_drop]
              have hBc : segB c = decide (2 ≤ c.toNat) := rfl
              have hAc : segA c = decide (c.toNat % 2 = 1) := rfl
              have hxt : ∀ n, 4 ≤ n → k + n ≤ d.length → (ByteArray.mk d.toArray).extract (k + 4) (k + n) = ⟨(r.take (n - 4)).toArray⟩ := fun n h1 h2 => by
                apply ByteArray.ext
                rw [ByteArray.data_extract, hr]
                apply Array.ext'
                simp only [Array.toList_extract, List.extract_eq_take_drop]
                congr 1; omega
              have m1 : IntKind.i64.wrap (a.toNat : Int) = (a.toNat : Int) := IntWalk.i64_in _ (by omega)
              have m2 : IntKind.i64.wrap (b.toNat : Int) = (b.toNat : Int) := IntWalk.i64_in _ (by omega)
              have m3 : IntKind.i64.wrap (256 * (a.toNat : Int)) = 256 * (a.toNat : Int) := IntWalk.i64_in _ (by omega)
              have hor : 256 * (a.toNat : Int) + (b.toNat : Int) = ((256 * a.toNat + b.toNat : Nat) : Int) := by simp
              have hn65 : 256 * a.toNat + b.toNat ≤ 65535 := by omega
              generalize 256 * a.toNat + b.toNat = n at hor hnn hn65
              obtain ⟨hbad, hgood⟩ := hnn
              have HBAD := Lib.hid hbad
              have HGOOD := Lib.hid hgood
              have HXT := Lib.hid hxt
              have HFST := Lib.hid hfst
              have i1 : k < d.length := hlt
              have i2 : k + 1 < d.length := by omega
              have i3 : k + 2 < d.length := by omega
              have i4 : k + 3 < d.length := by omega
              have j2 : (k : Int) + 1 < (d.length : Int) := by omega
              have j3 : (k : Int) + 2 < (d.length : Int) := by omega
              have j4 : (k : Int) + 3 < (d.length : Int) := by omega
              have y2 : (0 : Int) ≤ (k : Int) + 1 := by omega
              have y3 : (0 : Int) ≤ (k : Int) + 2 := by omega
              have y4 : (0 : Int) ≤ (k : Int) + 3 := by omega
              have x2 : ((k : Int) + 1).toNat = k + 1 := by omega
              have x3 : ((k : Int) + 2).toNat = k + 2 := by omega
              have x4 : ((k : Int) + 3).toNat = k + 3 := by omega
              clear hS h4 hbad hgood hxt hfst hr hrl hdr
              go_wp2_with fail
              go_quiet (fail)
              skip
              by_cases hcv : c.toNat = 0
              · have hcI : (c.toNat : Int) = 0 := by rw [hcv]; rfl
                have HBQ := Lib.hid (below_drewN HB.out nq)
                have HOQ := Lib.hid (own_below HO.out (below_drewN (Below.refl wr.heap.size wr) nq))
                obtain ⟨W, hW⟩ : ∃ W, W = wr.drewN nq := ⟨_, rfl⟩
                rw [← hW] at HBQ HOQ ⊢
                clear hW
                obtain ⟨W9, hW9⟩ : ∃ W9, W9 = (W.alloc (.cells sgz 151)).setRow W.heap.size #[.bool false, .bool false, .string ⟨#[]⟩] := ⟨_, rfl⟩
                have st9 := storeSg_at (cs := #[.bool false, .bool false, .string ⟨#[]⟩]) (heap_alloc_new W (.cells sgz 151)) rfl rfl (by simp [Value.oneCell'])
                have hg9 : W9.heap[W.heap.size]? = some (.cells #[.bool false, .bool false, .string ⟨#[]⟩] 151 (0, 0)) := by rw [hW9]; exact setRow_heap _ _ _ _ _ _ (heap_alloc_new _ _)
                have hb9 : Below W.heap.size W W9 := by rw [hW9]; exact Below.setRow (box_below _ _ _) (Nat.le_refl _) _
                rw [← hW9] at st9
                have HB9 := Lib.hid (HBQ.out.trans (hb9.mono HBQ.out.size))
                have HO9 := Lib.hid (own_below HOQ.out hb9)
                have HG9 := Lib.hid hg9
                have c0 := cell_at (i := 0) (v := .bool false) hg9 rfl
                have c1 := cell_at (i := 1) (v := .bool false) hg9 rfl
                have f2 := free_at hg9 2
                have cc2 := cell_at (i := 2) (v := .string ⟨#[]⟩) hg9 rfl
                clear hW9 hg9 hb9
                by_cases he : e.toNat = 0
                rotate_left
                · have e1 : ((e.toNat : Int) == 0) = false := by simp; omega
                  have e2 : ((e.toNat : Int) != 0) = true := by simp; omega
                  have HT := Lib.hid (HBAD.out (by unfold okH; omega))
                  clear he
                  go_wp2_with fail
                  go_ret2
                  exact RGPost.no HT.out HB9.out
                have e1 : ((e.toNat : Int) == 0) = true := by rw [he]; rfl
                have e2 : ((e.toNat : Int) != 0) = false := by rw [he]; rfl
                by_cases hn4 : n < 4
                · have hn4I : (n : Int) < 4 := by omega
                  have HT := Lib.hid (HBAD.out (by unfold okH; omega))
                  clear hn4
                  go_wp2_with fail
                  go_ret2
                  exact RGPost.no HT.out HB9.out
                have hn4I : ¬ (n : Int) < 4 := by omega
                by_cases hn5 : n = 4
                · have e4 : ((n : Int) == 4) = true := by rw [hn5]; rfl
                  have hok : okH len blk d.length k c.toNat e.toNat n := by unfold okH; omega
                  obtain ⟨f, hT2, hf2⟩ := HGOOD.out hok
                  have h43 : k + 4 ≤ d.length := by omega
                  rw [hBc, hAc, show decide (2 ≤ c.toNat) = false by rw [hcv]; rfl, show decide (c.toNat % 2 = 1) = false by rw [hcv]; rfl] at hT2
                  rw [hn5] at hT2 hf2
                  simp only [Nat.sub_self, List.take_zero] at hT2
                  have HT2 := Lib.hid hT2
                  have HF2 := Lib.hid hf2
                  have HFW := Lib.hid (show (out ++ [(false, false, [])]).length ≤ k + 4 by rw [List.length_append, List.length_singleton]; omega)
                  have HFS := Lib.hid (show ((out ++ [(false, false, [])]).length = 0 ∧ k + 4 = 4) ∨ (0 < (out ++ [(false, false, [])]).length ∧ 4 < k + 4) by rw [List.length_append, List.length_singleton]; have := HFST.out; omega)
                  have hg10 : (W9.setCell ⟨W.heap.size, 2, none⟩ (.string ByteArray.empty)).heap[W.heap.size]? = some (.cells #[.bool false, .bool false, .string ByteArray.empty] 151 (0, 0)) := cell_row_any _ _ _ _ _ _ _ HG9.out
                  have hb10 := HB9.out.setCell (p := ⟨W.heap.size, 2, none⟩) HBQ.out.size (.string ByteArray.empty)
                  have ho10 : (W9.setCell ⟨W.heap.size, 2, none⟩ (.string ByteArray.empty)).ownsRow w.heap.size 151 3 (.slice oa out.length oc) out.length (flatS out) := own_only HO9.out ((Only.refl [W.heap.size] W9).setCell (p := ⟨W.heap.size, 2, none⟩) (Or.inl (by simp)) _) (fun k hk => by have := row_own_lt HOQ.out hk; simp; omega)
                  have dl10 := loadSg_at hg10 rfl
                  have HB10 := Lib.hid hb10
                  have hs10 := hb10.size
                  clear hok hT2 hf2 hg10 hb10 hlt
                  go_wp2_with (refine wpList_append_own _ rfl _ _ 131 rfl w.heap.size 151 i0 (.agg #[.bool false, .bool false, .string ByteArray.empty]) 3 24 Tryz.underlying131 hi0 hz0 hz1 hz2 rfl (by decide) _ _ _ rfl (ho10.alloc _) _ 1 1 [.bool false, .bool false, .string ByteArray.empty] rfl rfl ?e11_1 ?e21_1 ?e31_1 ?e41_1 ?e51_1 ?_)
                  try (case e11_1 => exact news_at (cs := #[.bool false, .bool false, .string ByteArray.empty]) (heap_alloc_new _ _))
                  try (case e21_1 => simp [Value.oneCell'])
                  try (case e31_1 => unfold maxLen; (try simp) <;> omega)
                  try (case e41_1 => (try simp) <;> omega)
                  try (case e51_1 => simp at hs10 ⊢; omega)
                  intro v6 w6 hown6 hg6 _
                  have hbA := HB10.out.alloc HB10.out.size (.cells #[.bool false, .bool false, .string ByteArray.empty] 151)
                  have hb6 := hbA.grown hg6 hbA.size (fun k hk => row_own ho10 hk)
                  have hown7 : w6.ownsRow w.heap.size 151 3 v6 (out ++ [(false, false, [])]).length (flatS (out ++ [(false, false, [])])) := by
                    rw [List.length_append, flatS_append]; exact hown6
                  have HZ := Lib.hid (show RgSt w len blk d T w6 (k + 4) (out ++ [(false, false, [])]) v6 from ⟨hb6, hown7, ⟨f, HT2.out, HF2.out⟩, h43, HFW.out, HFS.out⟩)
                  clear ho10 hown6 hown7 hg6 hbA hb6
                  go_wp2_with fail
                  go_roundw
                  case rel => exact ⟨k + 4, _, by go_num, HZ.out⟩
                  case measure => simp [intOf]; omega
                · have e4 : ((n : Int) == 4) = false := by simp; omega
                  by_cases hL : 4 + len < n
                  · have hLI : (4 : Int) + (len : Int) < (n : Int) := by omega
                    have HT := Lib.hid (HBAD.out (by unfold okH; omega))
                    clear hL
                    go_wp2_with fail
                    go_ret2
                    exact RGPost.no HT.out HB9.out
                  have hLI : ¬ (4 : Int) + (len : Int) < (n : Int) := by omega
                  by_cases hD : d.length < k + n
                  · have hDI : (d.length : Int) < (k : Int) + (n : Int) := by omega
                    have HT := Lib.hid (HBAD.out (by unfold okH; omega))
                    clear hD hL
                    go_wp2_with fail
                    go_ret2
                    exact RGPost.no HT.out HB9.out
                  have hDI : ¬ (d.length : Int) < (k : Int) + (n : Int) := by omega
                  have hok : okH len blk d.length k c.toNat e.toNat n := by unfold okH; omega
                  obtain ⟨f, hT2, hf2⟩ := HGOOD.out hok
                  have hx := HXT.out n (by omega) (by omega)
                  have h43 : k + n ≤ d.length := by omega
                  have h44 : k + 4 ≤ k + n := by omega
                  rw [hBc, hAc, show decide (2 ≤ c.toNat) = false by rw [hcv]; rfl, show decide (c.toNat % 2 = 1) = false by rw [hcv]; rfl] at hT2
                  generalize r.take (n - 4) = x at hT2 hx
                  have HT2 := Lib.hid hT2
                  have HF2 := Lib.hid hf2
                  have HFW := Lib.hid (show (out ++ [(false, false, x)]).length ≤ k + n by rw [List.length_append, List.length_singleton]; omega)
                  have HFS := Lib.hid (show ((out ++ [(false, false, x)]).length = 0 ∧ k + n = 4) ∨ (0 < (out ++ [(false, false, x)]).length ∧ 4 < k + n) by rw [List.length_append, List.length_singleton]; have := HFST.out; omega)
                  have hg10 : (W9.setCell ⟨W.heap.size, 2, none⟩ (.string ⟨x.toArray⟩)).heap[W.heap.size]? = some (.cells #[.bool false, .bool false, .string ⟨x.toArray⟩] 151 (0, 0)) := cell_row_any _ _ _ _ _ _ _ HG9.out
                  have hb10 := HB9.out.setCell (p := ⟨W.heap.size, 2, none⟩) HBQ.out.size (.string ⟨x.toArray⟩)
                  have ho10 : (W9.setCell ⟨W.heap.size, 2, none⟩ (.string ⟨x.toArray⟩)).ownsRow w.heap.size 151 3 (.slice oa out.length oc) out.length (flatS out) := own_only HO9.out ((Only.refl [W.heap.size] W9).setCell (p := ⟨W.heap.size, 2, none⟩) (Or.inl (by simp)) _) (fun k hk => by have := row_own_lt HOQ.out hk; simp; omega)
                  have dl10 := loadSg_at hg10 rfl
                  have HB10 := Lib.hid hb10
                  have hs10 := hb10.size
                  clear hok hT2 hf2 hg10 hb10 hlt hL hD
                  go_wp2_with (refine wpList_append_own _ rfl _ _ 131 rfl w.heap.size 151 i0 (.agg #[.bool false, .bool false, .string ByteArray.empty]) 3 24 Tryz.underlying131 hi0 hz0 hz1 hz2 rfl (by decide) _ _ _ rfl (ho10.alloc _) _ 1 1 [.bool false, .bool false, .string ⟨x.toArray⟩] rfl rfl ?e11_2 ?e21_2 ?e31_2 ?e41_2 ?e51_2 ?_)
                  try (case e11_2 => exact news_at (cs := #[.bool false, .bool false, .string ⟨x.toArray⟩]) (heap_alloc_new _ _))
                  try (case e21_2 => simp [Value.oneCell'])
                  try (case e31_2 => unfold maxLen; (try simp) <;> omega)
                  try (case e41_2 => (try simp) <;> omega)
                  try (case e51_2 => simp at hs10 ⊢; omega)
                  intro v6 w6 hown6 hg6 _
                  have hbA := HB10.out.alloc HB10.out.size (.cells #[.bool false, .bool false, .string ⟨x.toArray⟩] 151)
                  have hb6 := hbA.grown hg6 hbA.size (fun k hk => row_own ho10 hk)
                  have hown7 : w6.ownsRow w.heap.size 151 3 v6 (out ++ [(false, false, x)]).length (flatS (out ++ [(false, false, x)])) := by
                    rw [List.length_append, flatS_append]; simpa [flatS, segC, sv] using hown6
                  have HZ := Lib.hid (show RgSt w len blk d T w6 (k + n) (out ++ [(false, false, x)]) v6 from ⟨hb6, hown7, ⟨f, HT2.out, HF2.out⟩, h43, HFW.out, HFS.out⟩)
                  clear ho10 hown6 hown7 hg6 hbA hb6
                  go_wp2_with fail
                  go_roundw
                  case rel => exact ⟨k + n, _, by go_num, HZ.out⟩
                  case measure => simp [intOf]; omega
              by_cases hcv : c.toNat = 1
              · have hcI : (c.toNat : Int) = 1 := by rw [hcv]; rfl
                have HBQ := Lib.hid (below_drewN HB.out nq)
                have HOQ := Lib.hid (own_below HO.out (below_drewN (Below.refl wr.heap.size wr) nq))
                obtain ⟨W, hW⟩ : ∃ W, W = wr.drewN nq := ⟨_, rfl⟩
                rw [← hW] at HBQ HOQ ⊢
                clear hW
                obtain ⟨W9, hW9⟩ : ∃ W9, W9 = (W.alloc (.cells sgz 151)).setRow W.heap.size #[.bool false, .bool true, .string ⟨#[]⟩] := ⟨_, rfl⟩
                have st9 := storeSg_at (cs := #[.bool false, .bool true, .string ⟨#[]⟩]) (heap_alloc_new W (.cells sgz 151)) rfl rfl (by simp [Value.oneCell'])
                have hg9 : W9.heap[W.heap.size]? = some (.cells #[.bool false, .bool true, .string ⟨#[]⟩] 151 (0, 0)) := by rw [hW9]; exact setRow_heap _ _ _ _ _ _ (heap_alloc_new _ _)
                have hb9 : Below W.heap.size W W9 := by rw [hW9]; exact Below.setRow (box_below _ _ _) (Nat.le_refl _) _
                rw [← hW9] at st9
                have HB9 := Lib.hid (HBQ.out.trans (hb9.mono HBQ.out.size))
                have HO9 := Lib.hid (own_below HOQ.out hb9)
                have HG9 := Lib.hid hg9
                have c0 := cell_at (i := 0) (v := .bool false) hg9 rfl
                have c1 := cell_at (i := 1) (v := .bool true) hg9 rfl
                have f2 := free_at hg9 2
                have cc2 := cell_at (i := 2) (v := .string ⟨#[]⟩) hg9 rfl
                clear hW9 hg9 hb9
                by_cases he : e.toNat = 0
                rotate_left
                · have e1 : ((e.toNat : Int) == 0) = false := by simp; omega
                  have e2 : ((e.toNat : Int) != 0) = true := by simp; omega
                  have HT := Lib.hid (HBAD.out (by unfold okH; omega))
                  clear he
                  go_wp2_with fail
                  go_ret2
                  exact RGPost.no HT.out HB9.out
                have e1 : ((e.toNat : Int) == 0) = true := by rw [he]; rfl
                have e2 : ((e.toNat : Int) != 0) = false := by rw [he]; rfl
                by_cases hn4 : n < 4
                · have hn4I : (n : Int) < 4 := by omega
                  have HT := Lib.hid (HBAD.out (by unfold okH; omega))
                  clear hn4
                  go_wp2_with fail
                  go_ret2
                  exact RGPost.no HT.out HB9.out
                have hn4I : ¬ (n : Int) < 4 := by omega
                by_cases hn5 : n = 4
                · have e4 : ((n : Int) == 4) = true := by rw [hn5]; rfl
                  have HT := Lib.hid (HBAD.out (by unfold okH; omega))
                  clear hn5 hn4
                  go_wp2_with fail
                  go_ret2
                  exact RGPost.no HT.out HB9.out
                · have e4 : ((n : Int) == 4) = false := by simp; omega
                  by_cases hL : 4 + len < n
                  · have hLI : (4 : Int) + (len : Int) < (n : Int) := by omega
                    have HT := Lib.hid (HBAD.out (by unfold okH; omega))
                    clear hL
                    go_wp2_with fail
                    go_ret2
                    exact RGPost.no HT.out HB9.out
                  have hLI : ¬ (4 : Int) + (len : Int) < (n : Int) := by omega
                  by_cases hD : d.length < k + n
                  · have hDI : (d.length : Int) < (k : Int) + (n : Int) := by omega
                    have HT := Lib.hid (HBAD.out (by unfold okH; omega))
                    clear hD hL
                    go_wp2_with fail
                    go_ret2
                    exact RGPost.no HT.out HB9.out
                  have hDI : ¬ (d.length : Int) < (k : Int) + (n : Int) := by omega
                  by_cases hE : k + n < d.length
                  · have hEI : (k : Int) + (n : Int) < (d.length : Int) := by omega
                    have HT := Lib.hid (HBAD.out (by unfold okH; omega))
                    clear hL hD hE
                    go_wp2_with fail
                    go_ret2
                    exact RGPost.no HT.out HB9.out
                  have hEI : ¬ (k : Int) + (n : Int) < (d.length : Int) := by omega
                  by_cases hF : d.length < blk
                  · have hFI : (d.length : Int) < (blk : Int) := by omega
                    have HT := Lib.hid (HBAD.out (by unfold okH; omega))
                    clear hL hD hE hF
                    go_wp2_with fail
                    go_ret2
                    exact RGPost.no HT.out HB9.out
                  have hFI : ¬ (d.length : Int) < (blk : Int) := by omega
                  have hdbl := HDB.out
                  have hok : okH len blk d.length k c.toNat e.toNat n := by unfold okH; omega
                  obtain ⟨f, hT2, hf2⟩ := HGOOD.out hok
                  have hx := HXT.out n (by omega) (by omega)
                  have h43 : k + n ≤ d.length := by omega
                  have h44 : k + 4 ≤ k + n := by omega
                  rw [hBc, hAc, show decide (2 ≤ c.toNat) = false by rw [hcv]; rfl, show decide (c.toNat % 2 = 1) = true by rw [hcv]; rfl] at hT2
                  generalize r.take (n - 4) = x at hT2 hx
                  have HT2 := Lib.hid hT2
                  have HF2 := Lib.hid hf2
                  have HFW := Lib.hid (show (out ++ [(false, true, x)]).length ≤ k + n by rw [List.length_append, List.length_singleton]; omega)
                  have HFS := Lib.hid (show ((out ++ [(false, true, x)]).length = 0 ∧ k + n = 4) ∨ (0 < (out ++ [(false, true, x)]).length ∧ 4 < k + n) by rw [List.length_append, List.length_singleton]; have := HFST.out; omega)
                  have hg10 : (W9.setCell ⟨W.heap.size, 2, none⟩ (.string ⟨x.toArray⟩)).heap[W.heap.size]? = some (.cells #[.bool false, .bool true, .string ⟨x.toArray⟩] 151 (0, 0)) := cell_row_any _ _ _ _ _ _ _ HG9.out
                  have hb10 := HB9.out.setCell (p := ⟨W.heap.size, 2, none⟩) HBQ.out.size (.string ⟨x.toArray⟩)
                  have ho10 : (W9.setCell ⟨W.heap.size, 2, none⟩ (.string ⟨x.toArray⟩)).ownsRow w.heap.size 151 3 (.slice oa out.length oc) out.length (flatS out) := own_only HO9.out ((Only.refl [W.heap.size] W9).setCell (p := ⟨W.heap.size, 2, none⟩) (Or.inl (by simp)) _) (fun k hk => by have := row_own_lt HOQ.out hk; simp; omega)
                  have dl10 := loadSg_at hg10 rfl
                  have HB10 := Lib.hid hb10
                  have hs10 := hb10.size
                  clear hok hT2 hf2 hg10 hb10 hlt hL hD hE hF hdbl
                  go_wp2_with (refine wpList_append_own _ rfl _ _ 131 rfl w.heap.size 151 i0 (.agg #[.bool false, .bool false, .string ByteArray.empty]) 3 24 Tryz.underlying131 hi0 hz0 hz1 hz2 rfl (by decide) _ _ _ rfl (ho10.alloc _) _ 1 1 [.bool false, .bool true, .string ⟨x.toArray⟩] rfl rfl ?e11_3 ?e21_3 ?e31_3 ?e41_3 ?e51_3 ?_)
                  try (case e11_3 => exact news_at (cs := #[.bool false, .bool true, .string ⟨x.toArray⟩]) (heap_alloc_new _ _))
                  try (case e21_3 => simp [Value.oneCell'])
                  try (case e31_3 => unfold maxLen; (try simp) <;> omega)
                  try (case e41_3 => (try simp) <;> omega)
                  try (case e51_3 => simp at hs10 ⊢; omega)
                  intro v6 w6 hown6 hg6 _
                  have hbA := HB10.out.alloc HB10.out.size (.cells #[.bool false, .bool true, .string ⟨x.toArray⟩] 151)
                  have hb6 := hbA.grown hg6 hbA.size (fun k hk => row_own ho10 hk)
                  have hown7 : w6.ownsRow w.heap.size 151 3 v6 (out ++ [(false, true, x)]).length (flatS (out ++ [(false, true, x)])) := by
                    rw [List.length_append, flatS_append]; simpa [flatS, segC, sv] using hown6
                  have HZ := Lib.hid (show RgSt w len blk d T w6 (k + n) (out ++ [(false, true, x)]) v6 from ⟨hb6, hown7, ⟨f, HT2.out, HF2.out⟩, h43, HFW.out, HFS.out⟩)
                  clear ho10 hown6 hown7 hg6 hbA hb6
                  go_wp2_with fail
                  go_roundw
                  case rel => exact ⟨k + n, _, by go_num, HZ.out⟩
                  case measure => simp [intOf]; omega
              by_cases hcv : c.toNat = 2
              · have hcI : (c.toNat : Int) = 2 := by rw [hcv]; rfl
                have HBQ := Lib.hid (below_drewN HB.out nq)
                have HOQ := Lib.hid (own_below HO.out (below_drewN (Below.refl wr.heap.size wr) nq))
                obtain ⟨W, hW⟩ : ∃ W, W = wr.drewN nq := ⟨_, rfl⟩
                rw [← hW] at HBQ HOQ ⊢
                clear hW
                obtain ⟨W9, hW9⟩ : ∃ W9, W9 = (W.alloc (.cells sgz 151)).setRow W.heap.size #[.bool true, .bool false, .string ⟨#[]⟩] := ⟨_, rfl⟩
                have st9 := storeSg_at (cs := #[.bool true, .bool false, .string ⟨#[]⟩]) (heap_alloc_new W (.cells sgz 151)) rfl rfl (by simp [Value.oneCell'])
                have hg9 : W9.heap[W.heap.size]? = some (.cells #[.bool true, .bool false, .string ⟨#[]⟩] 151 (0, 0)) := by rw [hW9]; exact setRow_heap _ _ _ _ _ _ (heap_alloc_new _ _)
                have hb9 : Below W.heap.size W W9 := by rw [hW9]; exact Below.setRow (box_below _ _ _) (Nat.le_refl _) _
                rw [← hW9] at st9
                have HB9 := Lib.hid (HBQ.out.trans (hb9.mono HBQ.out.size))
                have HO9 := Lib.hid (own_below HOQ.out hb9)
                have HG9 := Lib.hid hg9
                have c0 := cell_at (i := 0) (v := .bool true) hg9 rfl
                have c1 := cell_at (i := 1) (v := .bool false) hg9 rfl
                have f2 := free_at hg9 2
                have cc2 := cell_at (i := 2) (v := .string ⟨#[]⟩) hg9 rfl
                clear hW9 hg9 hb9
                by_cases he : e.toNat = 0
                rotate_left
                · have e1 : ((e.toNat : Int) == 0) = false := by simp; omega
                  have e2 : ((e.toNat : Int) != 0) = true := by simp; omega
                  have HT := Lib.hid (HBAD.out (by unfold okH; omega))
                  clear he
                  go_wp2_with fail
                  go_ret2
                  exact RGPost.no HT.out HB9.out
                have e1 : ((e.toNat : Int) == 0) = true := by rw [he]; rfl
                have e2 : ((e.toNat : Int) != 0) = false := by rw [he]; rfl
                by_cases hn4 : n < 4
                · have hn4I : (n : Int) < 4 := by omega
                  have HT := Lib.hid (HBAD.out (by unfold okH; omega))
                  clear hn4
                  go_wp2_with fail
                  go_ret2
                  exact RGPost.no HT.out HB9.out
                have hn4I : ¬ (n : Int) < 4 := by omega
                by_cases hn5 : n = 4
                · have e4 : ((n : Int) == 4) = true := by rw [hn5]; rfl
                  have HT := Lib.hid (HBAD.out (by unfold okH; omega))
                  clear hn5 hn4
                  go_wp2_with fail
                  go_ret2
                  exact RGPost.no HT.out HB9.out
                · have e4 : ((n : Int) == 4) = false := by simp; omega
                  by_cases hL : 4 + len < n
                  · have hLI : (4 : Int) + (len : Int) < (n : Int) := by omega
                    have HT := Lib.hid (HBAD.out (by unfold okH; omega))
                    clear hL
                    go_wp2_with fail
                    go_ret2
                    exact RGPost.no HT.out HB9.out
                  have hLI : ¬ (4 : Int) + (len : Int) < (n : Int) := by omega
                  by_cases hD : d.length < k + n
                  · have hDI : (d.length : Int) < (k : Int) + (n : Int) := by omega
                    have HT := Lib.hid (HBAD.out (by unfold okH; omega))
                    clear hD hL
                    go_wp2_with fail
                    go_ret2
                    exact RGPost.no HT.out HB9.out
                  have hDI : ¬ (d.length : Int) < (k : Int) + (n : Int) := by omega
                  by_cases hK : 4 < k
                  · have hKI : (4 : Int) < (k : Int) := by omega
                    have HT := Lib.hid (HBAD.out (by unfold okH; omega))
                    clear hL hD hK
                    go_wp2_with fail
                    go_ret2
                    exact RGPost.no HT.out HB9.out
                  have hKI : ¬ (4 : Int) < (k : Int) := by omega
                  have hK4 : k = 4 := by have := HFST.out; omega
                  have hok : okH len blk d.length k c.toNat e.toNat n := by unfold okH; omega
                  obtain ⟨f, hT2, hf2⟩ := HGOOD.out hok
                  have hx := HXT.out n (by omega) (by omega)
                  have h43 : k + n ≤ d.length := by omega
                  have h44 : k + 4 ≤ k + n := by omega
                  rw [hBc, hAc, show decide (2 ≤ c.toNat) = true by rw [hcv]; rfl, show decide (c.toNat % 2 = 1) = false by rw [hcv]; rfl] at hT2
                  generalize r.take (n - 4) = x at hT2 hx
                  have HT2 := Lib.hid hT2
                  have HF2 := Lib.hid hf2
                  have HFW := Lib.hid (show (out ++ [(true, false, x)]).length ≤ k + n by rw [List.length_append, List.length_singleton]; omega)
                  have HFS := Lib.hid (show ((out ++ [(true, false, x)]).length = 0 ∧ k + n = 4) ∨ (0 < (out ++ [(true, false, x)]).length ∧ 4 < k + n) by rw [List.length_append, List.length_singleton]; have := HFST.out; omega)
                  have hg10 : (W9.setCell ⟨W.heap.size, 2, none⟩ (.string ⟨x.toArray⟩)).heap[W.heap.size]? = some (.cells #[.bool true, .bool false, .string ⟨x.toArray⟩] 151 (0, 0)) := cell_row_any _ _ _ _ _ _ _ HG9.out
                  have hb10 := HB9.out.setCell (p := ⟨W.heap.size, 2, none⟩) HBQ.out.size (.string ⟨x.toArray⟩)
                  have ho10 : (W9.setCell ⟨W.heap.size, 2, none⟩ (.string ⟨x.toArray⟩)).ownsRow w.heap.size 151 3 (.slice oa out.length oc) out.length (flatS out) := own_only HO9.out ((Only.refl [W.heap.size] W9).setCell (p := ⟨W.heap.size, 2, none⟩) (Or.inl (by simp)) _) (fun k hk => by have := row_own_lt HOQ.out hk; simp; omega)
                  have dl10 := loadSg_at hg10 rfl
                  have HB10 := Lib.hid hb10
                  have hs10 := hb10.size
                  clear hok hT2 hf2 hg10 hb10 hlt hL hD hK hK4
                  go_wp2_with (refine wpList_append_own _ rfl _ _ 131 rfl w.heap.size 151 i0 (.agg #[.bool false, .bool false, .string ByteArray.empty]) 3 24 Tryz.underlying131 hi0 hz0 hz1 hz2 rfl (by decide) _ _ _ rfl (ho10.alloc _) _ 1 1 [.bool true, .bool false, .string ⟨x.toArray⟩] rfl rfl ?e11_4 ?e21_4 ?e31_4 ?e41_4 ?e51_4 ?_)
                  try (case e11_4 => exact news_at (cs := #[.bool true, .bool false, .string ⟨x.toArray⟩]) (heap_alloc_new _ _))
                  try (case e21_4 => simp [Value.oneCell'])
                  try (case e31_4 => unfold maxLen; (try simp) <;> omega)
                  try (case e41_4 => (try simp) <;> omega)
                  try (case e51_4 => simp at hs10 ⊢; omega)
                  intro v6 w6 hown6 hg6 _
                  have hbA := HB10.out.alloc HB10.out.size (.cells #[.bool true, .bool false, .string ⟨x.toArray⟩] 151)
                  have hb6 := hbA.grown hg6 hbA.size (fun k hk => row_own ho10 hk)
                  have hown7 : w6.ownsRow w.heap.size 151 3 v6 (out ++ [(true, false, x)]).length (flatS (out ++ [(true, false, x)])) := by
                    rw [List.length_append, flatS_append]; simpa [flatS, segC, sv] using hown6
                  have HZ := Lib.hid (show RgSt w len blk d T w6 (k + n) (out ++ [(true, false, x)]) v6 from ⟨hb6, hown7, ⟨f, HT2.out, HF2.out⟩, h43, HFW.out, HFS.out⟩)
                  clear ho10 hown6 hown7 hg6 hbA hb6
                  go_wp2_with fail
                  go_roundw
                  case rel => exact ⟨k + n, _, by go_num, HZ.out⟩
                  case measure => simp [intOf]; omega
              by_cases hcv : c.toNat = 3
              · have hcI : (c.toNat : Int) = 3 := by rw [hcv]; rfl
                have HBQ := Lib.hid (below_drewN HB.out nq)
                have HOQ := Lib.hid (own_below HO.out (below_drewN (Below.refl wr.heap.size wr) nq))
                obtain ⟨W, hW⟩ : ∃ W, W = wr.drewN nq := ⟨_, rfl⟩
                rw [← hW] at HBQ HOQ ⊢
                clear hW
                obtain ⟨W9, hW9⟩ : ∃ W9, W9 = (W.alloc (.cells sgz 151)).setRow W.heap.size #[.bool true, .bool true, .string ⟨#[]⟩] := ⟨_, rfl⟩
                have st9 := storeSg_at (cs := #[.bool true, .bool true, .string ⟨#[]⟩]) (heap_alloc_new W (.cells sgz 151)) rfl rfl (by simp [Value.oneCell'])
                have hg9 : W9.heap[W.heap.size]? = some (.cells #[.bool true, .bool true, .string ⟨#[]⟩] 151 (0, 0)) := by rw [hW9]; exact setRow_heap _ _ _ _ _ _ (heap_alloc_new _ _)
                have hb9 : Below W.heap.size W W9 := by rw [hW9]; exact Below.setRow (box_below _ _ _) (Nat.le_refl _) _
                rw [← hW9] at st9
                have HB9 := Lib.hid (HBQ.out.trans (hb9.mono HBQ.out.size))
                have HO9 := Lib.hid (own_below HOQ.out hb9)
                have HG9 := Lib.hid hg9
                have c0 := cell_at (i := 0) (v := .bool true) hg9 rfl
                have c1 := cell_at (i := 1) (v := .bool true) hg9 rfl
                have f2 := free_at hg9 2
                have cc2 := cell_at (i := 2) (v := .string ⟨#[]⟩) hg9 rfl
                clear hW9 hg9 hb9
                by_cases he : e.toNat = 0
                rotate_left
                · have e1 : ((e.toNat : Int) == 0) = false := by simp; omega
                  have e2 : ((e.toNat : Int) != 0) = true := by simp; omega
                  have HT := Lib.hid (HBAD.out (by unfold okH; omega))
                  clear he
                  go_wp2_with fail
                  go_ret2
                  exact RGPost.no HT.out HB9.out
                have e1 : ((e.toNat : Int) == 0) = true := by rw [he]; rfl
                have e2 : ((e.toNat : Int) != 0) = false := by rw [he]; rfl
                by_cases hn4 : n < 4
                · have hn4I : (n : Int) < 4 := by omega
                  have HT := Lib.hid (HBAD.out (by unfold okH; omega))
                  clear hn4
                  go_wp2_with fail
                  go_ret2
                  exact RGPost.no HT.out HB9.out
                have hn4I : ¬ (n : Int) < 4 := by omega
                by_cases hn5 : n = 4
                · have e4 : ((n : Int) == 4) = true := by rw [hn5]; rfl
                  have HT := Lib.hid (HBAD.out (by unfold okH; omega))
                  clear hn5 hn4
                  go_wp2_with fail
                  go_ret2
                  exact RGPost.no HT.out HB9.out
                · have e4 : ((n : Int) == 4) = false := by simp; omega
                  by_cases hL : 4 + len < n
                  · have hLI : (4 : Int) + (len : Int) < (n : Int) := by omega
                    have HT := Lib.hid (HBAD.out (by unfold okH; omega))
                    clear hL
                    go_wp2_with fail
                    go_ret2
                    exact RGPost.no HT.out HB9.out
                  have hLI : ¬ (4 : Int) + (len : Int) < (n : Int) := by omega
                  by_cases hD : d.length < k + n
                  · have hDI : (d.length : Int) < (k : Int) + (n : Int) := by omega
                    have HT := Lib.hid (HBAD.out (by unfold okH; omega))
                    clear hD hL
                    go_wp2_with fail
                    go_ret2
                    exact RGPost.no HT.out HB9.out
                  have hDI : ¬ (d.length : Int) < (k : Int) + (n : Int) := by omega
                  by_cases hK : 4 < k
                  · have hKI : (4 : Int) < (k : Int) := by omega
                    have HT := Lib.hid (HBAD.out (by unfold okH; omega))
                    clear hL hD hK
                    go_wp2_with fail
                    go_ret2
                    exact RGPost.no HT.out HB9.out
                  have hKI : ¬ (4 : Int) < (k : Int) := by omega
                  have hK4 : k = 4 := by have := HFST.out; omega
                  by_cases hE : k + n < d.length
                  · have hEI : (k : Int) + (n : Int) < (d.length : Int) := by omega
                    have HT := Lib.hid (HBAD.out (by unfold okH; omega))
                    clear hL hD hK hK4 hE
                    go_wp2_with fail
                    go_ret2
                    exact RGPost.no HT.out HB9.out
                  have hEI : ¬ (k : Int) + (n : Int) < (d.length : Int) := by omega
                  by_cases hF : d.length < blk
                  · have hFI : (d.length : Int) < (blk : Int) := by omega
                    have HT := Lib.hid (HBAD.out (by unfold okH; omega))
                    clear hL hD hK hK4 hE hF
                    go_wp2_with fail
                    go_ret2
                    exact RGPost.no HT.out HB9.out
                  have hFI : ¬ (d.length : Int) < (blk : Int) := by omega
                  have hdbl := HDB.out
                  have hok : okH len blk d.length k c.toNat e.toNat n := by unfold okH; omega
                  obtain ⟨f, hT2, hf2⟩ := HGOOD.out hok
                  have hx := HXT.out n (by omega) (by omega)
                  have h43 : k + n ≤ d.length := by omega
                  have h44 : k + 4 ≤ k + n := by omega
                  rw [hBc, hAc, show decide (2 ≤ c.toNat) = true by rw [hcv]; rfl, show decide (c.toNat % 2 = 1) = true by rw [hcv]; rfl] at hT2
                  generalize r.take (n - 4) = x at hT2 hx
                  have HT2 := Lib.hid hT2
                  have HF2 := Lib.hid hf2
                  have HFW := Lib.hid (show (out ++ [(true, true, x)]).length ≤ k + n by rw [List.length_append, List.length_singleton]; omega)
                  have HFS := Lib.hid (show ((out ++ [(true, true, x)]).length = 0 ∧ k + n = 4) ∨ (0 < (out ++ [(true, true, x)]).length ∧ 4 < k + n) by rw [List.length_append, List.length_singleton]; have := HFST.out; omega)
                  have hg10 : (W9.setCell ⟨W.heap.size, 2, none⟩ (.string ⟨x.toArray⟩)).heap[W.heap.size]? = some (.cells #[.bool true, .bool true, .string ⟨x.toArray⟩] 151 (0, 0)) := cell_row_any _ _ _ _ _ _ _ HG9.out
                  have hb10 := HB9.out.setCell (p := ⟨W.heap.size, 2, none⟩) HBQ.out.size (.string ⟨x.toArray⟩)
                  have ho10 : (W9.setCell ⟨W.heap.size, 2, none⟩ (.string ⟨x.toArray⟩)).ownsRow w.heap.size 151 3 (.slice oa out.length oc) out.length (flatS out) := own_only HO9.out ((Only.refl [W.heap.size] W9).setCell (p := ⟨W.heap.size, 2, none⟩) (Or.inl (by simp)) _) (fun k hk => by have := row_own_lt HOQ.out hk; simp; omega)
                  have dl10 := loadSg_at hg10 rfl
                  have HB10 := Lib.hid hb10
                  have hs10 := hb10.size
                  clear hok hT2 hf2 hg10 hb10 hlt hL hD hK hK4 hE hF hdbl
                  go_wp2_with (refine wpList_append_own _ rfl _ _ 131 rfl w.heap.size 151 i0 (.agg #[.bool false, .bool false, .string ByteArray.empty]) 3 24 Tryz.underlying131 hi0 hz0 hz1 hz2 rfl (by decide) _ _ _ rfl (ho10.alloc _) _ 1 1 [.bool true, .bool true, .string ⟨x.toArray⟩] rfl rfl ?e11_5 ?e21_5 ?e31_5 ?e41_5 ?e51_5 ?_)
                  try (case e11_5 => exact news_at (cs := #[.bool true, .bool true, .string ⟨x.toArray⟩]) (heap_alloc_new _ _))
                  try (case e21_5 => simp [Value.oneCell'])
                  try (case e31_5 => unfold maxLen; (try simp) <;> omega)
                  try (case e41_5 => (try simp) <;> omega)
                  try (case e51_5 => simp at hs10 ⊢; omega)
                  intro v6 w6 hown6 hg6 _
                  have hbA := HB10.out.alloc HB10.out.size (.cells #[.bool true, .bool true, .string ⟨x.toArray⟩] 151)
                  have hb6 := hbA.grown hg6 hbA.size (fun k hk => row_own ho10 hk)
                  have hown7 : w6.ownsRow w.heap.size 151 3 v6 (out ++ [(true, true, x)]).length (flatS (out ++ [(true, true, x)])) := by
                    rw [List.length_append, flatS_append]; simpa [flatS, segC, sv] using hown6
                  have HZ := Lib.hid (show RgSt w len blk d T w6 (k + n) (out ++ [(true, true, x)]) v6 from ⟨hb6, hown7, ⟨f, HT2.out, HF2.out⟩, h43, HFW.out, HFS.out⟩)
                  clear ho10 hown6 hown7 hg6 hbA hb6
                  go_wp2_with fail
                  go_roundw
                  case rel => exact ⟨k + n, _, by go_num, HZ.out⟩
                  case measure => simp [intOf]; omega
              have hcI : (3 : Int) < (c.toNat : Int) := by omega
              have hcJ : (2 : Int) ≤ (c.toNat : Int) := by omega
              by_cases hp : c.toNat % 2 = 1
              · have p1 : ((c.toNat : Int) % 2 == 1) = true := by simp; omega
                have HBQ := Lib.hid (below_drewN HB.out nq)
                have HOQ := Lib.hid (own_below HO.out (below_drewN (Below.refl wr.heap.size wr) nq))
                obtain ⟨W, hW⟩ : ∃ W, W = wr.drewN nq := ⟨_, rfl⟩
                rw [← hW] at HBQ HOQ ⊢
                clear hW
                obtain ⟨W9, hW9⟩ : ∃ W9, W9 = (W.alloc (.cells sgz 151)).setRow W.heap.size #[.bool true, .bool true, .string ⟨#[]⟩] := ⟨_, rfl⟩
                have st9 := storeSg_at (cs := #[.bool true, .bool true, .string ⟨#[]⟩]) (heap_alloc_new W (.cells sgz 151)) rfl rfl (by simp [Value.oneCell'])
                have hg9 : W9.heap[W.heap.size]? = some (.cells #[.bool true, .bool true, .string ⟨#[]⟩] 151 (0, 0)) := by rw [hW9]; exact setRow_heap _ _ _ _ _ _ (heap_alloc_new _ _)
                have hb9 : Below W.heap.size W W9 := by rw [hW9]; exact Below.setRow (box_below _ _ _) (Nat.le_refl _) _
                rw [← hW9] at st9
                have HB9 := Lib.hid (HBQ.out.trans (hb9.mono HBQ.out.size))
                have HO9 := Lib.hid (own_below HOQ.out hb9)
                have HG9 := Lib.hid hg9
                have c0 := cell_at (i := 0) (v := .bool true) hg9 rfl
                have c1 := cell_at (i := 1) (v := .bool true) hg9 rfl
                have f2 := free_at hg9 2
                have cc2 := cell_at (i := 2) (v := .string ⟨#[]⟩) hg9 rfl
                clear hW9 hg9 hb9
                have HT := Lib.hid (HBAD.out (by unfold okH; omega))
                clear hp
                go_wp2_with fail
                go_ret2
                exact RGPost.no HT.out HB9.out
              · have p1 : ((c.toNat : Int) % 2 == 1) = false := by simp; omega
                have HBQ := Lib.hid (below_drewN HB.out nq)
                have HOQ := Lib.hid (own_below HO.out (below_drewN (Below.refl wr.heap.size wr) nq))
                obtain ⟨W, hW⟩ : ∃ W, W = wr.drewN nq := ⟨_, rfl⟩
                rw [← hW] at HBQ HOQ ⊢
                clear hW
                obtain ⟨W9, hW9⟩ : ∃ W9, W9 = (W.alloc (.cells sgz 151)).setRow W.heap.size #[.bool true, .bool false, .string ⟨#[]⟩] := ⟨_, rfl⟩
                have st9 := storeSg_at (cs := #[.bool true, .bool false, .string ⟨#[]⟩]) (heap_alloc_new W (.cells sgz 151)) rfl rfl (by simp [Value.oneCell'])
                have hg9 : W9.heap[W.heap.size]? = some (.cells #[.bool true, .bool false, .string ⟨#[]⟩] 151 (0, 0)) := by rw [hW9]; exact setRow_heap _ _ _ _ _ _ (heap_alloc_new _ _)
                have hb9 : Below W.heap.size W W9 := by rw [hW9]; exact Below.setRow (box_below _ _ _) (Nat.le_refl _) _
                rw [← hW9] at st9
                have HB9 := Lib.hid (HBQ.out.trans (hb9.mono HBQ.out.size))
                have HO9 := Lib.hid (own_below HOQ.out hb9)
                have HG9 := Lib.hid hg9
                have c0 := cell_at (i := 0) (v := .bool true) hg9 rfl
                have c1 := cell_at (i := 1) (v := .bool false) hg9 rfl
                have f2 := free_at hg9 2
                have cc2 := cell_at (i := 2) (v := .string ⟨#[]⟩) hg9 rfl
                clear hW9 hg9 hb9
                have HT := Lib.hid (HBAD.out (by unfold okH; omega))
                clear hp
                go_wp2_with fail
                go_ret2
                exact RGPost.no HT.out HB9.out
          · have HT := Lib.hid (hS.done hlt)
            have hltI : ¬ (k : Int) < (d.length : Int) := by omega
            clear hS
            go_wp2_with fail
            go_ret2
            exact RGPost.yes HT.out HO.out HB.out

end Go.Proofs.YthkpcalopmddpaaGreatDoor
