/-
  Plain: what the reference's reading gives; one round of the cutting into blocks. No condition.
  Walk: the reference reads a data set. Conditions: a valid description; at most 300 sectors.
-/
import Derived.Test.YthkpcalopmddpaaGreatDoorU4
import Derived.Test.YthkpcalopmddpaaGreatDoorHC
import Derived.Test.YthkpcalopmddpaaGreatDoorU11
import Derived.Test.YthkpcalopmddpaaGreatDoorU12
namespace Go.Proofs.YthkpcalopmddpaaGreatDoor

section
open Go.RowKit Go.Sort

theorem runpack_any (fmt : Int) (w : World) (B : Nat) (a : Option Addr) (cap : Nat) (l : List By) (len blk : Nat) (h : Strs w B a l) (hB : B ≤ w.heap.size) (hl : l.length ≤ 1000000) (hsum : l.flatten.length ≤ 40000) (hdv : dsV 0 fmt len blk = true) :
    Calls Tryz.prog 63 #[.agg (dsv 0 fmt len blk), .slice a l.length cap] w fun e w' => UPost w (unpW fmt len blk l) e w' := by
  rcases ds_parts hdv with ⟨rfl, _⟩ | ⟨rfl, _⟩ | ⟨rfl, _⟩
  · exact runpack0_any w B a cap l len blk h hB hl hsum hdv
  · exact runpack1_any w B a cap l len blk h hB hl hsum hdv
  · exact runpack2_any w B a cap l len blk h hB hl hsum hdv

theorem readT_W (fmt : Int) (len blk ap cnt n : Nat) (s : By) : readT fmt len blk ap cnt n s =
    if s.drop n ≠ zeros (s.drop n).length then .error 11 else
    match cutP (s.take n) with
    | none => .error 11
    | some V => match unpW fmt len blk V with
      | none => .error 11
      | some R => if R.length = cnt then .ok ⟨ap, R, V, s.take n⟩ else .error 11 := by
  unfold readT unpW
  split
  · rfl
  · cases cutP (s.take n) with
    | none => rfl
    | some V =>
      simp only
      cases unpV fmt len blk V with
      | none => rfl
      | some R =>
        simp only
        by_cases h1 : packV fmt len blk R = V
        · simp only [h1, if_true, and_true]
        · simp only [h1, if_false, and_false]

/-- What the reference's read gives. -/
structure RRPost (w : World) (T : Except Int Con) (e : Ending) (w' : World) : Prop where
  good : ∀ c, T = .ok c → ∃ bv rv, e = .returned (.tuple #[bv, rv, .int .i64 c.ap, .int .i64 0]) ∧ w'.ownsRow w.heap.size 9 1 bv c.blk.length (c.blk.map sv) ∧ w'.ownsRow w.heap.size 9 1 rv c.recs.length (c.recs.map sv)
  bad : ∀ k, T = .error k → e = .returned (.tuple #[.slice none 0 0, .slice none 0 0, .int .i64 0, .int .i64 k])
  bel : Below w.heap.size w w'
theorem RRPost.no {w w' : World} {T : Except Int Con} {k : Int} (hT : T = .error k) (h : Below w.heap.size w w') : RRPost w T (.returned (.tuple #[.slice none 0 0, .slice none 0 0, .int .i64 0, .int .i64 k])) w' :=
  ⟨fun c hc => (by rw [hT] at hc; cases hc), fun k' hk => (by rw [hT] at hk; cases hk; rfl), h⟩
theorem RRPost.yes {w w' : World} {T : Except Int Con} {c : Con} {bv rv : Value} (hT : T = .ok c) (h1 : w'.ownsRow w.heap.size 9 1 bv c.blk.length (c.blk.map sv)) (h2 : w'.ownsRow w.heap.size 9 1 rv c.recs.length (c.recs.map sv)) (h : Below w.heap.size w w') :
    RRPost w T (.returned (.tuple #[bv, rv, .int .i64 c.ap, .int .i64 0])) w' :=
  ⟨fun c' hc => (by rw [hT] at hc; cases hc; exact ⟨_, _, rfl, h1, h2⟩), fun k' hk => (by rw [hT] at hk; cases hk), h⟩

/-- What the first loop of the reference's read holds. -/
structure RqSt (W0 : World) (l : List By) (n : Nat) (G : By × Int) (W : World) (j f : Nat) (s : By) : Prop where
  bel : Below W0.heap.size W0 W
  tot : G = gatP l n f (1 + j) s
  fuel : f + j = l.length + 1
  sz : s.length = 128 * j
  kl : j ≤ l.length
/-- What the second loop holds. -/
structure RcSt (W0 : World) (n : Nat) (s : By) (C : Option (List By)) (W : World) (k : Nat) (out : List By) (v : Value) : Prop where
  bel : Below W0.heap.size W0 W
  own : W.ownsRow W0.heap.size 9 1 v out.length (out.map sv)
  tot : ∃ f, C = (cutF f ((s.take n).drop k)).map (out ++ ·) ∧ ((s.take n).drop k).length ≤ f
  le : k ≤ n
  few : out.length ≤ k
theorem cutF_nil (f : Nat) : cutF f [] = some [] := by cases f <;> rfl
theorem RcSt.done {W0 W : World} {n k : Nat} {s : By} {C : Option (List By)} {out : List By} {v : Value} (h : RcSt W0 n s C W k out v) (hk : ¬ k < n) : C = some out := by
  obtain ⟨f, ht, _⟩ := h.tot
  rw [ht, List.drop_eq_nil_of_le (by rw [List.length_take]; omega), cutF_nil]; simp
theorem RcSt.short {W0 W : World} {n k : Nat} {s : By} {C : Option (List By)} {out : List By} {v : Value} (h : RcSt W0 n s C W k out v) (hn : n ≤ s.length) (hk : k < n) (h4 : n < k + 2) : C = none := by
  obtain ⟨f, ht, hf⟩ := h.tot
  have hl : ((s.take n).drop k).length = n - k := by rw [List.length_drop, List.length_take]; omega
  rw [ht]
  generalize (s.take n).drop k = r at *
  match r, f, hl, hf with
  | [], _, hl, _ => simp only [List.length_nil] at hl; omega
  | _ :: _, 0, _, hf => simp only [List.length_cons] at hf; omega
  | [_], f + 1, _, _ => rfl
  | _ :: _ :: _, _, hl, _ => simp only [List.length_cons] at hl; omega
theorem RcSt.step {W0 W : World} {n k : Nat} {s : By} {C : Option (List By)} {out : List By} {v : Value} (h : RcSt W0 n s C W k out v) (hn : n ≤ s.length) (hk : k + 2 ≤ n) :
    ∃ x y : UInt8, (∀ h, (ByteArray.mk s.toArray)[k]'h = x) ∧ (∀ h, (ByteArray.mk s.toArray)[k + 1]'h = y) ∧
      (n < k + 2 + (x.toNat + 256 * y.toNat) → C = none) ∧
      (k + 2 + (x.toNat + 256 * y.toNat) ≤ n → ∃ d : By, (ByteArray.mk s.toArray).extract (k + 2) (k + 2 + (x.toNat + 256 * y.toNat)) = ⟨d.toArray⟩ ∧
        ∃ f, C = (cutF f ((s.take n).drop (k + 2 + (x.toNat + 256 * y.toNat)))).map ((out ++ [d]) ++ ·) ∧ ((s.take n).drop (k + 2 + (x.toNat + 256 * y.toNat))).length ≤ f) := by
  obtain ⟨f, ht, hf⟩ := h.tot
  have hl : ((s.take n).drop k).length = n - k := by rw [List.length_drop, List.length_take]; omega
  obtain ⟨x, y, r, hr⟩ : ∃ x y r, (s.take n).drop k = x :: y :: r := by
    match hq : (s.take n).drop k with
    | [] => rw [hq] at hl; simp only [List.length_nil] at hl; omega
    | [_] => rw [hq] at hl; simp only [List.length_cons, List.length_nil] at hl; omega
    | x :: y :: r => exact ⟨x, y, r, rfl⟩
  have hrd : r = (s.take n).drop (k + 2) := by
    have : ((s.take n).drop k).drop 2 = r := by rw [hr]; rfl
    rw [← this, List.drop_drop]
  have g : ∀ i (hh : k + i < s.length), k + i < n → s[k + i]? = (x :: y :: r)[i]? := fun i hh hi => by
    rw [← hr, List.getElem?_drop, List.getElem?_take_of_lt hi]
  have q : ∀ (i : Nat) (hh : k + i < (ByteArray.mk s.toArray).size) (z : UInt8), k + i < n → (x :: y :: r)[i]? = some z → (ByteArray.mk s.toArray)[k + i]'hh = z := fun i hh z hi hz => by
    have h1 : k + i < s.length := by simpa [ByteArray.size] using hh
    have h2 := g i h1 hi
    rw [hz, List.getElem?_eq_getElem h1] at h2
    exact Option.some.inj h2
  have hrl : r.length = n - (k + 2) := by rw [hrd, List.length_drop, List.length_take]; omega
  rw [hr] at ht hf
  obtain ⟨f, rfl⟩ : ∃ g, f = g + 1 := ⟨f - 1, by simp only [List.length_cons] at hf; omega⟩
  simp only [List.length_cons] at hf
  rw [cutF] at ht
  refine ⟨x, y, fun hh => q 0 hh x (by omega) rfl, fun hh => q 1 hh y (by omega) rfl, fun hlt => ?_, fun hle => ⟨r.take (x.toNat + 256 * y.toNat), ?_, f, ?_, ?_⟩⟩
  · rw [ht, if_pos (by omega)]; rfl
  · apply ByteArray.ext
    rw [ByteArray.data_extract]
    apply Array.ext'
    simp only [Array.toList_extract, List.extract_eq_take_drop]
    rw [hrd, List.drop_take, List.take_take, Nat.add_sub_cancel_left, Nat.min_eq_left (by omega)]
  · rw [ht, if_neg (by omega), hrd, List.drop_drop]
    generalize cutF f _ = z
    cases z <;> simp
  · rw [← List.drop_drop, ← hrd, List.length_drop]; omega
end

section
open Go.RowKit Go.Sort
attribute [local go_sem] ByteArray.mk_append_mk strOfNums_size ext_drop ext_take
attribute [local go_sem ↓] loadDs_down

set_option maxRecDepth 100000 in
set_option maxHeartbeats 8000000 in
theorem rread_any (w : World) (B : Nat) (a : Option Addr) (cap : Nat) (l : List By) (fmt : Int) (len blk : Nat) (h : Strs w B a l) (hB : B ≤ w.heap.size) (hl : l.length ≤ 300) (hdv : dsV 0 fmt len blk = true) :
    Calls Tryz.prog 37 #[.agg (dsv 0 fmt len blk), .slice a l.length cap] w fun e w' => RRPost w (readV fmt len blk l) e w' := by
  obtain ⟨i0, hi0, hz0, hz1, hz2⟩ := info_parts info9
  obtain ⟨W0, hW0⟩ : ∃ W0, W0 = w.alloc (.cells (dsv 0 fmt len blk) 29) := ⟨_, rfl⟩
  have HB0 := Lib.hid (show Below w.heap.size w W0 by rw [hW0]; exact box_below w _ _)
  have HD0 := Lib.hid (show W0.heap[w.heap.size]? = some (.cells (dsv 0 fmt len blk) 29 (0, 0)) by rw [hW0]; exact heap_alloc_new w _)
  have HSZ := Lib.hid (show w.heap.size < W0.heap.size by rw [hW0]; simp)
  have HH := Lib.hid (rhead_read W0 B a cap l (h.below (HB0.out.mono hB)))
  have HW0 := Lib.hid hW0
  have HDV := Lib.hid hdv
  have HC0 := Lib.hid (h.below (HB0.out.mono hB))
  have HBW := Lib.hid (Nat.le_trans hB HB0.out.size)
  clear hW0 h
  have hT : readV fmt len blk l = if (headV l).2.2.2 ≠ 0 then .error (headV l).2.2.2 else
    if (gatP l (headV l).2.2.1 (l.length + 1) 1 []).2 ≠ 0 then .error (gatP l (headV l).2.2.1 (l.length + 1) 1 []).2 else
    readT fmt len blk (headV l).1 (headV l).2.1 (headV l).2.2.1 (gatP l (headV l).2.2.1 (l.length + 1) 1 []).1 := rfl
  generalize readV fmt len blk l = T at hT ⊢
  generalize headV l = hd at hT HH
  obtain ⟨ap, cnt, n, er⟩ := hd
  simp only at hT HH
  have HT := Lib.hid hT
  clear hT hdv
  by_cases he : er = 0
  rotate_left
  · have HTE := Lib.hid (show T = .error er by rw [HT.out, if_pos he])
    have e1 : (er == 0) = false := by simp [he]
    have e2 : (er != 0) = true := by simp [he]
    clear he HT
    go_enter Tryz.func37, Tryz.ntmps37
    go_wp2_with fail
    rw [← HW0.out]
    refine HH.out.mono ?_
    rintro e w2 ⟨rfl, hb2⟩
    have HB2 := Lib.hid (HB0.out.trans (hb2.mono HB0.out.size))
    clear hb2
    go_wp2_with fail
    refine bodyPost_ret4 rfl rfl rfl rfl rfl rfl ?_
    exact RRPost.no HTE.out HB2.out
  subst he
  go_enter Tryz.func37, Tryz.ntmps37
  go_wp2_with fail
  rw [← HW0.out]
  refine HH.out.mono ?_
  rintro e w2 ⟨rfl, hb2⟩
  have hT := HT.out
  rw [if_neg (by simp)] at hT
  have HS := Lib.hid (show RqSt W0 l n (gatP l n (l.length + 1) 1 []) w2 0 (l.length + 1) [] from ⟨hb2, rfl, by omega, rfl, by omega⟩)
  clear hb2 HT HH
  generalize gatP l n (l.length + 1) 1 [] = G at hT HS
  have HT := Lib.hid hT
  clear hT
  go_wp2_with fail
  go_loopw [12, 13, 14, 15] (fun v k _ _ wr => ∃ (j f : Nat) (s : By), k = .int .i64 j ∧ v = .string ⟨s.toArray⟩ ∧ RqSt W0 l n G wr j f s) (fun _ k _ _ _ => l.length + 1 - (intOf k).toNat)
  case atStart => exact ⟨0, l.length + 1, [], rfl, rfl, HS.out⟩
  case round =>
    clear HS
    obtain ⟨j, f, s, rfl, rfl, hS⟩ := hrel
    have HB := Lib.hid hS.bel
    have hkl := hS.kl
    have hsz := hS.sz
    obtain ⟨f', rfl⟩ : ∃ f', f = f' + 1 := ⟨f - 1, by have := hS.fuel; omega⟩
    have hfu := hS.fuel
    by_cases hlt : s.length < n
    · have hltI : (s.length : Int) < (n : Int) := by omega
      have hp := rpage_any wr B a cap l (1 + j) (HC0.out.below (hS.bel.mono HBW.out))
      rw [show ((1 + j : Nat) : Int) = 1 + (j : Int) by omega] at hp
      have HP := Lib.hid hp
      have hG := hS.tot
      rw [gatP, if_pos hlt] at hG
      have hok := fun he => pageV_ok (l := l) (n := 1 + j) he
      clear hS hlt hp
      by_cases hpe : (pageV l (1 + j)).2 = 0
      · obtain ⟨hp1, hp2⟩ := hok hpe
        rw [if_pos hpe] at hG
        rw [hpe] at HP
        generalize (pageV l (1 + j)).1 = p at hG HP hp1
        have hln : (s ++ p).length = s.length + p.length := List.length_append
        have HGG := Lib.hid (show G = gatP l n f' (1 + (j + 1)) (s ++ p) from hG)
        clear hpe hok hG
        have n1 : ¬ 9223372036854775807 < s.length + p.length := by omega
        go_wp2_with fail
        refine HP.out.mono ?_
        rintro e w3 ⟨rfl, rfl⟩
        go_wp2_with fail
        go_roundw
        case rel => exact ⟨j + 1, f', s ++ p, by go_num, rfl, ⟨HB.out, HGG.out, by omega, by omega, by omega⟩⟩
        case measure => simp [intOf]; omega
      · rw [if_neg hpe] at hG
        generalize (pageV l (1 + j)).1 = p at HP
        generalize (pageV l (1 + j)).2 = er at hG HP hpe
        have HT2 := Lib.hid (show T = .error er by rw [HT.out, hG, if_pos hpe])
        have e1 : (er == 0) = false := by simp [hpe]
        have e2 : (er != 0) = true := by simp [hpe]
        have HBF := Lib.hid (HB0.out.trans (HB.out.mono HB0.out.size))
        clear hpe hok hG
        go_wp2_with fail
        refine HP.out.mono ?_
        rintro e w3 ⟨rfl, rfl⟩
        go_wp2_with fail
        refine bodyPost_ret4 rfl rfl rfl rfl rfl rfl ?_
        exact RRPost.no HT2.out HBF.out
    · have hltI : (n : Int) ≤ (s.length : Int) := by omega
      have hltJ : ¬ (s.length : Int) < (n : Int) := by omega
      have hG := hS.tot
      rw [gatP, if_neg hlt] at hG
      subst hG
      have hT := HT.out
      rw [if_neg (by simp)] at hT
      replace hT : T = readT fmt len blk ap cnt n s := hT
      rw [readT_W] at hT
      have hs60 : s.length ≤ 40000 := by omega
      have hn : n ≤ s.length := by omega
      clear hS HT hlt hkl hsz hfu
      have hzr := fun W => rzero_any (s.drop n) W (by rw [List.length_drop]; omega)
      by_cases hz : s.drop n = zeros (s.drop n).length
      rotate_left
      · have HT2 := Lib.hid (show T = .error 11 by rw [hT, if_pos hz])
        rw [show decide (s.drop n = zeros (s.drop n).length) = false by simpa using hz] at hzr
        have HZ := Lib.hid hzr
        have HBF := Lib.hid (HB0.out.trans (HB.out.mono HB0.out.size))
        clear hz hT hzr
        go_wp2_with fail
        refine (HZ.out _).mono ?_
        rintro e w3 ⟨rfl, rfl⟩
        go_wp2_with fail
        refine bodyPost_ret4 rfl rfl rfl rfl rfl rfl ?_
        exact RRPost.no HT2.out HBF.out
      rw [if_neg (fun h => h hz)] at hT
      rw [show decide (s.drop n = zeros (s.drop n).length) = true by simpa using hz] at hzr
      have HZ := Lib.hid hzr
      have HTT := Lib.hid hT
      clear hz hT hzr
      have HCL := Lib.hid (fun V (hV : cutP (s.take n) = some V) => cutF_len _ _ V hV)
      have hS2 : RcSt W0 n s (cutP (s.take n)) (wr.alloc (.cells #[] 9)) 0 [] (.slice (some ⟨wr.heap.size, 0, none⟩) 0 0) := by
        refine ⟨HB.out.alloc HB.out.size _, lit0 9 rfl HB.out.size, ⟨(s.take n).length, ?_, by rw [List.drop_zero]; exact Nat.le_refl _⟩, Nat.zero_le _, Nat.zero_le _⟩
        rw [List.drop_zero]
        show cutF _ _ = _
        cases cutF (s.take n).length (s.take n) <;> rfl
      have HS2 := Lib.hid hS2
      clear hS2
      generalize cutP (s.take n) = C at HTT HCL HS2
      go_wp2_with fail
      refine (HZ.out _).mono ?_
      rintro e w3 ⟨rfl, rfl⟩
      go_wp2_with fail
      obtain ⟨wo, rfl⟩ : ∃ wo, wo = wr := ⟨wr, rfl⟩
      go_loopw [16, 17, 18] (fun o k _ wr => ∃ (j : Nat) (out : List By), k = .int .i64 j ∧ RcSt W0 n s C wr j out o) (fun _ k _ _ => n - (intOf k).toNat)
      case atStart => exact ⟨0, [], rfl, HS2.out⟩
      case round =>
        clear HS2 HZ
        obtain ⟨k, out, rfl, hS⟩ := hrel
        have HBR := Lib.hid hS.bel
        have HOR := Lib.hid hS.own
        have hkn := hS.le
        have hfw := hS.few
        have hol : out.length ≤ 40000 := by omega
        obtain ⟨oa, oc, rfl, _, _⟩ := newsAt_of_row hS.own
        have HBRF := Lib.hid (HB0.out.trans (HBR.out.mono HB0.out.size))
        by_cases hlt : k < n
        · have hltI : (k : Int) < (n : Int) := by omega
          by_cases h2 : n < k + 2
          · have HC := Lib.hid (hS.short hn hlt h2)
            have HT2 := Lib.hid (show T = .error 11 by rw [HTT.out, HC.out])
            have h2I : (n : Int) < (k : Int) + 2 := by omega
            have h2D : decide ((n : Int) < (k : Int) + 2) = true := decide_eq_true h2I
            clear hS
            go_wp2_with fail
            go_quiet (fail)
            go_wp2_with fail
            refine bodyPost_ret4 rfl rfl rfl rfl rfl rfl ?_
            exact RRPost.no HT2.out (below_drewN HBRF.out _)
          · have h2I : ¬ (n : Int) < (k : Int) + 2 := by omega
            have h2D : decide ((n : Int) < (k : Int) + 2) = false := decide_eq_false h2I
            obtain ⟨x, y, hx0, hx1, hbad, hgood⟩ := hS.step hn (by omega)
            have hxl := x.toNat_lt
            have hyl := y.toNat_lt
            have hm0 : (x.toNat : Int) + 256 * (y.toNat : Int) = ((x.toNat + 256 * y.toNat : Nat) : Int) := by simp
            have m1 : IntKind.i64.wrap (x.toNat : Int) = (x.toNat : Int) := IntWalk.i64_in _ (by omega)
            have m2 : IntKind.i64.wrap (y.toNat : Int) = (y.toNat : Int) := IntWalk.i64_in _ (by omega)
            have m3 : IntKind.i64.wrap (256 * (y.toNat : Int)) = 256 * (y.toNat : Int) := IntWalk.i64_in _ (by omega)
            have hm65 : x.toNat + 256 * y.toNat ≤ 65535 := by omega
            generalize x.toNat + 256 * y.toNat = m at hm0 hbad hgood hm65
            have m4 : IntKind.i64.wrap ((x.toNat : Int) + 256 * (y.toNat : Int)) = (m : Int) := by rw [hm0]; exact IntWalk.i64_in _ (by omega)
            have m5 : IntKind.i64.wrap ((k : Int) + 2 + (x.toNat : Int)) = (k : Int) + 2 + (x.toNat : Int) := IntWalk.i64_in _ (by omega)
            have m6 : IntKind.i64.wrap ((k : Int) + 2 + (x.toNat : Int) + 256 * (y.toNat : Int)) = (k : Int) + 2 + (m : Int) := by rw [IntWalk.i64_in _ (by omega)]; omega
            have i1 : k < s.length := by omega
            have i2 : k + 1 < s.length := by omega
            have j2 : (k : Int) + 1 < (s.length : Int) := by omega
            have y2 : (0 : Int) ≤ (k : Int) + 1 := by omega
            have x2 : ((k : Int) + 1).toNat = k + 1 := by omega
            have HBAD := Lib.hid hbad
            have HGOOD := Lib.hid hgood
            clear hS hbad hgood h2
            by_cases hbd : n < k + 2 + m
            · have HC := Lib.hid (HBAD.out hbd)
              have HT2 := Lib.hid (show T = .error 11 by rw [HTT.out, HC.out])
              have hbI : (n : Int) < (k : Int) + 2 + (m : Int) := by omega
              have hbD : decide ((n : Int) < (k : Int) + 2 + (m : Int)) = true := decide_eq_true hbI
              clear hbd
              go_wp2_with fail
              go_quiet (fail)
              go_wp2_with fail
              refine bodyPost_ret4 rfl rfl rfl rfl rfl rfl ?_
              exact RRPost.no HT2.out (below_drewN HBRF.out _)
            · have hbI : ¬ (n : Int) < (k : Int) + 2 + (m : Int) := by omega
              have hbD : decide ((n : Int) < (k : Int) + 2 + (m : Int)) = false := decide_eq_false hbI
              obtain ⟨d, hd, f, hC, hf⟩ := HGOOD.out (by omega)
              have HCC := Lib.hid hC
              have HF := Lib.hid hf
              clear hbd hC hf HBAD HGOOD
              go_wp2_with fail
              go_quiet (fail)
              have HBQ := Lib.hid (below_drewN HBR.out nq)
              have HOQ := Lib.hid (own_below HOR.out (below_drewN (Below.refl wr.heap.size wr) nq))
              obtain ⟨W, hW⟩ : ∃ W, W = wr.drewN nq := ⟨_, rfl⟩
              rw [← hW] at HBQ HOQ ⊢
              clear hW
              go_wp2_with fail
              go_quiet (fail)
              have HBQ2 := Lib.hid (below_drewN HBQ.out nq)
              have HOQ2 := Lib.hid (own_below HOQ.out (below_drewN (Below.refl W.heap.size W) nq))
              obtain ⟨W2, hW2⟩ : ∃ W2, W2 = W.drewN nq := ⟨_, rfl⟩
              rw [← hW2] at HBQ2 HOQ2 ⊢
              clear hW2
              have ho := HOQ2.out
              have q1 : (0 : Int) ≤ (k : Int) + 2 := by omega
              have q2 : (k : Int) + 2 ≤ (k : Int) + 2 + (m : Int) := by omega
              have q3 : (k : Int) + 2 + (m : Int) ≤ (s.length : Int) := by omega
              have q4 : k + 2 + m ≤ n := by omega
              have hon : (out ++ [d]).length = out.length + 1 := by simp
              go_wp2_with (refine wpList_append_own _ rfl _ _ 24 rfl W0.heap.size 9 i0 (.string ByteArray.empty) 1 16 Tryz.underlying24 hi0 hz0 hz1 hz2 rfl (by decide) _ _ _ rfl (ho.alloc _) _ 1 1 [.string ⟨d.toArray⟩] rfl rfl ?e11 ?e21 ?e31 ?e41 ?e51 ?_)
              try (case e11 => exact news_at (cs := #[.string ⟨d.toArray⟩]) (heap_alloc_new _ _))
              try (case e21 => simp [Value.oneCell'])
              try (case e31 => unfold maxLen; (try simp) <;> omega)
              try (case e41 => (try simp) <;> omega)
              try (case e51 => have := HBQ2.out.size; simp; omega)
              intro v6 w6 hown6 hg6 _
              have hbA := HBQ2.out.alloc HBQ2.out.size (.cells #[.string ⟨d.toArray⟩] 9)
              have hb6 := hbA.grown hg6 hbA.size (fun k hk => row_own ho hk)
              have hown7 : w6.ownsRow W0.heap.size 9 1 v6 (out ++ [d]).length ((out ++ [d]).map sv) := by simpa [sv] using hown6
              have HZ := Lib.hid (show RcSt W0 n s C w6 (k + 2 + m) (out ++ [d]) v6 from ⟨hb6, hown7, ⟨f, HCC.out, HF.out⟩, q4, by omega⟩)
              clear ho hown6 hown7 hg6 hbA hb6 hon
              go_wp2_with fail
              go_roundw
              case rel => exact ⟨k + 2 + m, _, by go_num, HZ.out⟩
              case measure => simp [intOf]; omega
        · have hC := hS.done hlt
          have hcl := HCL.out out hC
          rw [List.length_take] at hcl
          have hT := HTT.out
          rw [hC] at hT
          replace hT : T = match unpW fmt len blk out with
            | none => .error 11
            | some R => if R.length = cnt then .ok ⟨ap, R, out, s.take n⟩ else .error 11 := hT
          have hltI2 : ¬ (k : Int) < (n : Int) := by omega
          have dl := loadDs_at ((HBR.out.block w.heap.size HSZ.out).trans HD0.out) rfl
          obtain ⟨_, _, hve, _, hOS⟩ := newsAt_of_row HOR.out
          rw [← (Value.slice.inj hve).1] at hOS
          have hun := runpack_any fmt wr wr.heap.size oa oc out len blk hOS (Nat.le_refl _) (by omega) (by omega) HDV.out
          clear hS hC hlt hve hOS
          generalize unpW fmt len blk out = U at hT hun
          have HU := Lib.hid hun
          clear hun
          go_wp2_with fail
          refine HU.out.mono ?_
          rintro e w3 hP
          have HB3 := Lib.hid (HB0.out.trans ((HBR.out.trans (hP.bel.mono HBR.out.size)).mono HB0.out.size))
          cases U with
          | none =>
            have HT2 := Lib.hid (show T = .error 11 from hT)
            obtain rfl := hP.bad rfl
            clear hP dl hT
            go_wp2_with fail
            refine bodyPost_ret4 rfl rfl rfl rfl rfl rfl ?_
            exact RRPost.no HT2.out HB3.out
          | some R =>
            obtain ⟨v3, rfl, ho3⟩ := hP.good R rfl
            have HO3 := Lib.hid (own_mono (own_below HOR.out hP.bel) HB0.out.size)
            have HR3 := Lib.hid (own_mono ho3 (Nat.le_trans HB0.out.size HBR.out.size))
            obtain ⟨ra, rc, rfl, _, _⟩ := newsAt_of_row ho3
            clear hP dl ho3
            replace hT : T = if R.length = cnt then .ok ⟨ap, R, out, s.take n⟩ else .error 11 := hT
            by_cases hc : R.length = cnt
            · have HT2 := Lib.hid (show T = .ok ⟨ap, R, out, s.take n⟩ by rw [hT, if_pos hc])
              have e1 : ((R.length : Int) == (cnt : Int)) = true := by simp [hc]
              have e2 : ((R.length : Int) != (cnt : Int)) = false := by simp [hc]
              clear hT hc
              go_wp2_with fail
              refine bodyPost_ret4 rfl rfl rfl rfl rfl rfl ?_
              exact RRPost.yes HT2.out HO3.out HR3.out HB3.out
            · have HT2 := Lib.hid (show T = .error 11 by rw [hT, if_neg hc])
              have e1 : ((R.length : Int) == (cnt : Int)) = false := by simp; omega
              have e2 : ((R.length : Int) != (cnt : Int)) = true := by simp; omega
              clear hT hc
              go_wp2_with fail
              refine bodyPost_ret4 rfl rfl rfl rfl rfl rfl ?_
              exact RRPost.no HT2.out HB3.out
end

end Go.Proofs.YthkpcalopmddpaaGreatDoor
