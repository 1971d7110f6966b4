/-
  Walks: the place of a record, by the reference; the blocks of a data set, by the program. Conditions: few records; the table of codes is laid.
  Walks: Blocks and Records, by the reference. Condition: at most 300 sectors.
  Walks: Get and Next, by the reference. Condition: at most 300 sectors.
-/
import Derived.Test.YthkpcalopmddpaaGreatDoorT51
import Derived.Test.YthkpcalopmddpaaGreatDoorGR
import Derived.Test.YthkpcalopmddpaaGreatDoorHD
import Derived.Test.YthkpcalopmddpaaGreatDoorT52
namespace Go.Proofs.YthkpcalopmddpaaGreatDoor

section
open Go.RowKit Go.Sort

/-- The last bytes of a number, from the front. -/
def plS (n : Nat) : Nat → By
  | 0 => []
  | i + 1 => b8 (n / 256 ^ i % 256) :: plS n i
theorem plS_plc (n : Nat) : plS n 8 = plc n := by simp [plS, plc, List.range, List.range.loop]
theorem plS_len (n : Nat) : ∀ i, (plS n i).length = i
  | 0 => rfl
  | i + 1 => by simp [plS, plS_len n i]

section
attribute [local go_sem] ByteArray.mk_append_mk strOfNums_size
set_option maxRecDepth 100000 in
set_option maxHeartbeats 2000000 in
theorem rplace_any (n : Nat) (w : World) (hn : n ≤ 1000000000) :
    Calls Tryz.prog 40 #[.int .i64 n] w fun e w' => e = .returned (.string ⟨(plc n).toArray⟩) ∧ Below w.heap.size w w' := by
  rw [← plS_plc]
  go_enter Tryz.func40, Tryz.ntmps40
  go_wp2_with fail
  go_loopw [0, 3, 4] (fun x v k wr => ∃ i : Nat, i ≤ 8 ∧ k = .int .i64 i ∧ x = .int .i64 ((n / 256 ^ i : Nat) : Int) ∧ v = .string ⟨(plS n i).toArray⟩ ∧ Below w.heap.size w wr) (fun _ _ k _ => 8 - (intOf k).toNat)
  case atStart => exact ⟨0, by omega, rfl, by simp, rfl, Below.refl _ _⟩
  case round =>
    obtain ⟨i, hi, rfl, rfl, rfl, hb⟩ := hrel
    have HB := Lib.hid hb
    have hq : n / 256 ^ i ≤ 1000000000 := Nat.le_trans (Nat.div_le_self _ _) hn
    by_cases hlt : i < 8
    · have HN := Lib.hid (show plS n (i + 1) = b8 (n / 256 ^ i % 256) :: plS n i from rfl)
      have HD := Lib.hid (show n / 256 ^ (i + 1) = n / 256 ^ i / 256 by rw [Nat.pow_succ, Nat.div_div_eq_div_mul])
      have hpl := plS_len n i
      generalize n / 256 ^ i = q at hq HN HD ⊢
      generalize plS n i = s at HN hpl ⊢
      have m1 : (q : Int).tmod 256 = ((q % 256 : Nat) : Int) := by rw [Int.tmod_eq_emod_of_nonneg (by omega)]; omega
      have m2 : (q : Int).tdiv 256 = ((q / 256 : Nat) : Int) := by rw [Int.tdiv_eq_ediv_of_nonneg (by omega)]; omega
      have m3 : (q : Int) % 256 = ((q % 256 : Nat) : Int) := by omega
      have m4 : (q : Int) / 256 = ((q / 256 : Nat) : Int) := by omega
      have hr : q % 256 ≤ 255 := by omega
      have hd : q / 256 ≤ 1000000000 := by omega
      have HDD := Lib.hid (show (n / 256 ^ (i + 1) : Nat) = q / 256 from HD.out)
      generalize q / 256 = p at m2 m4 hd HDD
      generalize hrr : q % 256 = r at m1 m3 hr HN
      have m5 : IntKind.u8.wrap (r : Int) = (r : Int) := by rw [IntKind.wrap_u8]; omega
      have m6 : IntKind.i64.wrap (p : Int) = (p : Int) := IntWalk.i64_in _ (by omega)
      have m7 : IntKind.i64.wrap (r : Int) = (r : Int) := IntWalk.i64_in _ (by omega)
      have hcv : (convert 69 9 (.slice (some ⟨wr.heap.size, 0, none⟩) 1 1)).run Tryz.prog (wr.alloc (.cells #[.int .u8 (r : Int)] 5)) = .ok (.string ⟨([b8 r] : By).toArray⟩) (wr.alloc (.cells #[.int .u8 (r : Int)] 5)) := by
        have h1 := conv_at1 (heap_alloc_new wr (.cells #[.int .u8 (r : Int)] 5))
        rw [str_n] at h1; exact h1
      have n1 : ¬ 9223372036854775807 < ([b8 r] : By).length + s.length := by simp; omega
      have HBF := Lib.hid (HB.out.alloc HB.out.size (.cells #[.int .u8 (r : Int)] 5))
      clear hb hrr HD
      have HAP := Lib.hid (show [b8 r] ++ s = b8 r :: s from rfl)
      generalize hz : ([b8 r] : By) = z at hcv n1 HAP
      clear hz
      go_wp2_with fail
      go_roundw
      case rel => exact ⟨i + 1, by omega, by go_num, by rw [HDD.out], by rw [HN.out, HAP.out], HBF.out⟩
      case measure => simp [intOf]; omega
    · have h8 : i = 8 := by omega
      subst h8
      clear hb
      go_wp2_with fail
      go_ret
      exact ⟨rfl, HB.out⟩
end

def blksT : Except Int Con → Except Int (List By)
  | .ok c => .ok c.blk
  | .error k => .error k

set_option maxRecDepth 100000 in
set_option maxHeartbeats 1000000 in
theorem blocks_any (org fmt len blk : Int) (w : World) (B : Nat) (a : Option Addr) (cap : Nat) (l : List By) (h : Strs w B a l) (hB : B ≤ w.heap.size) (hl : l.length ≤ 300) (hc0 : Codes w) :
    Calls Tryz.prog 11 #[.agg (dsv org fmt len blk), pgv a l.length cap] w fun e w' => LPost w (blksT (openV org fmt len blk l)) e w' := by
  have HD0 := Lib.hid (heap_alloc_new w (.cells (dsv org fmt len blk) 29))
  have HB0 := Lib.hid (box_below w (dsv org fmt len blk) 29)
  have HRD := Lib.hid (fun W b1 b2 b3 => open_any org fmt len blk W B a cap l b1 b2 hl b3)
  generalize openV org fmt len blk l = T at HRD ⊢
  go_enter Tryz.func11, Tryz.ntmps11
  go_wp2_with (refine wpList_load_row rfl _ _ rfl w.heap.size rfl 29 (dsv org fmt len blk) (0, 0) _ HD0.out Tryz.underlying29 rfl (by rw [info_ds]; rfl) ?_)
  refine (HRD.out _ (h.below (HB0.out.mono hB)) (Nat.le_trans hB HB0.out.size) (hc0.below HB0.out hc0.pos)).mono ?_
  rintro e w3 hP
  have HB3 := Lib.hid (HB0.out.trans (hP.bel.mono HB0.out.size))
  obtain ⟨ap, rv, bv, s, k, rfl, hv1, hv2, hk⟩ := hP.any
  have H1 := Lib.hid (show (#[.int .i64 ap, rv, bv, .string s] : Array Value).all (·.oneCell') = true from con_one hv1 hv2)
  have HK := Lib.hid hk
  have hz : w.heap.size ≤ (w.alloc (.cells (dsv org fmt len blk) 29)).heap.size := HB0.out.size
  clear hP hk hv1 hv2
  obtain ⟨W4, hW4⟩ : ∃ W4, W4 = (w3.alloc (.cells coz 77)).setRow w3.heap.size #[.int .i64 ap, rv, bv, .string s] := ⟨_, rfl⟩
  have hg4 : W4.heap[w3.heap.size]? = some (.cells #[.int .i64 ap, rv, bv, .string s] 77 (0, 0)) := by rw [hW4]; exact setRow_heap _ _ _ _ _ _ (heap_alloc_new _ _)
  have c1 := cell_at (i := 2) (v := bv) hg4 rfl
  have HB4 := Lib.hid (show Below w.heap.size w W4 by rw [hW4]; exact Below.setRow (HB3.out.alloc HB3.out.size _) HB3.out.size _)
  have HB5 := Lib.hid (show Below w3.heap.size w3 W4 by rw [hW4]; exact Below.setRow (box_below _ _ _) (Nat.le_refl _) _)
  have HW4 := Lib.hid hW4
  clear hg4 hW4
  go_wp2_with (
    refine wpList_store_rowTo rfl _ _ _ rfl rfl w3.heap.size #[.int .i64 ap, rv, bv, .string s] rfl rfl 77 coz (heap_alloc_new _ _) (by rw [info_con]; rfl) rfl H1.out ?_
    rw [← HW4.out])
  go_ret2
  refine ⟨⟨_, _, rfl, ?_⟩, HB4.out⟩
  rcases HK.out with ⟨c, rfl, rfl, rfl, rfl, h1, h2⟩ | ⟨rfl, rfl, rfl, rfl, rfl⟩
  · exact Or.inl ⟨_, rfl, rfl, own_below (own_mono h2 hz) HB5.out⟩
  · exact Or.inr ⟨rfl, rfl⟩
end

section
open Go.RowKit Go.Sort
attribute [local go_sem ↓] loadDs_down

theorem RRPost.any {w w' : World} {T : Except Int Con} {e : Ending} (h : RRPost w T e w') : ∃ bv rv ap k, e = .returned (.tuple #[bv, rv, .int .i64 ap, .int .i64 k]) ∧
    ((∃ c, T = .ok c ∧ k = 0 ∧ ap = c.ap ∧ w'.ownsRow w.heap.size 9 1 bv c.blk.length (c.blk.map sv) ∧ w'.ownsRow w.heap.size 9 1 rv c.recs.length (c.recs.map sv)) ∨ (T = .error k ∧ bv = .slice none 0 0 ∧ rv = .slice none 0 0)) := by
  cases T with
  | error k => exact ⟨_, _, _, _, h.bad k rfl, Or.inr ⟨rfl, rfl, rfl⟩⟩
  | ok c => obtain ⟨bv, rv, h1, h2, h3⟩ := h.good c rfl; exact ⟨bv, rv, _, 0, h1, Or.inl ⟨c, rfl, rfl, rfl, h2, h3⟩⟩

set_option maxRecDepth 100000 in
set_option maxHeartbeats 1000000 in
theorem rblocks_any (org fmt len blk : Int) (w : World) (B : Nat) (a : Option Addr) (cap : Nat) (l : List By) (h : Strs w B a l) (hB : B ≤ w.heap.size) (hl : l.length ≤ 300) :
    Calls Tryz.prog 12 #[.agg (dsv org fmt len blk), .slice a l.length cap] w fun e w' => LPost w (blksT (openV org fmt len blk l)) e w' := by
  have HD0 := Lib.hid (heap_alloc_new w (.cells (dsv org fmt len blk) 29))
  have HB0 := Lib.hid (box_below w (dsv org fmt len blk) 29)
  have hrv := fun W => rvalid_any org fmt len blk W
  cases hd : dsV org fmt len blk
  · rw [hd] at hrv
    have hO : openV org fmt len blk l = .error 1 := by unfold openV; rw [if_neg (by rw [hd]; simp)]
    rw [hO]
    have HV := Lib.hid hrv
    have dl := loadDs_at HD0.out rfl
    clear hrv hd hO
    go_enter Tryz.func12, Tryz.ntmps12
    go_wp2_with fail
    refine (HV.out _).mono ?_
    rintro e w1 ⟨rfl, hb1⟩
    have HB1 := Lib.hid (HB0.out.trans (hb1.mono HB0.out.size))
    clear hb1 dl
    go_wp2_with fail
    go_ret2
    exact ⟨⟨_, _, rfl, Or.inr ⟨rfl, rfl⟩⟩, HB1.out⟩
  · rw [hd] at hrv
    have hO : openV org fmt len blk l = readV fmt len.toNat blk.toNat l := by unfold openV; rw [if_pos hd]
    rw [hO]
    obtain ⟨rfl, h1, h2⟩ := ds_pos hd
    obtain ⟨len', rfl⟩ := Int.eq_ofNat_of_zero_le h1
    obtain ⟨blk', rfl⟩ := Int.eq_ofNat_of_zero_le h2
    simp only [Int.toNat_natCast] at hO ⊢
    have HV := Lib.hid hrv
    have HR := Lib.hid (fun W b1 b2 => rread_any W B a cap l fmt len' blk' b1 b2 hl hd)
    generalize readV fmt len' blk' l = T at HR ⊢
    have dl := loadDs_at HD0.out rfl
    clear hrv hd hO h1 h2
    go_enter Tryz.func12, Tryz.ntmps12
    go_wp2_with fail
    refine (HV.out _).mono ?_
    rintro e w1 ⟨rfl, hb1⟩
    have HB1 := Lib.hid (HB0.out.trans (hb1.mono HB0.out.size))
    have HD1 := Lib.hid ((hb1.block w.heap.size (lt_of_block HD0.out)).trans HD0.out)
    clear hb1 dl
    have dl := loadDs_at HD1.out rfl
    go_wp2_with fail
    refine (HR.out _ (h.below (HB1.out.mono hB)) (Nat.le_trans hB HB1.out.size)).mono ?_
    rintro e w2 hP
    have HB2 := Lib.hid (HB1.out.trans (hP.bel.mono HB1.out.size))
    obtain ⟨bv, rv, ap, k, rfl, hk⟩ := hP.any
    have HK := Lib.hid hk
    clear hP hk dl
    go_wp2_with fail
    go_ret2
    refine ⟨⟨_, _, rfl, ?_⟩, HB2.out⟩
    rcases HK.out with ⟨c, rfl, rfl, rfl, h1, h2⟩ | ⟨rfl, rfl, rfl⟩
    · exact Or.inl ⟨_, rfl, rfl, own_mono h1 HB1.out.size⟩
    · exact Or.inr ⟨rfl, rfl⟩

set_option maxRecDepth 100000 in
set_option maxHeartbeats 1000000 in
theorem rrecords_any (org fmt len blk : Int) (w : World) (B : Nat) (a : Option Addr) (cap : Nat) (l : List By) (h : Strs w B a l) (hB : B ≤ w.heap.size) (hl : l.length ≤ 300) :
    Calls Tryz.prog 14 #[.agg (dsv org fmt len blk), .slice a l.length cap] w fun e w' => LPost w (recsT (openV org fmt len blk l)) e w' := by
  have HD0 := Lib.hid (heap_alloc_new w (.cells (dsv org fmt len blk) 29))
  have HB0 := Lib.hid (box_below w (dsv org fmt len blk) 29)
  have hrv := fun W => rvalid_any org fmt len blk W
  cases hd : dsV org fmt len blk
  · rw [hd] at hrv
    have hO : openV org fmt len blk l = .error 1 := by unfold openV; rw [if_neg (by rw [hd]; simp)]
    rw [hO]
    have HV := Lib.hid hrv
    have dl := loadDs_at HD0.out rfl
    clear hrv hd hO
    go_enter Tryz.func14, Tryz.ntmps14
    go_wp2_with fail
    refine (HV.out _).mono ?_
    rintro e w1 ⟨rfl, hb1⟩
    have HB1 := Lib.hid (HB0.out.trans (hb1.mono HB0.out.size))
    clear hb1 dl
    go_wp2_with fail
    go_ret2
    exact ⟨⟨_, _, rfl, Or.inr ⟨rfl, rfl⟩⟩, HB1.out⟩
  · rw [hd] at hrv
    have hO : openV org fmt len blk l = readV fmt len.toNat blk.toNat l := by unfold openV; rw [if_pos hd]
    rw [hO]
    obtain ⟨rfl, h1, h2⟩ := ds_pos hd
    obtain ⟨len', rfl⟩ := Int.eq_ofNat_of_zero_le h1
    obtain ⟨blk', rfl⟩ := Int.eq_ofNat_of_zero_le h2
    simp only [Int.toNat_natCast] at hO ⊢
    have HV := Lib.hid hrv
    have HR := Lib.hid (fun W b1 b2 => rread_any W B a cap l fmt len' blk' b1 b2 hl hd)
    generalize readV fmt len' blk' l = T at HR ⊢
    have dl := loadDs_at HD0.out rfl
    clear hrv hd hO h1 h2
    go_enter Tryz.func14, Tryz.ntmps14
    go_wp2_with fail
    refine (HV.out _).mono ?_
    rintro e w1 ⟨rfl, hb1⟩
    have HB1 := Lib.hid (HB0.out.trans (hb1.mono HB0.out.size))
    have HD1 := Lib.hid ((hb1.block w.heap.size (lt_of_block HD0.out)).trans HD0.out)
    clear hb1 dl
    have dl := loadDs_at HD1.out rfl
    go_wp2_with fail
    refine (HR.out _ (h.below (HB1.out.mono hB)) (Nat.le_trans hB HB1.out.size)).mono ?_
    rintro e w2 hP
    have HB2 := Lib.hid (HB1.out.trans (hP.bel.mono HB1.out.size))
    obtain ⟨bv, rv, ap, k, rfl, hk⟩ := hP.any
    have HK := Lib.hid hk
    clear hP hk dl
    go_wp2_with fail
    go_ret2
    refine ⟨⟨_, _, rfl, ?_⟩, HB2.out⟩
    rcases HK.out with ⟨c, rfl, rfl, rfl, h1, h2⟩ | ⟨rfl, rfl, rfl⟩
    · exact Or.inl ⟨_, rfl, rfl, own_mono h2 HB1.out.size⟩
    · exact Or.inr ⟨rfl, rfl⟩
end

section
open Go.RowKit Go.Sort
attribute [local go_sem ↓] loadDs_down

theorem str_gtr3 (t : TypeId) (a b : By) : binOp .gtr t (.string ⟨a.toArray⟩) (.string ⟨b.toArray⟩) = pure (.bool (gtrB b a)) := by rw [str_gtr]; unfold gtrB; simp
theorem str_eql3 (t : TypeId) (a b : By) : binOp .eql t (.string ⟨a.toArray⟩) (.string ⟨b.toArray⟩) = pure (.bool (eqlB b a)) := by unfold eqlB; simp [binOp, Op.stringOp]
attribute [local go_sem] str_gtr str_leq
theorem findV_step (p : By → Bool) (j : Nat) (L : List By) (h : j < L.length) : findV p j (L.drop j) = if p (plc (1 + j)) = true then some (plc (1 + j), L[j]) else findV p (j + 1) (L.drop (j + 1)) := by
  rw [List.drop_eq_getElem_cons h]; rfl
theorem openV_few {org fmt len blk : Int} {l : List By} {c : Con} (hl : l.length ≤ 300) (hc : openV org fmt len blk l = .ok c) : c.recs.length ≤ 40000 := by
  unfold openV at hc
  split at hc
  · rename_i hd
    obtain ⟨rfl, h1, h2⟩ := ds_pos hd
    obtain ⟨len', rfl⟩ := Int.eq_ofNat_of_zero_le h1
    obtain ⟨blk', rfl⟩ := Int.eq_ofNat_of_zero_le h2
    have := (readV_ok hd hc).few
    omega
  · cases hc

set_option maxRecDepth 100000 in
set_option maxHeartbeats 4000000 in
theorem rget_any (org fmt len blk : Int) (w : World) (B : Nat) (a : Option Addr) (cap : Nat) (l : List By) (key : By) (h : Strs w B a l) (hB : B ≤ w.heap.size) (hl : l.length ≤ 300) :
    Calls Tryz.prog 17 #[.agg (dsv org fmt len blk), .slice a l.length cap, .string ⟨key.toArray⟩] w fun e w' =>
      e = .returned (.tuple #[.string ⟨(srchV (eqlB key) (openV org fmt len blk l)).2.1.toArray⟩, .int .i64 (srchV (eqlB key) (openV org fmt len blk l)).2.2]) ∧ Below w.heap.size w w' := by
  have HD0 := Lib.hid (heap_alloc_new w (.cells (dsv org fmt len blk) 29))
  have HB0 := Lib.hid (box_below w (dsv org fmt len blk) 29)
  have HR := Lib.hid (fun W b1 b2 => rrecords_any org fmt len blk W B a cap l b1 b2 hl)
  have HFW := Lib.hid (fun c (hc : openV org fmt len blk l = .ok c) => openV_few hl hc)
  have HER := Lib.hid (fun k (hk : openV org fmt len blk l = .error k) => openV_err hk)
  generalize openV org fmt len blk l = T at HR HFW HER ⊢
  have dl := loadDs_at HD0.out rfl
  go_enter Tryz.func17, Tryz.ntmps17
  go_wp2_with fail
  refine (HR.out _ (h.below (HB0.out.mono hB)) (Nat.le_trans hB HB0.out.size)).mono ?_
  rintro e w1 hP
  have HB1 := Lib.hid (HB0.out.trans (hP.bel.mono HB0.out.size))
  obtain ⟨v, k, rfl, hk⟩ := hP.any
  clear hP dl
  cases T with
  | error k' =>
    obtain ⟨rfl, rfl⟩ : k' = k ∧ v = .slice none 0 0 := by
      rcases hk with ⟨L, h1, _⟩ | ⟨h1, h2⟩
      · cases h1
      · exact ⟨Except.error.inj h1, h2⟩
    have hk0 := HER.out _ rfl
    have e1 : (k' == 0) = false := by simp [hk0]
    have e2 : (k' != 0) = true := by simp [hk0]
    have HS := Lib.hid (show srchV (eqlB key) (.error k') = ([], [], k') from rfl)
    clear hk hk0
    go_wp2_with fail
    go_ret2
    rw [HS.out]
    exact ⟨rfl, HB1.out⟩
  | ok c =>
    obtain ⟨rfl, ho⟩ : k = 0 ∧ w1.ownsRow (w.alloc (.cells (dsv org fmt len blk) 29)).heap.size 9 1 v c.recs.length (c.recs.map sv) := by
      rcases hk with ⟨L, h1, h2, h3⟩ | ⟨h1, h2⟩
      · obtain rfl := Except.ok.inj h1; exact ⟨h2, h3⟩
      · cases h1
    have hfw := HFW.out c rfl
    have hF : srchV (eqlB key) (.ok c) = match findV (eqlB key) 0 c.recs with
      | some x => (x.1, x.2, 0)
      | none => ([], [], 6) := rfl
    generalize c.recs = L at ho hfw hF
    obtain ⟨ra, rc, rfl, _, hLS⟩ := newsAt_of_row ho
    have hF0 : findV (eqlB key) 0 L = findV (eqlB key) 0 (L.drop 0) := rfl
    generalize findV (eqlB key) 0 L = FV at hF hF0
    have HF := Lib.hid hF
    have HF0 := Lib.hid hF0
    have HLS := Lib.hid hLS
    clear hk ho hF hF0 hLS HFW HER
    go_wp2_with fail
    go_loopw [10] (fun k wr => ∃ j : Nat, j ≤ L.length ∧ k = .int .i64 j ∧ FV = findV (eqlB key) j (L.drop j) ∧ Below w1.heap.size w1 wr) (fun k _ => L.length - (intOf k).toNat)
    case atStart => exact ⟨0, by omega, rfl, HF0.out, Below.refl _ _⟩
    case round =>
      clear HF0
      obtain ⟨j, hj, rfl, hFV, hb⟩ := hrel
      have HB := Lib.hid hb
      have HBF := Lib.hid (HB1.out.trans (hb.mono HB1.out.size))
      by_cases hlt : j < L.length
      · obtain ⟨b, off, rfl, hbb, hc⟩ := HLS.out.get hlt
        have hcw := (hb.cell (p := ⟨b, off + j, none⟩) hbb).trans hc
        rw [findV_step _ _ _ hlt] at hFV
        have hpl := fun W => rplace_any (1 + j) W (by omega)
        rw [show ((1 + j : Nat) : Int) = 1 + (j : Int) by omega] at hpl
        clear hb hc
        generalize L[j] = r at hFV hcw
        generalize plc (1 + j) = pk at hFV hpl
        have HPL := Lib.hid hpl
        clear hpl
        by_cases hp : eqlB key pk = true
        · rw [if_pos hp] at hFV
          have hpb : (pk == key) = true := hp
          clear hp
          have HS := Lib.hid (show srchV (eqlB key) (.ok c) = (pk, r, 0) by rw [HF.out, hFV])
          clear hFV
          go_wp2_with fail
          refine (HPL.out _).mono ?_
          rintro e w2 ⟨rfl, hb2⟩
          have HB2 := Lib.hid (HBF.out.trans (hb2.mono HBF.out.size))
          have hc2 := (hb2.cell (p := ⟨b, off + j, none⟩) (block_lt_of_cell hcw)).trans hcw
          clear hb2
          go_wp2_with fail
          go_ret2
          rw [HS.out]
          exact ⟨rfl, HB2.out⟩
        · rw [if_neg hp] at hFV
          have HN := Lib.hid hFV
          clear hFV
          have hpb : (pk == key) = false := by simpa [eqlB] using hp
          all_goals clear hp
          all_goals
            go_wp2_with fail
            refine (HPL.out _).mono ?_
            rintro e w2 ⟨rfl, hb2⟩
            have HB2 := Lib.hid (HB.out.trans (hb2.mono HB.out.size))
            clear hb2
            go_wp2_with fail
            go_roundw
            case rel => exact ⟨j + 1, by omega, by go_num, HN.out, HB2.out⟩
            case measure => simp [intOf]; omega
      · have hn : FV = none := by rw [hFV, List.drop_eq_nil_of_le (by omega)]; rfl
        have HS := Lib.hid (show srchV (eqlB key) (.ok c) = ([], [], 6) by rw [HF.out, hn])
        clear hFV hb hn
        go_wp2_with fail
        go_ret2
        rw [HS.out]
        exact ⟨rfl, HBF.out⟩

set_option maxRecDepth 100000 in
set_option maxHeartbeats 4000000 in
theorem rnext_any (org fmt len blk : Int) (w : World) (B : Nat) (a : Option Addr) (cap : Nat) (l : List By) (key : By) (h : Strs w B a l) (hB : B ≤ w.heap.size) (hl : l.length ≤ 300) :
    Calls Tryz.prog 19 #[.agg (dsv org fmt len blk), .slice a l.length cap, .string ⟨key.toArray⟩] w fun e w' =>
      e = .returned (.tuple #[.string ⟨(srchV (gtrB key) (openV org fmt len blk l)).1.toArray⟩, .string ⟨(srchV (gtrB key) (openV org fmt len blk l)).2.1.toArray⟩, .int .i64 (srchV (gtrB key) (openV org fmt len blk l)).2.2]) ∧ Below w.heap.size w w' := by
  have HD0 := Lib.hid (heap_alloc_new w (.cells (dsv org fmt len blk) 29))
  have HB0 := Lib.hid (box_below w (dsv org fmt len blk) 29)
  have HR := Lib.hid (fun W b1 b2 => rrecords_any org fmt len blk W B a cap l b1 b2 hl)
  have HFW := Lib.hid (fun c (hc : openV org fmt len blk l = .ok c) => openV_few hl hc)
  have HER := Lib.hid (fun k (hk : openV org fmt len blk l = .error k) => openV_err hk)
  generalize openV org fmt len blk l = T at HR HFW HER ⊢
  have dl := loadDs_at HD0.out rfl
  go_enter Tryz.func19, Tryz.ntmps19
  go_wp2_with fail
  refine (HR.out _ (h.below (HB0.out.mono hB)) (Nat.le_trans hB HB0.out.size)).mono ?_
  rintro e w1 hP
  have HB1 := Lib.hid (HB0.out.trans (hP.bel.mono HB0.out.size))
  obtain ⟨v, k, rfl, hk⟩ := hP.any
  clear hP dl
  cases T with
  | error k' =>
    obtain ⟨rfl, rfl⟩ : k' = k ∧ v = .slice none 0 0 := by
      rcases hk with ⟨L, h1, _⟩ | ⟨h1, h2⟩
      · cases h1
      · exact ⟨Except.error.inj h1, h2⟩
    have hk0 := HER.out _ rfl
    have e1 : (k' == 0) = false := by simp [hk0]
    have e2 : (k' != 0) = true := by simp [hk0]
    have HS := Lib.hid (show srchV (gtrB key) (.error k') = ([], [], k') from rfl)
    clear hk hk0
    go_wp2_with fail
    refine bodyPost_ret3 rfl rfl rfl rfl rfl ?_
    rw [HS.out]
    exact ⟨rfl, HB1.out⟩
  | ok c =>
    obtain ⟨rfl, ho⟩ : k = 0 ∧ w1.ownsRow (w.alloc (.cells (dsv org fmt len blk) 29)).heap.size 9 1 v c.recs.length (c.recs.map sv) := by
      rcases hk with ⟨L, h1, h2, h3⟩ | ⟨h1, h2⟩
      · obtain rfl := Except.ok.inj h1; exact ⟨h2, h3⟩
      · cases h1
    have hfw := HFW.out c rfl
    have hF : srchV (gtrB key) (.ok c) = match findV (gtrB key) 0 c.recs with
      | some x => (x.1, x.2, 0)
      | none => ([], [], 6) := rfl
    generalize c.recs = L at ho hfw hF
    obtain ⟨ra, rc, rfl, _, hLS⟩ := newsAt_of_row ho
    have hF0 : findV (gtrB key) 0 L = findV (gtrB key) 0 (L.drop 0) := rfl
    generalize findV (gtrB key) 0 L = FV at hF hF0
    have HF := Lib.hid hF
    have HF0 := Lib.hid hF0
    have HLS := Lib.hid hLS
    clear hk ho hF hF0 hLS HFW HER
    go_wp2_with fail
    go_loopw [11] (fun k wr => ∃ j : Nat, j ≤ L.length ∧ k = .int .i64 j ∧ FV = findV (gtrB key) j (L.drop j) ∧ Below w1.heap.size w1 wr) (fun k _ => L.length - (intOf k).toNat)
    case atStart => exact ⟨0, by omega, rfl, HF0.out, Below.refl _ _⟩
    case round =>
      clear HF0
      obtain ⟨j, hj, rfl, hFV, hb⟩ := hrel
      have HB := Lib.hid hb
      have HBF := Lib.hid (HB1.out.trans (hb.mono HB1.out.size))
      by_cases hlt : j < L.length
      · obtain ⟨b, off, rfl, hbb, hc⟩ := HLS.out.get hlt
        have hcw := (hb.cell (p := ⟨b, off + j, none⟩) hbb).trans hc
        rw [findV_step _ _ _ hlt] at hFV
        have hpl := fun W => rplace_any (1 + j) W (by omega)
        rw [show ((1 + j : Nat) : Int) = 1 + (j : Int) by omega] at hpl
        clear hb hc
        generalize L[j] = r at hFV hcw
        generalize plc (1 + j) = pk at hFV hpl
        have HPL := Lib.hid hpl
        clear hpl
        by_cases hp : gtrB key pk = true
        · rw [if_pos hp] at hFV
          obtain ⟨hb1, hb2⟩ : Op.bytesLess pk key = false ∧ (pk == key) = false := by
            have h := hp; unfold gtrB at h; revert h; cases Op.bytesLess pk key <;> cases (pk == key) <;> simp
          clear hp
          have HS := Lib.hid (show srchV (gtrB key) (.ok c) = (pk, r, 0) by rw [HF.out, hFV])
          clear hFV
          go_wp2_with fail
          refine (HPL.out _).mono ?_
          rintro e w2 ⟨rfl, hb2⟩
          have HB2 := Lib.hid (HBF.out.trans (hb2.mono HBF.out.size))
          have hc2 := (hb2.cell (p := ⟨b, off + j, none⟩) (block_lt_of_cell hcw)).trans hcw
          clear hb2
          go_wp2_with fail
          have hw1 : IntKind.i64.wrap (1 + (j : Int)) = 1 + (j : Int) := IntWalk.i64_in _ (by omega)
          have hj0 : (0 : Int) ≤ (j : Int) := by omega
          have hj1 : (j : Int) < (L.length : Int) := by omega
          have k1 : w2.drew.cell? ⟨b, off + j, none⟩ = some (.string ⟨r.toArray⟩) := hc2
          go_region_held3 (fun w' => w'.cell? ⟨b, off + j, none⟩ = some (.string ⟨r.toArray⟩)) (first | (with_reducible exact k2) | (with_reducible exact k1) | exact k2 | exact k1 | fail)
            ((first
              | (go_at_call 40
                 (with_reducible refine (HPL.out _).mono ?_)
                 rintro e w3 ⟨rfl, hb3⟩
                 have q1 := (below_drew1 (w := w2)).trans hb3
                 have k2 : w3.cell? ⟨b, off + j, none⟩ = some (.string ⟨r.toArray⟩) := (q1.cell (p := ⟨b, off + j, none⟩) (block_lt_of_cell hc2)).trans hc2)
              | fail))
          have HB3 := Lib.hid (HB2.out.trans (q1.mono HB2.out.size))
          go_wp2_with fail
          refine bodyPost_ret3 rfl rfl rfl rfl rfl ?_
          rw [HS.out]
          exact ⟨rfl, HB3.out⟩
        · rw [if_neg hp] at hFV
          have HN := Lib.hid hFV
          clear hFV
          have hpb : Op.bytesLess pk key = true ∨ (Op.bytesLess pk key = false ∧ (pk == key) = true) := by
            have h := hp; unfold gtrB at h; revert h; cases Op.bytesLess pk key <;> cases (pk == key) <;> simp
          rcases hpb with hb1 | ⟨hb1, hb2⟩
          all_goals clear hp
          all_goals
            go_wp2_with fail
            refine (HPL.out _).mono ?_
            rintro e w2 ⟨rfl, hb2⟩
            have HB2 := Lib.hid (HB.out.trans (hb2.mono HB.out.size))
            clear hb2
            go_wp2_with fail
            go_roundw
            case rel => exact ⟨j + 1, by omega, by go_num, HN.out, HB2.out⟩
            case measure => simp [intOf]; omega
      · have hn : FV = none := by rw [hFV, List.drop_eq_nil_of_le (by omega)]; rfl
        have HS := Lib.hid (show srchV (gtrB key) (.ok c) = ([], [], 6) by rw [HF.out, hn])
        clear hFV hb hn
        go_wp2_with fail
        refine bodyPost_ret3 rfl rfl rfl rfl rfl ?_
        rw [HS.out]
        exact ⟨rfl, HBF.out⟩
end

end Go.Proofs.YthkpcalopmddpaaGreatDoor
