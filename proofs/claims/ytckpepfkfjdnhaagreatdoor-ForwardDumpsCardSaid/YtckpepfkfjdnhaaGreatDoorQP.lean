/-
  Walks: the validity of an archive, by the reference. Conditions: pairs in memory, not too many.
  Walks: whether a description is valid and whether a pair may be in a data set, by the program. Condition: the laid table of segments' codes.
  Walks: whether a pair may be in a data set, by the program. Conditions: the description is valid; the laid table of segments' codes.
-/
import Derived.Test.YtckpepfkfjdnhaaGreatDoorQJ11
import Derived.Test.YtckpepfkfjdnhaaGreatDoorQI
import Derived.Test.YtckpepfkfjdnhaaGreatDoorQG
import Derived.Test.YtckpepfkfjdnhaaGreatDoorQL
import Derived.Deep.RegionHeld3
namespace Go.Proofs.YtckpepfkfjdnhaaGreatDoor

section
open Go.RowKit Go.Sort
variable {z : Rest}

section
attribute [local go_sem ↓] loadDs_down
end
end

section
open Go.RowKit Go.Sort
variable {z : Rest}

/-- Whether a description is valid. -/
def descP (z : Rest) (org fmt len blk : Int) : Bool := (decide (1 ≤ z.id) && decide (z.id ≤ 1099511627776)) && (if org = 0 then dsV org fmt len blk else kvalP z org fmt len blk)
section
attribute [local go_sem ↓] loadDs_down
set_option maxRecDepth 100000 in
set_option maxHeartbeats 2000000 in
theorem described_any (org fmt len blk : Int) (w : World) : Calls Tryz.prog 39 #[.agg (dsv z org fmt len blk)] w fun e w' => e = .returned (.bool (descP z org fmt len blk)) ∧ Below w.heap.size w w' := by
 have HB := Lib.hid (box_below w (dsv z org fmt len blk) 23)
 have HD := Lib.hid (heap_alloc_new w (.cells (dsv z org fmt len blk) 23))
 obtain ⟨w0, hw0⟩ : ∃ w0, w0 = w.alloc (.cells (dsv z org fmt len blk) 23) := ⟨_, rfl⟩
 rw [← hw0] at HB HD
 have c0 := cell_at (i := 0) (v := .int .i64 z.id) HD.out rfl
 have c1 := cell_at (i := 1) (v := .int .i64 org) HD.out rfl
 have ld := loadDs_at HD.out rfl
 have HV := Lib.hid (fun W => valid_any (z := z) org fmt len blk W)
 have HK := Lib.hid (fun W => kvalid_any (z := z) org fmt len blk W)
 have HR := Lib.hid (show descP z org fmt len blk = ((decide (1 ≤ z.id) && decide (z.id ≤ 1099511627776)) && (if org = 0 then dsV org fmt len blk else kvalP z org fmt len blk)) from rfl)
 generalize dsV org fmt len blk = q1 at HV HR
 generalize kvalP z org fmt len blk = q2 at HK HR
 rw [hw0] at c0 c1 ld
 have HW0 := Lib.hid hw0
 clear hw0
 by_cases h1 : z.id < 1
 · have H := Lib.hid (show descP z org fmt len blk = false by rw [HR.out]; simp; omega)
   go_enter Tryz.func39, Tryz.ntmps39
   go_wp2_with fail
   go_ret
   exact ⟨by rw [H.out]; rfl, by rw [← HW0.out]; exact HB.out⟩
 · by_cases h2 : 1099511627776 < z.id
   · have H := Lib.hid (show descP z org fmt len blk = false by rw [HR.out]; simp; omega)
     go_enter Tryz.func39, Tryz.ntmps39
     go_wp2_with fail
     go_ret
     exact ⟨by rw [H.out]; rfl, by rw [← HW0.out]; exact HB.out⟩
   · by_cases h3 : org = 0
     · have H := Lib.hid (show descP z org fmt len blk = q1 by
         have e1 : decide (1 ≤ z.id) = true := by simp; omega
         have e2 : decide (z.id ≤ 1099511627776) = true := by simp; omega
         rw [HR.out, if_pos h3, e1, e2]; rfl)
       have e1 : (org == 0) = true := by simp [h3]
       clear h3
       go_enter Tryz.func39, Tryz.ntmps39
       go_wp2_with fail
       rw [← HW0.out]
       refine (HV.out w0).mono ?_
       rintro e w1 ⟨rfl, hb1⟩
       go_wp2_with fail
       go_ret
       exact ⟨by rw [H.out]; rfl, HB.out.trans (hb1.mono HB.out.size)⟩
     · have H := Lib.hid (show descP z org fmt len blk = q2 by
         have e1 : decide (1 ≤ z.id) = true := by simp; omega
         have e2 : decide (z.id ≤ 1099511627776) = true := by simp; omega
         rw [HR.out, if_neg h3, e1, e2]; rfl)
       have e1 : (org == 0) = false := by simp [h3]
       clear h3
       go_enter Tryz.func39, Tryz.ntmps39
       go_wp2_with fail
       rw [← HW0.out]
       refine (HK.out w0).mono ?_
       rintro e w1 ⟨rfl, hb1⟩
       go_wp2_with fail
       go_ret
       exact ⟨by rw [H.out]; rfl, HB.out.trans (hb1.mono HB.out.size)⟩
end
end

section
open Go.RowKit Go.Sort
variable {z : Rest}

def keyZ (z : Rest) (len : Int) (r : By) : Option By := keyOf z.kat.toNat z.klen.toNat len.toNat r
def relB (k : By) : Bool := decide (1 ≤ numN k) && decide (numN k ≤ 65536)
/-- Whether a pair may be in a data set, apart from the order of its keys. -/
def alP (z : Rest) (org fmt len : Int) (p : Pr) : Bool :=
 if org = 3 then decide (keyZ z len p.2 = some p.1)
 else if org = 2 then relB p.1 && decide ((p.2.length : Int) = len)
 else if org = 1 then decide (1 ≤ p.2.length) && decide ((p.2.length : Int) ≤ len)
 else okR fmt len p.2
theorem desc_keyed {fmt len blk : Int} (h : descP z 3 fmt len blk = true) : kvalP z 3 fmt len blk = true := by
 unfold descP at h; simp only [Bool.and_eq_true] at h; rw [if_neg (by decide)] at h; exact h.2
theorem desc_seq {fmt len blk : Int} (h : descP z 0 fmt len blk = true) : dsV 0 fmt len blk = true := by
 unfold descP at h; rw [if_pos rfl] at h; simp only [Bool.and_eq_true] at h; exact h.2
theorem desc_kval {org fmt len blk : Int} (h : descP z org fmt len blk = true) (ho : org ≠ 0) : kvalP z org fmt len blk = true := by
 unfold descP at h; simp only [Bool.and_eq_true] at h; rw [if_neg ho] at h; exact h.2
theorem desc_org {org fmt len blk : Int} (h : descP z org fmt len blk = true) : org = 0 ∨ org = 1 ∨ org = 2 ∨ org = 3 := by
 by_cases h0 : org = 0
 · exact Or.inl h0
 · have := desc_kval h h0
   unfold kvalP inP at this
   simp only [Bool.and_eq_true, decide_eq_true_eq] at this
   omega
theorem build_k {fmt len blk : Int} {l : List By} (hd : dsV 0 fmt len blk = true) : (buildRes 0 fmt len blk 0 l).2 = if alwV fmt len l = true then 0 else 2 := by
 unfold buildRes
 rw [if_pos ⟨hd, rfl⟩]
 split <;> rfl

section
attribute [local go_sem ↓] loadDs_down
set_option maxRecDepth 100000 in
set_option maxHeartbeats 4000000 in
theorem allowed49_any (org fmt len blk : Int) (p : Pr) (w : World) (hd : descP z org fmt len blk = true) (hc0 : Codes w) (hk : p.1.length ≤ 1000000) (hr : p.2.length ≤ 1000000) :
   Calls Tryz.prog 41 #[.agg (dsv z org fmt len blk), .agg #[.string ⟨p.1.toArray⟩, .string ⟨p.2.toArray⟩]] w fun e w' => e = .returned (.bool (alP z org fmt len p)) ∧ Below w.heap.size w w' := by
 obtain ⟨k, r⟩ := p
 simp only at hk hr
 obtain ⟨w0, hw0⟩ : ∃ w0, w0 = (w.alloc (.cells (dsv z org fmt len blk) 23)).alloc (.cells #[.string ⟨k.toArray⟩, .string ⟨r.toArray⟩] 46) := ⟨_, rfl⟩
 have HB := Lib.hid (show Below w.heap.size w w0 by rw [hw0]; exact (box_below w _ _).alloc (by simp) _)
 have HD := Lib.hid (show w0.heap[w.heap.size]? = some (.cells (dsv z org fmt len blk) 23 (0, 0)) by rw [hw0, halloc _ _ (by simp)]; exact heap_alloc_new w _)
 have HP := Lib.hid (show w0.heap[w.heap.size + 1]? = some (.cells #[.string ⟨k.toArray⟩, .string ⟨r.toArray⟩] 46 (0, 0)) by
   rw [hw0]
   have := heap_alloc_new (w.alloc (.cells (dsv z org fmt len blk) 23)) (.cells #[.string ⟨k.toArray⟩, .string ⟨r.toArray⟩] 46)
   simpa using this)
 have HZ := Lib.hid (show w0.heap.size = w.heap.size + 2 by rw [hw0]; simp)
 have c1 := cell_at (i := 1) (v := .int .i64 org) HD.out rfl
 have p0 := cell_at (i := 0) (v := .string ⟨k.toArray⟩) HP.out rfl
 have p1 := cell_at (i := 1) (v := .string ⟨r.toArray⟩) HP.out rfl
 have ld := loadDs_at HD.out rfl
 have HW0 := Lib.hid hw0
 have HCO := Lib.hid hc0
 rw [hw0] at c1 p0 p1 ld
 clear hw0 hc0
 rcases desc_org hd with rfl | rfl | rfl | rfl
 · have hds := desc_seq hd
   have HR := Lib.hid (show alP z 0 fmt len (k, r) = okR fmt len r by unfold alP; rw [if_neg (by decide), if_neg (by decide), if_neg (by decide)])
   have HBK := Lib.hid (show (buildRes 0 fmt len blk 0 [r]).2 = if okR fmt len r = true then 0 else 2 by rw [build_k hds]; simp [alwV])
   go_enter Tryz.func41, Tryz.ntmps41
   go_wp2_with fail
   have hz1 : w0.heap.size = w.heap.size + 1 + 1 := by rw [HZ.out]
   have HB1 := Lib.hid (box_below w0 #[.string ⟨r.toArray⟩] 9)
   have HBU := Lib.hid (build_any (z := z) 0 fmt len blk 0 (w0.alloc (.cells #[.string ⟨r.toArray⟩] 9)) (w0.heap.size + 1) (some ⟨w0.heap.size, 0, none⟩) 1 [r] ⟨fun _ => ⟨w0.heap.size, 0, rfl, by omega, fun i hi => by
     obtain rfl : i = 0 := by simpa using hi
     exact cell_at (heap_alloc_new w0 _) rfl⟩⟩ (by simp) (by simp) (by simp) (by omega) ((HCO.out.below HB.out HCO.out.pos).below HB1.out (Nat.lt_of_lt_of_le HCO.out.pos HB.out.size)))
   clear c1 p0 p1 ld
   rw [HBK.out, hz1, HW0.out] at HBU
   generalize (buildRes 0 fmt len blk 0 [r]).1 = ws at HBU
   have HBF := Lib.hid (HB.out.trans (HB1.out.mono HB.out.size))
   rw [HW0.out] at HBF
   clear HB1 hz1 HBK
   refine HBU.out.mono ?_
   rintro e w2 ⟨⟨v, rfl, _⟩, hb2⟩
   have HB2 := Lib.hid (HBF.out.trans (hb2.mono HBF.out.size))
   cases hq : okR fmt len r with
   | true =>
     rw [hq] at HR
     simp only [if_true]
     go_wp2_with fail
     go_ret
     exact ⟨by rw [HR.out]; rfl, HB2.out⟩
   | false =>
     rw [hq] at HR
     simp only [Bool.false_eq_true, if_false]
     go_wp2_with fail
     go_ret
     exact ⟨by rw [HR.out]; rfl, HB2.out⟩
 · -- entry-sequenced
   have HR := Lib.hid (show alP z 1 fmt len (k, r) = (decide (1 ≤ r.length) && decide ((r.length : Int) ≤ len)) by unfold alP; rw [if_neg (by decide), if_neg (by decide), if_pos rfl])
   have c3 := cell_at (i := 3) (v := .int .i64 len) HD.out rfl
   rw [HW0.out] at c3
   by_cases h1 : 1 ≤ r.length
   · have g1 : decide ((1 : Int) ≤ (r.length : Int)) = true := by simp; omega
     by_cases h2 : (r.length : Int) ≤ len
     · have H := Lib.hid (show alP z 1 fmt len (k, r) = true by rw [HR.out]; simp [h1, h2])
       clear h1
       go_enter Tryz.func41, Tryz.ntmps41
       go_wp2_with fail
       go_ret
       exact ⟨by rw [H.out]; rfl, by rw [← HW0.out]; exact HB.out⟩
     · have H := Lib.hid (show alP z 1 fmt len (k, r) = false by rw [HR.out]; simp [h2])
       clear h1
       go_enter Tryz.func41, Tryz.ntmps41
       go_wp2_with fail
       go_ret
       exact ⟨by rw [H.out]; rfl, by rw [← HW0.out]; exact HB.out⟩
   · have g1 : decide ((1 : Int) ≤ (r.length : Int)) = false := by simp; omega
     have H := Lib.hid (show alP z 1 fmt len (k, r) = false by rw [HR.out]; simp [h1])
     clear h1
     go_enter Tryz.func41, Tryz.ntmps41
     go_wp2_with fail
     go_ret
     exact ⟨by rw [H.out]; rfl, by rw [← HW0.out]; exact HB.out⟩
 · -- relative
   have HR := Lib.hid (show alP z 2 fmt len (k, r) = (relB k && decide ((r.length : Int) = len)) by unfold alP; rw [if_neg (by decide), if_pos rfl])
   have HN := Lib.hid (fun W => knum_any k W hk)
   have HND := Lib.hid (show relB k = (decide (1 ≤ numN k) && decide (numN k ≤ 65536)) from rfl)
   have HNN := Lib.hid (show (numB k).isSome = false → numN k = 0 by intro h; unfold numN; cases hq : numB k with
     | none => rfl
     | some n => rw [hq] at h; cases h)
   have hnb : numN k ≤ 1099511627776 := by
     unfold numN numB
     split
     · rename_i h; exact h.2
     · exact Nat.zero_le _
   go_enter Tryz.func41, Tryz.ntmps41
   go_wp2_with fail
   clear c1 p0 p1 ld
   rw [← HW0.out]
   refine (HN.out w0).mono ?_
   rintro e w1 ⟨hR, hb1⟩
   unfold NumRet at hR
   subst hR
   have HB1 := Lib.hid (HB.out.trans (hb1.mono HB.out.size))
   have c3 := cell_at (i := 3) (v := .int .i64 len) ((hb1.block _ (lt_of_block HD.out)).trans HD.out) rfl
   have p1 := cell_at (i := 1) (v := .string ⟨r.toArray⟩) ((hb1.block _ (lt_of_block HP.out)).trans HP.out) rfl
   clear hb1 HN
   generalize numN k = n at HND HNN hnb ⊢
   generalize hok : (numB k).isSome = ok at HNN
   clear hok
   cases ok with
   | false =>
     have hn0 := HNN.out rfl
     have H := Lib.hid (show alP z 2 fmt len (k, r) = false by rw [HR.out, HND.out, hn0]; rfl)
     clear hn0
     go_wp2_with fail
     go_ret
     exact ⟨by rw [H.out]; rfl, HB1.out⟩
   | true =>
     by_cases h1 : 1 ≤ n
     · have g1 : decide ((1 : Int) ≤ (n : Int)) = true := by simp; omega
       by_cases h2 : n ≤ 65536
       · have g2 : decide ((n : Int) ≤ 65536) = true := by simp; omega
         by_cases h3 : (r.length : Int) = len
         · have g3 : ((r.length : Int) == len) = true := by simp [h3]
           have H := Lib.hid (show alP z 2 fmt len (k, r) = true by rw [HR.out, HND.out]; simp [h1, h2, h3])
           clear h3 h1 h2
           go_wp2_with fail
           go_ret
           exact ⟨by rw [H.out]; rfl, HB1.out⟩
         · have g3 : ((r.length : Int) == len) = false := by simp [h3]
           have H := Lib.hid (show alP z 2 fmt len (k, r) = false by rw [HR.out]; simp [h3])
           clear h3 h1 h2
           go_wp2_with fail
           go_ret
           exact ⟨by rw [H.out]; rfl, HB1.out⟩
       · have g2 : decide ((n : Int) ≤ 65536) = false := by simp; omega
         have H := Lib.hid (show alP z 2 fmt len (k, r) = false by rw [HR.out, HND.out]; simp [h2])
         clear h1 h2
         go_wp2_with fail
         go_ret
         exact ⟨by rw [H.out]; rfl, HB1.out⟩
     · have g1 : decide ((1 : Int) ≤ (n : Int)) = false := by simp; omega
       have H := Lib.hid (show alP z 2 fmt len (k, r) = false by rw [HR.out, HND.out]; simp [h1])
       clear h1
       go_wp2_with fail
       go_ret
       exact ⟨by rw [H.out]; rfl, HB1.out⟩
 · -- keyed
   have hkv := desc_keyed hd
   obtain ⟨ka, kl, ln, hko⟩ := key_ok hkv
   have HR := Lib.hid (show alP z 3 fmt len (k, r) = decide (keyOf ka kl ln r = some k) by
     unfold alP keyZ; rw [if_pos rfl, hko.at_, hko.kl_, hko.ln_]; simp)
   have HOF := Lib.hid (fun W => kof_any (z := z) fmt len blk ka kl ln r W hkv hko hr)
   generalize keyOf ka kl ln r = o at HR HOF
   clear hkv hko
   go_enter Tryz.func41, Tryz.ntmps41
   go_wp2_with fail
   clear c1 p0 p1 ld
   rw [← HW0.out]
   refine (HOF.out w0).mono ?_
   rintro e w1 ⟨hR, hb1⟩
   unfold ofRet at hR
   have HB1 := Lib.hid (HB.out.trans (hb1.mono HB.out.size))
   have p0 := cell_at (i := 0) (v := .string ⟨k.toArray⟩) ((hb1.block _ (lt_of_block HP.out)).trans HP.out) rfl
   clear hb1 HOF
   cases o with
   | none =>
     subst hR
     have H := Lib.hid (show alP z 3 fmt len (k, r) = false by rw [HR.out]; simp)
     unfold sv
     go_wp2_with fail
     go_ret
     exact ⟨by rw [H.out]; rfl, HB1.out⟩
   | some q =>
     subst hR
     unfold sv
     by_cases hq : q = k
     · have H := Lib.hid (show alP z 3 fmt len (k, r) = true by rw [HR.out, hq]; simp)
       have g : (q == k) = true := by simp [hq]
       clear hq
       go_wp2_with fail
       go_ret
       exact ⟨by rw [H.out]; rfl, HB1.out⟩
     · have H := Lib.hid (show alP z 3 fmt len (k, r) = false by rw [HR.out]; simp [hq])
       have g : (q == k) = false := by simp [hq]
       clear hq
       go_wp2_with fail
       go_ret
       exact ⟨by rw [H.out]; rfl, HB1.out⟩
end
end

end Go.Proofs.YtckpepfkfjdnhaaGreatDoor
