/-
  Walks: the law of stores that have no log, or cannot have one. No condition.
-/
import Derived.Test.YtjpkdhnponcciaaGreatDoorCM20
namespace Go.Proofs.YtjpkdhnponcciaaGreatDoor
open Go.RowKit Go.Sort

theorem mod5000 (n : Nat) (hn : n ≤ 65535) : IntKind.i64.wrap (n : Int) = (n : Int) ∧ IntKind.i64.wrap ((n : Int).tmod 5000) = (n : Int) % 5000 ∧ IntKind.i64.wrap ((n : Int) % 5000) = (n : Int) % 5000 := by
  have e : (n : Int).tmod 5000 = (n : Int) % 5000 := Int.tmod_eq_emod_of_nonneg (by omega)
  exact ⟨IntWalk.i64_in _ (by omega), by rw [e, IntWalk.i64_in _ (by omega)], IntWalk.i64_in _ (by omega)⟩
/-- Format, of copies that have not been formatted. -/
theorem form_h {w : World} {ka kb : Bk} {n m : Nat} {p q : Bool} (h : StAt w ka kb (nwC p n) (nwC q m)) (p' q' : Bool) (hpq : p' = true ∨ q' = true) (ep : p' = p := by rfl) (eq' : q' = q := by rfl) :
    Calls Tryz.prog 25 #[ifC ka (nwC p' n), ifC kb (nwC q' m)] w fun e w' => e = .returned (.int .i64 (formV (nwC p' n) (nwC q' m)).1) ∧ ((formV (nwC p' n) (nwC q' m)).1 ≠ 2 → StAt w' ka kb (formV (nwC p' n) (nwC q' m)).2.1 (formV (nwC p' n) (nwC q' m)).2.2) ∧ Only (fS ka kb (nwC p' n) (nwC q' m)) w w' := by
  subst ep eq'
  have hSa : p' = true → ∀ W, Below w.heap.size w W → Calls Tryz.prog 302 #[memV ka.p] W fun e w' => e = .returned (.tuple #[.int .i64 (newM n).secs.length, .int .i64 0]) ∧ W = w' := fun e W hb => by
    subst e
    exact sectors_w W ka (newM n) ((h.a _ rfl).below hb)
  have hSb : q' = true → ∀ W, Below w.heap.size w W → Calls Tryz.prog 302 #[memV kb.p] W fun e w' => e = .returned (.tuple #[.int .i64 (newM m).secs.length, .int .i64 0]) ∧ W = w' := fun e W hb => by
    subst e
    exact sectors_w W kb (newM m) ((h.b _ rfl).below hb)
  cases p' with
  | false =>
    cases q' with
    | false => simp at hpq
    | true => exact form_ns w ka kb (newM m) (hSb rfl) (by have := (h.b _ rfl).len; omega) (fun _ _ => h)
  | true =>
    cases q' with
    | false => exact form_sn w ka kb (newM n) (hSa rfl) (by have := (h.a _ rfl).len; omega) (fun _ _ => h)
    | true => exact form_ss w ka kb (newM n) (newM m) (hSa rfl) (by have := (h.a _ rfl).len; omega) (hSb rfl) (by have := (h.b _ rfl).len; omega) (fun _ _ => h)
/-- A log that was just made, whole. -/
theorem whole_n {w : World} {lb : Nat} {ka kb : Bk} {A B : Cp} {s : Nat} (hL : LgAt w lb ka kb A B) (L : Log A B (freshH s) []) (hs : 16 ≤ s) :
    Calls Tryz.prog 19 #[.pointer (some ⟨lb, 0, none⟩)] w fun e w' => ∃ a cap, e = .returned (.tuple #[.int .i64 1, .int .i64 1, .int .i64 ((s : Int) - 1), .slice a 0 cap, .bool true]) ∧ LgAt w' lb ka kb A B ∧ Only (fS ka kb A B) w w' := by
  refine (whole_w hL L).mono ?_
  rintro e w' ⟨v, X, rfl, hX, hr, hL', ho⟩
  have hx : X = [] := by simpa using hX
  subst hx
  obtain ⟨a, cap, rfl⟩ := RowE.spell encLr hr.row
  refine ⟨a, cap, ?_, hL', ho⟩
  have hf : (((freshH s).free : Nat) : Int) = (s : Int) - 1 := by
    show ((s - 1 - 0 : Nat) : Int) = _
    omega
  rw [hf]
  rfl
section
set_option maxRecDepth 100000 in
set_option maxHeartbeats 16000000 in
theorem law_refuses (w : World) (n m : Nat) (hn : n ≤ 65535) (hm : m ≤ 65535) (one two : Bool) :
    Calls Tryz.prog 6 #[.int .u16 n, .int .u16 m, .bool one, .bool two] w fun e w' => e = .returned (.bool true) ∧ Below w.heap.size w w' := by
  obtain ⟨a1, a2, a3⟩ := mod5000 n hn
  obtain ⟨b1, b2, b3⟩ := mod5000 m hm
  have HNa := Lib.hid (fun W => newmem_g (n % 5000) (by omega) W)
  have HNb := Lib.hid (fun W => newmem_g (m % 5000) (by omega) W)
  rw [show ((n % 5000 : Nat) : Int) = (n : Int) % 5000 by omega] at HNa
  rw [show ((m % 5000 : Nat) : Int) = (m : Int) % 5000 by omega] at HNb
  have hna := Nat.mod_lt n (show 0 < 5000 by omega)
  have hnb := Nat.mod_lt m (show 0 < 5000 by omega)
  generalize n % 5000 = na at HNa hna
  generalize m % 5000 = nb at HNb hnb
  have HNl := Lib.hid (And.intro hna hnb)
  clear hn hm hna hnb
  cases one with
  | false =>
    cases two with
    | false =>
      go_enter Tryz.func6, Tryz.ntmps6
      go_wp2_with fail
      refine (HNa.out _).mono ?_
      rintro e w1 ⟨ka, rfl, hA, p1, p2, p3, hb1⟩
      have HA := Lib.hid hA
      have HB1 := Lib.hid hb1
      have HKa := Lib.hid (show ∀ x ∈ ka.s, w.heap.size ≤ x from fun x hx => by
        simp only [Bk.s, List.mem_cons, List.not_mem_nil, or_false] at hx
        omega)
      clear hA hb1 p1 p2 p3
      go_wp2_with fail
      refine (HNb.out _).mono ?_
      rintro e w2 ⟨kb, rfl, hB, p1, p2, p3, hb2⟩
      have HTwo := Lib.hid (show TwoAt w2 ka kb na nb from ⟨HA.out.below hb2, hB, fun x hx hm => by
        have h1 := HA.out.lt x hx
        simp only [Bk.s, List.mem_cons, List.not_mem_nil, or_false] at hm
        omega⟩)
      have HB2 := Lib.hid (HB1.out.trans (hb2.mono HB1.out.size))
      have HK := Lib.hid (show ∀ x, x ∈ ka.s ∨ x ∈ kb.s → w.heap.size ≤ x from fun x hx => by
        rcases hx with hx | hx
        · exact HKa.out x hx
        · have h1 := HB1.out.size
          simp only [Bk.s, List.mem_cons, List.not_mem_nil, or_false] at hx
          omega)
      clear hB hb2 p1 p2 p3 a1 a2 a3 b1 b2 b3
      have HO := Lib.hid (open_nn w2 HTwo.out)
      go_wp2_with fail
      refine HO.out.mono ?_
      rintro e w3 ⟨rfl, hb3⟩
      have HB3 := Lib.hid (HB2.out.trans (hb3.mono HB2.out.size))
      have HF := Lib.hid (form_nn w3)
      clear hb3 HO
      go_wp2_with fail
      refine HF.out.mono ?_
      rintro e w4 ⟨rfl, rfl⟩
      clear HF
      have HAw := Lib.hid (awake48_w w3)
      go_wp2_with fail
      refine HAw.out.mono ?_
      rintro e wy ⟨rfl, hby⟩
      have HBy := Lib.hid (HB3.out.trans (hby.mono HB3.out.size))
      clear hby
      go_wp2_with fail
      go_ret
      exact ⟨rfl, HBy.out⟩
    | true =>
      go_enter Tryz.func6, Tryz.ntmps6
      go_wp2_with fail
      refine (HNa.out _).mono ?_
      rintro e w1 ⟨ka, rfl, hA, p1, p2, p3, hb1⟩
      have HA := Lib.hid hA
      have HB1 := Lib.hid hb1
      have HKa := Lib.hid (show ∀ x ∈ ka.s, w.heap.size ≤ x from fun x hx => by
        simp only [Bk.s, List.mem_cons, List.not_mem_nil, or_false] at hx
        omega)
      clear hA hb1 p1 p2 p3
      go_wp2_with fail
      refine (HNb.out _).mono ?_
      rintro e w2 ⟨kb, rfl, hB, p1, p2, p3, hb2⟩
      have HTwo := Lib.hid (show TwoAt w2 ka kb na nb from ⟨HA.out.below hb2, hB, fun x hx hm => by
        have h1 := HA.out.lt x hx
        simp only [Bk.s, List.mem_cons, List.not_mem_nil, or_false] at hm
        omega⟩)
      have HB2 := Lib.hid (HB1.out.trans (hb2.mono HB1.out.size))
      have HK := Lib.hid (show ∀ x, x ∈ ka.s ∨ x ∈ kb.s → w.heap.size ≤ x from fun x hx => by
        rcases hx with hx | hx
        · exact HKa.out x hx
        · have h1 := HB1.out.size
          simp only [Bk.s, List.mem_cons, List.not_mem_nil, or_false] at hx
          omega)
      clear hB hb2 p1 p2 p3 a1 a2 a3 b1 b2 b3
      obtain ⟨x8, y8, z8, f8, r8⟩ := HTwo.out.b.sz.row
      have c1 : w2.cell? ⟨kb.p, 0, none⟩ = some (.slice x8 nb y8) := cell_at r8 rfl
      clear r8
      by_cases l1 : nb < 16
      · have l1I : (nb : Int) < 16 := by omega
        have HF := Lib.hid (form_g HTwo.out (by have := HNl.out; omega) (by have := HNl.out; omega) false true (by simp))
        rw [(form_bad false true na nb (by simp) (Or.inr ⟨rfl, by omega⟩)).2, show ifC ka (nwC false na) = .nilIface from rfl, show ifC kb (nwC true nb) = .iface 25 (memV kb.p) from rfl] at HF
        go_wp2_with fail
        refine HF.out.mono ?_
        rintro e w3 ⟨rfl, -, ho3⟩
        have HB3 := Lib.hid (HB2.out.trans (ho3.below HB2.out.size (fun x hx => HK.out x (fS_mem hx))))
        clear ho3 HF
        have HAw := Lib.hid (awake48_w w3)
        go_wp2_with fail
        refine HAw.out.mono ?_
        rintro e wy ⟨rfl, hby⟩
        have HBy := Lib.hid (HB3.out.trans (hby.mono HB3.out.size))
        clear hby
        go_wp2_with fail
        go_ret
        exact ⟨rfl, HBy.out⟩
      have l1I : ¬ (nb : Int) < 16 := by omega
      by_cases l2 : 4096 < nb
      · have l2I : (4096 : Int) < (nb : Int) := by omega
        have HF := Lib.hid (form_g HTwo.out (by have := HNl.out; omega) (by have := HNl.out; omega) false true (by simp))
        rw [(form_bad false true na nb (by simp) (Or.inr ⟨rfl, by omega⟩)).2, show ifC ka (nwC false na) = .nilIface from rfl, show ifC kb (nwC true nb) = .iface 25 (memV kb.p) from rfl] at HF
        go_wp2_with fail
        refine HF.out.mono ?_
        rintro e w3 ⟨rfl, -, ho3⟩
        have HB3 := Lib.hid (HB2.out.trans (ho3.below HB2.out.size (fun x hx => HK.out x (fS_mem hx))))
        clear ho3 HF
        have HAw := Lib.hid (awake48_w w3)
        go_wp2_with fail
        refine HAw.out.mono ?_
        rintro e wy ⟨rfl, hby⟩
        have HBy := Lib.hid (HB3.out.trans (hby.mono HB3.out.size))
        clear hby
        go_wp2_with fail
        go_ret
        exact ⟨rfl, HBy.out⟩
      have l2I : ¬ (4096 : Int) < (nb : Int) := by omega
      have l3 : 16 ≤ nb ∧ nb ≤ 4096 := ⟨by omega, by omega⟩
      have HO := Lib.hid (open_g HTwo.out false true (by simp) (fun h => by cases h) (fun _ => l3.1))
      obtain ⟨A, B, hfm, hlog, hna, hnb, hla, hlb⟩ := form_good false true na nb (by simp) (fun h => by cases h) (fun _ => l3)
      rw [show ifC ka (nwC false na) = .nilIface from rfl, show ifC kb (nwC true nb) = .iface 25 (memV kb.p) from rfl] at HO
      go_wp2_with fail
      refine HO.out.mono ?_
      rintro e w3 ⟨rfl, hst3, ho3⟩
      have HB3 := Lib.hid (HB2.out.trans (ho3.below HB2.out.size (fun x hx => HK.out x (fS_mem hx))))
      have HF := Lib.hid (form_h hst3 false true (by simp))
      rw [hfm, show ifC ka (nwC false na) = .nilIface from rfl, show ifC kb (nwC true nb) = .iface 25 (memV kb.p) from rfl] at HF
      have HLg := Lib.hid hlog
      have HLa := Lib.hid (And.intro hla hlb)
      obtain ⟨s, hs⟩ : ∃ s, s = szOf false true na nb := ⟨_, rfl⟩
      have HSz := Lib.hid hs
      rw [← hs] at HLg
      have HNo := Lib.hid (And.intro hna hnb)
      clear hst3 ho3 HO hfm hlog hla hlb hs hna hnb
      go_wp2_with fail
      refine HF.out.mono ?_
      rintro e w4 ⟨rfl, hst4, ho4⟩
      have hst4 := hst4 (by simp)
      have HB4 := Lib.hid (HB3.out.trans (ho4.below HB3.out.size (fun x hx => HK.out x (fS_mem hx))))
      have HOp := Lib.hid (open2_w w4 ka kb A B hst4 HLg.out.bgH)
      rw [HLg.out.begin] at HOp
      have hva : ifC ka A = .nilIface := ifC_eq (c := A) (d := nwC false na) (by rw [HNo.out.1, nwC_none])
      have hvb : ifC kb B = .iface 25 (memV kb.p) := ifC_eq (c := B) (d := nwC true nb) (by rw [HNo.out.2, nwC_none])
      rw [hva, hvb] at HOp
      clear hst4 ho4 HF hva hvb
      go_wp2_with fail
      refine HOp.out.mono ?_
      rintro e w5 ⟨rfl, hL5, ho5⟩
      have HB5 := Lib.hid (HB4.out.trans (ho5.below HB4.out.size (fun x hx => HK.out x (fS_mem hx))))
      have HW := Lib.hid (whole_n hL5 HLg.out HLg.out.ok.ok.n.1)
      clear hL5 ho5 HOp
      generalize w4.heap.size = mb at HW ⊢
      go_wp2_with fail
      refine HW.out.mono ?_
      rintro e w6 ⟨a6, c6, rfl, hL6, ho6⟩
      have HB6 := Lib.hid (HB5.out.trans (ho6.below HB5.out.size (fun x hx => HK.out x (fS_mem hx))))
      have hs16 : 16 ≤ s ∧ s ≤ 4096 := HLg.out.ok.ok.n
      obtain ⟨N, hN⟩ : ∃ N, B = some N := by
        cases B with
        | none => have := HNo.out.2; simp at this
        | some N => exact ⟨N, rfl⟩
      have hy6 := (hL6.b N hN).sz
      rw [HLa.out.2 N hN] at hy6
      obtain ⟨a8, c8, m8, f8, h8⟩ := hy6.row
      have d1 : w6.cell? ⟨kb.p, 0, none⟩ = some (.slice a8 nb c8) := cell_at h8 rfl
      clear hN hy6 h8
      clear hL6 ho6 HW
      have hwr : IntKind.i64.wrap ((s : Int) - 1) = (s : Int) - 1 := IntWalk.i64_in _ (by omega)
      obtain rfl : s = nb := HSz.out
      have h5000 : ¬ (5000 : Int) ≤ (s : Int) := by have := HNl.out; omega
      have h5001 : (s : Int) < 5000 := by have := HNl.out; omega
      have h5002 : min (5000 : Int) (s : Int) = (s : Int) := by omega
      have HAw := Lib.hid (awake48_w w6)
      clear hs16
      go_wp2_with fail
      refine HAw.out.mono ?_
      rintro e wy ⟨rfl, hby⟩
      have HBy := Lib.hid (HB6.out.trans (hby.mono HB6.out.size))
      clear hby
      go_wp2_with fail
      go_ret
      exact ⟨rfl, HBy.out⟩
  | true =>
    cases two with
    | false =>
      go_enter Tryz.func6, Tryz.ntmps6
      go_wp2_with fail
      refine (HNa.out _).mono ?_
      rintro e w1 ⟨ka, rfl, hA, p1, p2, p3, hb1⟩
      have HA := Lib.hid hA
      have HB1 := Lib.hid hb1
      have HKa := Lib.hid (show ∀ x ∈ ka.s, w.heap.size ≤ x from fun x hx => by
        simp only [Bk.s, List.mem_cons, List.not_mem_nil, or_false] at hx
        omega)
      clear hA hb1 p1 p2 p3
      go_wp2_with fail
      refine (HNb.out _).mono ?_
      rintro e w2 ⟨kb, rfl, hB, p1, p2, p3, hb2⟩
      have HTwo := Lib.hid (show TwoAt w2 ka kb na nb from ⟨HA.out.below hb2, hB, fun x hx hm => by
        have h1 := HA.out.lt x hx
        simp only [Bk.s, List.mem_cons, List.not_mem_nil, or_false] at hm
        omega⟩)
      have HB2 := Lib.hid (HB1.out.trans (hb2.mono HB1.out.size))
      have HK := Lib.hid (show ∀ x, x ∈ ka.s ∨ x ∈ kb.s → w.heap.size ≤ x from fun x hx => by
        rcases hx with hx | hx
        · exact HKa.out x hx
        · have h1 := HB1.out.size
          simp only [Bk.s, List.mem_cons, List.not_mem_nil, or_false] at hx
          omega)
      clear hB hb2 p1 p2 p3 a1 a2 a3 b1 b2 b3
      obtain ⟨x7, y7, z7, f7, r7⟩ := HTwo.out.a.sz.row
      have c0 : w2.cell? ⟨ka.p, 0, none⟩ = some (.slice x7 na y7) := cell_at r7 rfl
      clear r7
      by_cases k1 : na < 16
      · have k1I : (na : Int) < 16 := by omega
        have HF := Lib.hid (form_g HTwo.out (by have := HNl.out; omega) (by have := HNl.out; omega) true false (by simp))
        rw [(form_bad true false na nb (by simp) (Or.inl ⟨rfl, by omega⟩)).2, show ifC ka (nwC true na) = .iface 25 (memV ka.p) from rfl, show ifC kb (nwC false nb) = .nilIface from rfl] at HF
        go_wp2_with fail
        refine HF.out.mono ?_
        rintro e w3 ⟨rfl, -, ho3⟩
        have HB3 := Lib.hid (HB2.out.trans (ho3.below HB2.out.size (fun x hx => HK.out x (fS_mem hx))))
        clear ho3 HF
        have HAw := Lib.hid (awake48_w w3)
        go_wp2_with fail
        refine HAw.out.mono ?_
        rintro e wy ⟨rfl, hby⟩
        have HBy := Lib.hid (HB3.out.trans (hby.mono HB3.out.size))
        clear hby
        go_wp2_with fail
        go_ret
        exact ⟨rfl, HBy.out⟩
      have k1I : ¬ (na : Int) < 16 := by omega
      by_cases k2 : 4096 < na
      · have k2I : (4096 : Int) < (na : Int) := by omega
        have HF := Lib.hid (form_g HTwo.out (by have := HNl.out; omega) (by have := HNl.out; omega) true false (by simp))
        rw [(form_bad true false na nb (by simp) (Or.inl ⟨rfl, by omega⟩)).2, show ifC ka (nwC true na) = .iface 25 (memV ka.p) from rfl, show ifC kb (nwC false nb) = .nilIface from rfl] at HF
        go_wp2_with fail
        refine HF.out.mono ?_
        rintro e w3 ⟨rfl, -, ho3⟩
        have HB3 := Lib.hid (HB2.out.trans (ho3.below HB2.out.size (fun x hx => HK.out x (fS_mem hx))))
        clear ho3 HF
        have HAw := Lib.hid (awake48_w w3)
        go_wp2_with fail
        refine HAw.out.mono ?_
        rintro e wy ⟨rfl, hby⟩
        have HBy := Lib.hid (HB3.out.trans (hby.mono HB3.out.size))
        clear hby
        go_wp2_with fail
        go_ret
        exact ⟨rfl, HBy.out⟩
      have k2I : ¬ (4096 : Int) < (na : Int) := by omega
      have k3 : 16 ≤ na ∧ na ≤ 4096 := ⟨by omega, by omega⟩
      have HO := Lib.hid (open_g HTwo.out true false (by simp) (fun _ => k3.1) (fun h => by cases h))
      obtain ⟨A, B, hfm, hlog, hna, hnb, hla, hlb⟩ := form_good true false na nb (by simp) (fun _ => k3) (fun h => by cases h)
      rw [show ifC ka (nwC true na) = .iface 25 (memV ka.p) from rfl, show ifC kb (nwC false nb) = .nilIface from rfl] at HO
      go_wp2_with fail
      refine HO.out.mono ?_
      rintro e w3 ⟨rfl, hst3, ho3⟩
      have HB3 := Lib.hid (HB2.out.trans (ho3.below HB2.out.size (fun x hx => HK.out x (fS_mem hx))))
      have HF := Lib.hid (form_h hst3 true false (by simp))
      rw [hfm, show ifC ka (nwC true na) = .iface 25 (memV ka.p) from rfl, show ifC kb (nwC false nb) = .nilIface from rfl] at HF
      have HLg := Lib.hid hlog
      have HLa := Lib.hid (And.intro hla hlb)
      obtain ⟨s, hs⟩ : ∃ s, s = szOf true false na nb := ⟨_, rfl⟩
      have HSz := Lib.hid hs
      rw [← hs] at HLg
      have HNo := Lib.hid (And.intro hna hnb)
      clear hst3 ho3 HO hfm hlog hla hlb hs hna hnb
      go_wp2_with fail
      refine HF.out.mono ?_
      rintro e w4 ⟨rfl, hst4, ho4⟩
      have hst4 := hst4 (by simp)
      have HB4 := Lib.hid (HB3.out.trans (ho4.below HB3.out.size (fun x hx => HK.out x (fS_mem hx))))
      have HOp := Lib.hid (open2_w w4 ka kb A B hst4 HLg.out.bgH)
      rw [HLg.out.begin] at HOp
      have hva : ifC ka A = .iface 25 (memV ka.p) := ifC_eq (c := A) (d := nwC true na) (by rw [HNo.out.1, nwC_none])
      have hvb : ifC kb B = .nilIface := ifC_eq (c := B) (d := nwC false nb) (by rw [HNo.out.2, nwC_none])
      rw [hva, hvb] at HOp
      clear hst4 ho4 HF hva hvb
      go_wp2_with fail
      refine HOp.out.mono ?_
      rintro e w5 ⟨rfl, hL5, ho5⟩
      have HB5 := Lib.hid (HB4.out.trans (ho5.below HB4.out.size (fun x hx => HK.out x (fS_mem hx))))
      have HW := Lib.hid (whole_n hL5 HLg.out HLg.out.ok.ok.n.1)
      clear hL5 ho5 HOp
      generalize w4.heap.size = mb at HW ⊢
      go_wp2_with fail
      refine HW.out.mono ?_
      rintro e w6 ⟨a6, c6, rfl, hL6, ho6⟩
      have HB6 := Lib.hid (HB5.out.trans (ho6.below HB5.out.size (fun x hx => HK.out x (fS_mem hx))))
      have hs16 : 16 ≤ s ∧ s ≤ 4096 := HLg.out.ok.ok.n
      obtain ⟨M, hM⟩ : ∃ M, A = some M := by
        cases A with
        | none => have := HNo.out.1; simp at this
        | some M => exact ⟨M, rfl⟩
      have hz6 := (hL6.a M hM).sz
      rw [HLa.out.1 M hM] at hz6
      obtain ⟨a7, c7, m7, f7, h7⟩ := hz6.row
      have d0 : w6.cell? ⟨ka.p, 0, none⟩ = some (.slice a7 na c7) := cell_at h7 rfl
      clear hM hz6 h7
      clear hL6 ho6 HW
      have hwr : IntKind.i64.wrap ((s : Int) - 1) = (s : Int) - 1 := IntWalk.i64_in _ (by omega)
      obtain rfl : s = na := HSz.out
      have HAw := Lib.hid (awake48_w w6)
      clear hs16
      go_wp2_with fail
      refine HAw.out.mono ?_
      rintro e wy ⟨rfl, hby⟩
      have HBy := Lib.hid (HB6.out.trans (hby.mono HB6.out.size))
      clear hby
      go_wp2_with fail
      go_ret
      exact ⟨rfl, HBy.out⟩
    | true =>
      go_enter Tryz.func6, Tryz.ntmps6
      go_wp2_with fail
      refine (HNa.out _).mono ?_
      rintro e w1 ⟨ka, rfl, hA, p1, p2, p3, hb1⟩
      have HA := Lib.hid hA
      have HB1 := Lib.hid hb1
      have HKa := Lib.hid (show ∀ x ∈ ka.s, w.heap.size ≤ x from fun x hx => by
        simp only [Bk.s, List.mem_cons, List.not_mem_nil, or_false] at hx
        omega)
      clear hA hb1 p1 p2 p3
      go_wp2_with fail
      refine (HNb.out _).mono ?_
      rintro e w2 ⟨kb, rfl, hB, p1, p2, p3, hb2⟩
      have HTwo := Lib.hid (show TwoAt w2 ka kb na nb from ⟨HA.out.below hb2, hB, fun x hx hm => by
        have h1 := HA.out.lt x hx
        simp only [Bk.s, List.mem_cons, List.not_mem_nil, or_false] at hm
        omega⟩)
      have HB2 := Lib.hid (HB1.out.trans (hb2.mono HB1.out.size))
      have HK := Lib.hid (show ∀ x, x ∈ ka.s ∨ x ∈ kb.s → w.heap.size ≤ x from fun x hx => by
        rcases hx with hx | hx
        · exact HKa.out x hx
        · have h1 := HB1.out.size
          simp only [Bk.s, List.mem_cons, List.not_mem_nil, or_false] at hx
          omega)
      clear hB hb2 p1 p2 p3 a1 a2 a3 b1 b2 b3
      obtain ⟨x7, y7, z7, f7, r7⟩ := HTwo.out.a.sz.row
      have c0 : w2.cell? ⟨ka.p, 0, none⟩ = some (.slice x7 na y7) := cell_at r7 rfl
      clear r7
      obtain ⟨x8, y8, z8, f8, r8⟩ := HTwo.out.b.sz.row
      have c1 : w2.cell? ⟨kb.p, 0, none⟩ = some (.slice x8 nb y8) := cell_at r8 rfl
      clear r8
      by_cases k1 : na < 16
      · have k1I : (na : Int) < 16 := by omega
        have HF := Lib.hid (form_g HTwo.out (by have := HNl.out; omega) (by have := HNl.out; omega) true true (by simp))
        rw [(form_bad true true na nb (by simp) (Or.inl ⟨rfl, by omega⟩)).2, show ifC ka (nwC true na) = .iface 25 (memV ka.p) from rfl, show ifC kb (nwC true nb) = .iface 25 (memV kb.p) from rfl] at HF
        go_wp2_with fail
        refine HF.out.mono ?_
        rintro e w3 ⟨rfl, -, ho3⟩
        have HB3 := Lib.hid (HB2.out.trans (ho3.below HB2.out.size (fun x hx => HK.out x (fS_mem hx))))
        clear ho3 HF
        have HAw := Lib.hid (awake48_w w3)
        go_wp2_with fail
        refine HAw.out.mono ?_
        rintro e wy ⟨rfl, hby⟩
        have HBy := Lib.hid (HB3.out.trans (hby.mono HB3.out.size))
        clear hby
        go_wp2_with fail
        go_ret
        exact ⟨rfl, HBy.out⟩
      have k1I : ¬ (na : Int) < 16 := by omega
      by_cases k2 : 4096 < na
      · have k2I : (4096 : Int) < (na : Int) := by omega
        have HF := Lib.hid (form_g HTwo.out (by have := HNl.out; omega) (by have := HNl.out; omega) true true (by simp))
        rw [(form_bad true true na nb (by simp) (Or.inl ⟨rfl, by omega⟩)).2, show ifC ka (nwC true na) = .iface 25 (memV ka.p) from rfl, show ifC kb (nwC true nb) = .iface 25 (memV kb.p) from rfl] at HF
        go_wp2_with fail
        refine HF.out.mono ?_
        rintro e w3 ⟨rfl, -, ho3⟩
        have HB3 := Lib.hid (HB2.out.trans (ho3.below HB2.out.size (fun x hx => HK.out x (fS_mem hx))))
        clear ho3 HF
        have HAw := Lib.hid (awake48_w w3)
        go_wp2_with fail
        refine HAw.out.mono ?_
        rintro e wy ⟨rfl, hby⟩
        have HBy := Lib.hid (HB3.out.trans (hby.mono HB3.out.size))
        clear hby
        go_wp2_with fail
        go_ret
        exact ⟨rfl, HBy.out⟩
      have k2I : ¬ (4096 : Int) < (na : Int) := by omega
      have k3 : 16 ≤ na ∧ na ≤ 4096 := ⟨by omega, by omega⟩
      by_cases l1 : nb < 16
      · have l1I : (nb : Int) < 16 := by omega
        have HF := Lib.hid (form_g HTwo.out (by have := HNl.out; omega) (by have := HNl.out; omega) true true (by simp))
        rw [(form_bad true true na nb (by simp) (Or.inr ⟨rfl, by omega⟩)).2, show ifC ka (nwC true na) = .iface 25 (memV ka.p) from rfl, show ifC kb (nwC true nb) = .iface 25 (memV kb.p) from rfl] at HF
        go_wp2_with fail
        refine HF.out.mono ?_
        rintro e w3 ⟨rfl, -, ho3⟩
        have HB3 := Lib.hid (HB2.out.trans (ho3.below HB2.out.size (fun x hx => HK.out x (fS_mem hx))))
        clear ho3 HF
        have HAw := Lib.hid (awake48_w w3)
        go_wp2_with fail
        refine HAw.out.mono ?_
        rintro e wy ⟨rfl, hby⟩
        have HBy := Lib.hid (HB3.out.trans (hby.mono HB3.out.size))
        clear hby
        go_wp2_with fail
        go_ret
        exact ⟨rfl, HBy.out⟩
      have l1I : ¬ (nb : Int) < 16 := by omega
      by_cases l2 : 4096 < nb
      · have l2I : (4096 : Int) < (nb : Int) := by omega
        have HF := Lib.hid (form_g HTwo.out (by have := HNl.out; omega) (by have := HNl.out; omega) true true (by simp))
        rw [(form_bad true true na nb (by simp) (Or.inr ⟨rfl, by omega⟩)).2, show ifC ka (nwC true na) = .iface 25 (memV ka.p) from rfl, show ifC kb (nwC true nb) = .iface 25 (memV kb.p) from rfl] at HF
        go_wp2_with fail
        refine HF.out.mono ?_
        rintro e w3 ⟨rfl, -, ho3⟩
        have HB3 := Lib.hid (HB2.out.trans (ho3.below HB2.out.size (fun x hx => HK.out x (fS_mem hx))))
        clear ho3 HF
        have HAw := Lib.hid (awake48_w w3)
        go_wp2_with fail
        refine HAw.out.mono ?_
        rintro e wy ⟨rfl, hby⟩
        have HBy := Lib.hid (HB3.out.trans (hby.mono HB3.out.size))
        clear hby
        go_wp2_with fail
        go_ret
        exact ⟨rfl, HBy.out⟩
      have l2I : ¬ (4096 : Int) < (nb : Int) := by omega
      have l3 : 16 ≤ nb ∧ nb ≤ 4096 := ⟨by omega, by omega⟩
      have HO := Lib.hid (open_g HTwo.out true true (by simp) (fun _ => k3.1) (fun _ => l3.1))
      obtain ⟨A, B, hfm, hlog, hna, hnb, hla, hlb⟩ := form_good true true na nb (by simp) (fun _ => k3) (fun _ => l3)
      rw [show ifC ka (nwC true na) = .iface 25 (memV ka.p) from rfl, show ifC kb (nwC true nb) = .iface 25 (memV kb.p) from rfl] at HO
      go_wp2_with fail
      refine HO.out.mono ?_
      rintro e w3 ⟨rfl, hst3, ho3⟩
      have HB3 := Lib.hid (HB2.out.trans (ho3.below HB2.out.size (fun x hx => HK.out x (fS_mem hx))))
      have HF := Lib.hid (form_h hst3 true true (by simp))
      rw [hfm, show ifC ka (nwC true na) = .iface 25 (memV ka.p) from rfl, show ifC kb (nwC true nb) = .iface 25 (memV kb.p) from rfl] at HF
      have HLg := Lib.hid hlog
      have HLa := Lib.hid (And.intro hla hlb)
      obtain ⟨s, hs⟩ : ∃ s, s = szOf true true na nb := ⟨_, rfl⟩
      have HSz := Lib.hid hs
      rw [← hs] at HLg
      have HNo := Lib.hid (And.intro hna hnb)
      clear hst3 ho3 HO hfm hlog hla hlb hs hna hnb
      go_wp2_with fail
      refine HF.out.mono ?_
      rintro e w4 ⟨rfl, hst4, ho4⟩
      have hst4 := hst4 (by simp)
      have HB4 := Lib.hid (HB3.out.trans (ho4.below HB3.out.size (fun x hx => HK.out x (fS_mem hx))))
      have HOp := Lib.hid (open2_w w4 ka kb A B hst4 HLg.out.bgH)
      rw [HLg.out.begin] at HOp
      have hva : ifC ka A = .iface 25 (memV ka.p) := ifC_eq (c := A) (d := nwC true na) (by rw [HNo.out.1, nwC_none])
      have hvb : ifC kb B = .iface 25 (memV kb.p) := ifC_eq (c := B) (d := nwC true nb) (by rw [HNo.out.2, nwC_none])
      rw [hva, hvb] at HOp
      clear hst4 ho4 HF hva hvb
      go_wp2_with fail
      refine HOp.out.mono ?_
      rintro e w5 ⟨rfl, hL5, ho5⟩
      have HB5 := Lib.hid (HB4.out.trans (ho5.below HB4.out.size (fun x hx => HK.out x (fS_mem hx))))
      have HW := Lib.hid (whole_n hL5 HLg.out HLg.out.ok.ok.n.1)
      clear hL5 ho5 HOp
      generalize w4.heap.size = mb at HW ⊢
      go_wp2_with fail
      refine HW.out.mono ?_
      rintro e w6 ⟨a6, c6, rfl, hL6, ho6⟩
      have HB6 := Lib.hid (HB5.out.trans (ho6.below HB5.out.size (fun x hx => HK.out x (fS_mem hx))))
      have hs16 : 16 ≤ s ∧ s ≤ 4096 := HLg.out.ok.ok.n
      obtain ⟨M, hM⟩ : ∃ M, A = some M := by
        cases A with
        | none => have := HNo.out.1; simp at this
        | some M => exact ⟨M, rfl⟩
      have hz6 := (hL6.a M hM).sz
      rw [HLa.out.1 M hM] at hz6
      obtain ⟨a7, c7, m7, f7, h7⟩ := hz6.row
      have d0 : w6.cell? ⟨ka.p, 0, none⟩ = some (.slice a7 na c7) := cell_at h7 rfl
      clear hM hz6 h7
      obtain ⟨N, hN⟩ : ∃ N, B = some N := by
        cases B with
        | none => have := HNo.out.2; simp at this
        | some N => exact ⟨N, rfl⟩
      have hy6 := (hL6.b N hN).sz
      rw [HLa.out.2 N hN] at hy6
      obtain ⟨a8, c8, m8, f8, h8⟩ := hy6.row
      have d1 : w6.cell? ⟨kb.p, 0, none⟩ = some (.slice a8 nb c8) := cell_at h8 rfl
      clear hN hy6 h8
      clear hL6 ho6 HW
      have hwr : IntKind.i64.wrap ((s : Int) - 1) = (s : Int) - 1 := IntWalk.i64_in _ (by omega)
      have hse : s = min na nb := HSz.out
      by_cases hle : na ≤ nb
      · have hleI : (na : Int) ≤ (nb : Int) := by omega
        have hleM : min (na : Int) (nb : Int) = (na : Int) := by omega
        obtain rfl : s = na := by omega
        clear hse hle
        have HAw := Lib.hid (awake48_w w6)
        clear hs16
        go_wp2_with fail
        refine HAw.out.mono ?_
        rintro e wy ⟨rfl, hby⟩
        have HBy := Lib.hid (HB6.out.trans (hby.mono HB6.out.size))
        clear hby
        go_wp2_with fail
        go_ret
        exact ⟨rfl, HBy.out⟩
      · have hleI : ¬ (na : Int) ≤ (nb : Int) := by omega
        have hltI : (nb : Int) < (na : Int) := by omega
        have hleM : min (na : Int) (nb : Int) = (nb : Int) := by omega
        obtain rfl : s = nb := by omega
        clear hse hle
        have HAw := Lib.hid (awake48_w w6)
        clear hs16
        go_wp2_with fail
        refine HAw.out.mono ?_
        rintro e wy ⟨rfl, hby⟩
        have HBy := Lib.hid (HB6.out.trans (hby.mono HB6.out.size))
        clear hby
        go_wp2_with fail
        go_ret
        exact ⟨rfl, HBy.out⟩
end
end Go.Proofs.YtjpkdhnponcciaaGreatDoor
