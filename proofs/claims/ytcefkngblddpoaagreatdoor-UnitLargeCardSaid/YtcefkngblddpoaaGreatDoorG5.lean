/-
  Walks: numbers as keys, by the program and by the reference. Condition: the number can be stored; a key of a sensible length.
-/
import Derived.Test.YtcefkngblddpoaaGreatDoorG1
import Derived.Test.YtcefkngblddpoaaGreatDoorG2
import Derived.Test.YtcefkngblddpoaaGreatDoorG4
import Derived.Lib.ConvBytes
import Derived.Laws.BitsAllLaws
namespace Go.Proofs.YtcefkngblddpoaaGreatDoor
set_option maxRecDepth 100000
set_option maxHeartbeats 1000000
open Go.RowKit Go.Sort
attribute [local go_sem] ByteArray.mk_append_mk
theorem tail_front : ∀ i n, tailB (i + 1) n = b8 (n / 256 ^ i) :: tailB i n
 | 0, n => by simp [tailB, b8_mod]
 | i + 1, n => by
   rw [tailB, tail_front i (n / 256), tailB, Nat.div_div_eq_div_mul, Nat.pow_succ, Nat.mul_comm 256]
   rfl
theorem two_below0 (w : World) (cs : Array Value) (t : TypeId) : Below w.heap.size w (w.alloc (.cells cs t)) := (Below.refl _ _).alloc (Nat.le_refl _) _
abbrev bytesV (l : By) : List Value := l.map fun b => Value.int .u8 (b.toNat : Int)
/-- The cells of an own row. -/
theorem news_own {w : World} {base : Nat} {e : TypeId} {v : Value} {n : Nat} {xs : List Value} (h : w.ownsRow base e 1 v n xs) : ∃ ad c, v = .slice ad n c ∧ NewsAt w w.heap.size ad n c xs := by
 rcases h.2 with ⟨rfl, rfl⟩ | ⟨g, cap, cur, rfl, hbase, hblk, q1, q2, q3, q4⟩
 · exact ⟨none, 0, rfl, ⟨Or.inr ⟨rfl, rfl, rfl⟩⟩⟩
 · have q5 : cur.toList.take n = xs := by rw [← q4, Nat.mul_one]
   refine ⟨_, cap, rfl, ⟨Or.inl ⟨_, rfl, lt_of_block hblk, fun j u hj => ?_⟩⟩⟩
   refine news_at hblk j u ?_
   rw [← q5, List.getElem?_take] at hj
   split at hj
   · exact hj
   · cases hj
theorem conv_own {w : World} {base : Nat} {v : Value} {n : Nat} {l : By} (h : w.ownsRow base 5 1 v n (bytesV l)) (hn : 0 < n) : (convert 86 9 v).run Tryz.prog w = .ok (sv l) w := by
 have hl : l.length = n := by have := h.1; simpa using this
 rcases h.2 with ⟨rfl, h0⟩ | ⟨g, cap, cur, rfl, hbase, hblk, q1, q2, q3, q4⟩
 · omega
 · have q5 : cur.toList.take n = bytesV l := by rw [← q4, Nat.mul_one]
   have hx := run_convert_bytes_arg (P := Tryz.prog) w 86 5 Tryz.underlying86 Tryz.underlying5 g 0 n cap (l.map fun b => (b.toNat : Int)) (by simpa using hl) (fun i hi => by
    rw [Nat.zero_add, cell_of_row _ _ _ _ _ _ hblk]
    have h1 : (cur.toList.take n)[i]? = (bytesV l)[i]? := by rw [q5]
    have hil : i < l.length := by omega
    rw [List.getElem?_take, if_pos hi] at h1
    simp [hil] at h1
    simpa [List.getD, hil] using h1) 9 Tryz.underlying9
   rw [hx, str_bytes]; rfl
section
variable {P : Program} {w : World}
/-- A row that lies in cells is appended to an own row. -/
theorem wpList_append_rows0 {ops : Array Oper} {rest : List Oper} {o : Oper} {a : Act} {Q : Exit → Act → World → Prop} (hgd : o.guard = none) (s x : Operand) (t : TypeId)
 (ho : o.op = .call { callee := .builtin .append, args := #[s, x], argTypes := #[t, t] })
 (base : Nat) (e : TypeId) (i : TypeInfo) (z : Value) (size bytes : Nat) (ht : P.underlying t = some (.slice e)) (hi : P.info? e = some i) (hz : i.zero = some z)
 (hsize : i.size = size) (hby : i.bytes = bytes) (hzs : z.cells.size = size) (hsz : 0 < size)
 (v : Value) (n : Nat) (xs : List Value) (hs : a.eval s = v) (hown : w.ownsRow base e size v n xs)
 (ad : Option Addr) (m c : Nat) (news : List Value) (hx : a.eval x = .slice ad m c) (hl : news.length = m * size)
 (hnews : (∃ p, ad = some p ∧ ∀ (j : Nat) (u : Value), news[j]? = some u → w.cell? (p.add j) = some u) ∨ (ad = none ∧ c = 0 ∧ m = 0)) (h1 : ∀ u ∈ news, u.oneCell' = true)
 (h63 : n + m ≤ maxLen) (hbytes : (n + m) * bytes ≤ 140737488355328) (hbase : base ≤ w.heap.size)
 (h : ∀ v' w', w'.ownsRow base e size v' (n + m) (xs ++ news) → w.grownBy w' v.ownBlock → wpList P ops Q rest (a.put o.dst v') w') : wpList P ops Q (o :: rest) a w := by
 rcases hnews with ⟨p, rfl, hc⟩ | ⟨rfl, rfl, rfl⟩
 · exact wpList_append_own w hgd s x t ho base e i z size bytes ht hi hz hsize hby hzs hsz v n xs hs hown p m c news hx hl hc h1 h63 hbytes hbase fun v' w' h2 h3 _ => h v' w' h2 h3
 · have hn : news = [] := List.length_eq_zero_iff.1 (by rw [hl]; simp)
   subst hn
   refine wpList_plain hgd fun K hK => ?_
   unfold Oper.wp execOp
   simp only [ho, resolve, invoke, builtin, Sem.run_bind, Sem.run_pure, Result.andThen_ok, List.map_toArray, List.map_cons, List.map_nil, hs, hx, run_append_owned_none (P := P) w base t o.type e i size ht hi v n xs hown]
   exact hK _ _ (h v w (by rw [List.append_nil]; exact hown) ⟨rfl, rfl, rfl, Nat.le_refl _, fun _ _ _ => rfl⟩)
end
theorem infoB : (Tryz.prog.info? 5).map (fun i => (i.zero, i.size, i.bytes)) = some (some (.int .u8 0), 1, 1) := by kernel_rfl
theorem rslot_any (n : Nat) (w : World) (hn : n ≤ 1099511627776) : Calls Tryz.prog 80 #[.int .i64 n] w fun e w' => e = .returned (sv (slotB n)) ∧ Below w.heap.size w w' := by
 obtain ⟨i0, hi0, hz0, hz1, hz2⟩ := info_parts infoB
 have hn0 : ((0 : Int) ≤ (n : Int)) := by omega
 have hn1 : (n : Int) ≤ 1099511627776 := by omega
 go_enter Tryz.func80, Tryz.ntmps80
 go_wp2_with fail
 go_loopw [0, 3, 4] (fun m v i wr => ∃ j : Nat, j ≤ 8 ∧ i = .int .i64 j ∧ m = .int .i64 ((n / 256 ^ j : Nat) : Int) ∧ wr.ownsRow w.heap.size 5 1 v j (bytesV (tailB j n)) ∧ Below w.heap.size w wr) (fun _ _ i _ => 8 - (intOf i).toNat)
 case atStart => exact ⟨0, by omega, rfl, by simp, lit0 _ rfl (Nat.le_refl _), two_below0 w _ _⟩
 case round =>
  obtain ⟨j, hj, rfl, rfl, ho, hb⟩ := hrel
  have HB := Lib.hid hb
  by_cases hlt : j < 8
  · have HT := Lib.hid (show bytesV (tailB (j + 1) n) = Value.int .u8 ((n / 256 ^ j % 256 : Nat) : Int) :: bytesV (tailB j n) by
     rw [tail_front]; simp [b8])
    have HD := Lib.hid (show n / 256 ^ j / 256 = n / 256 ^ (j + 1) by rw [Nat.div_div_eq_div_mul, Nat.pow_succ])
    have hle : n / 256 ^ j ≤ 1099511627776 := Nat.le_trans (Nat.div_le_self _ _) hn
    generalize n / 256 ^ j = q at HT HD hle ⊢
    have hq0 : (0 : Int) ≤ (q : Int) := by omega
    have hq1 : (q : Int) ≤ 1099511627776 := by omega
    have m1 : (q : Int).tmod 256 = ((q % 256 : Nat) : Int) := by rw [Int.tmod_eq_emod_of_nonneg (by omega)]; omega
    have m2 : IntKind.u8.wrap ((q % 256 : Nat) : Int) = ((q % 256 : Nat) : Int) := by rw [IntKind.wrap_u8]; omega
    have m3 : (q : Int).tdiv 256 = ((q / 256 : Nat) : Int) := by rw [Int.tdiv_eq_ediv_of_nonneg (by omega)]; omega
    obtain ⟨ad, c, rfl, hnew⟩ := news_own ho
    have HN := Lib.hid hnew
    clear hnew ho hb
    go_wp2_with (refine wpList_append_rows0 rfl _ _ 86 rfl w.heap.size 5 i0 (.int .u8 0) 1 1 Tryz.underlying86 hi0 hz0 hz1 hz2 rfl (by decide) _ _ _ rfl (World.ownsRow_lit (base := w.heap.size) (e := 5) (size := 1) wr #[.int .u8 ((q % 256 : Nat) : Int)] 1 HB.out.size (by simp [maxLen]) rfl) ad j c (bytesV (tailB j n)) rfl ?b1 ?b2 ?b3 ?b4 ?b5 ?b6 ?_)
    case b1 => simp [tailB_len]
    case b2 => exact (HN.out.below ((Below.refl _ _).alloc (Nat.le_refl _) _)).out
    case b3 => simp [Value.oneCell']
    case b4 => simp only [maxLen]; omega
    case b5 => omega
    case b6 => have := HB.out.size; simp; omega
    intro v' w' ho' hg'
    have HB2 := Lib.hid ((HB.out.alloc HB.out.size (.cells #[.int .u8 ((q % 256 : Nat) : Int)] 5)).grown hg' (HB.out.alloc HB.out.size _).size (fun k hk => by simp [Value.ownBlock] at hk; have := HB.out.size; omega))
    have HO2 := Lib.hid (show w'.ownsRow w.heap.size 5 1 v' (j + 1) (bytesV (tailB (j + 1) n)) by rw [HT.out, Nat.add_comm]; exact ho')
    clear ho' hg'
    go_wp2_with fail
    go_roundw
    case rel => exact ⟨j + 1, by omega, by go_num, by rw [← HD.out]; simp, HO2.out, HB2.out⟩
    case measure => simp [intOf]; omega
  · obtain rfl : j = 8 := by omega
    have hcv := conv_own ho (by omega)
    obtain ⟨ad, c, rfl, _⟩ := news_own ho
    clear ho hb
    go_wp2_with fail
    go_ret
    exact ⟨rfl, HB.out⟩
/-! Numbers of keys. -/
theorem valB_lt : ∀ l : By, valB l < 256 ^ l.length := by
 refine snoc_ind (by simp [valB]) fun l c ih => ?_
 rw [valB_snoc, List.length_append, List.length_singleton, Nat.pow_succ]
 have := c.toNat_lt
 omega
theorem valB_take (l : By) (j : Nat) (h : j < l.length) : valB (l.take (j + 1)) = valB (l.take j) * 256 + l[j].toNat := by
 rw [List.take_succ_eq_append_getElem h, valB_snoc]
/-- The bytes of a text, as a row. -/
theorem str_row (k : By) (w : World) : ∃ W c, (convert 9 86 (.string ⟨k.toArray⟩)).run Tryz.prog w = .ok (.slice (some ⟨w.heap.size, 0, none⟩) k.length c) W ∧ Below w.heap.size w W ∧ w.heap.size < W.heap.size ∧
 ∀ (i : Nat) (h : i < k.length), W.cell? ⟨w.heap.size, i, none⟩ = some (.int .u8 (k[i].toNat : Int)) := by
 refine ⟨_, _, Lib.run_convert_string_bytes (P := Tryz.prog) w 9 86 5 ⟨k.toArray⟩ Tryz.underlying9 Tryz.underlying86 Tryz.underlying5, ?_, ?_, fun i h => ?_⟩
 · exact ⟨rfl, rfl, rfl, by rw [Lib.bytesWorld_size]; omega, fun j hj => Lib.bytesWorld_at_old w _ _ j hj⟩
 · rw [Lib.bytesWorld_size]; omega
 · rw [Lib.bytesWorld_cell _ _ _ _ (by show i < k.toArray.size; simpa using h)]
   simp [List.getD, h]
def NumRet (k : By) (e : Ending) : Prop := e = .returned (.tuple #[.int .i64 (numN k : Int), .bool (numB k).isSome])
theorem numRet_no {k : By} (h : numB k = none) : NumRet k (.returned (.tuple #[.int .i64 0, .bool false])) := by
 unfold NumRet numN; rw [h]; rfl
theorem numRet_yes {k : By} {n : Nat} (h : numB k = some n) : NumRet k (.returned (.tuple #[.int .i64 (n : Int), .bool true])) := by
 unfold NumRet numN; rw [h]; rfl
theorem rnum_any (k : By) (w : World) (hk : k.length ≤ 1000000) : Calls Tryz.prog 78 #[sv k] w fun e w' => NumRet k e ∧ w = w' := by
 unfold sv
 by_cases h8 : k.length = 8
 · obtain ⟨c0, c1, r, rfl⟩ : ∃ c0 c1 r, k = c0 :: c1 :: r := by
    match k, h8 with
    | c0 :: c1 :: r, _ => exact ⟨c0, c1, r, rfl⟩
   have hb8 : (((c0 :: c1 :: r).length : Int) != 8) = false := by simp at h8 ⊢; omega
   obtain ⟨k, hk'⟩ : ∃ k, k = c0 :: c1 :: r := ⟨_, rfl⟩
   have i0 : 0 < k.length := by rw [hk']; simp
   have i1 : 1 < k.length := by rw [hk']; simp
   have g0 : (ByteArray.mk k.toArray)[0]'(by show 0 < k.toArray.size; simpa using i0) = c0 := by
    show k.toArray[0]'_ = c0
    simp [hk']
   have g1 : (ByteArray.mk k.toArray)[1]'(by show 1 < k.toArray.size; simpa using i1) = c1 := by
    show k.toArray[1]'_ = c1
    simp [hk']
   rw [← hk'] at hk h8 hb8 ⊢
   have HBIG := Lib.hid (show 0 < c0.toNat ∨ 0 < c1.toNat → 1099511627776 < valB k by
    intro h
    have hl : ∀ (r : By) (a : Nat), r.foldl (fun a c => a * 256 + c.toNat) a ≥ a * 256 ^ r.length := by
     intro r
     induction r with
     | nil => intro a; simp
     | cons d r ih =>
       intro a
       rw [List.foldl_cons, List.length_cons, Nat.pow_succ]
       refine Nat.le_trans ?_ (ih _)
       rw [Nat.mul_comm (256 ^ r.length) 256, ← Nat.mul_assoc]
       exact Nat.mul_le_mul_right _ (by omega)
    have h6 : r.length = 6 := by rw [hk'] at h8; simpa using h8
    have h2 := hl r ((0 * 256 + c0.toNat) * 256 + c1.toNat)
    have h3 : valB k = r.foldl (fun a c => a * 256 + c.toNat) ((0 * 256 + c0.toNat) * 256 + c1.toNat) := by rw [hk']; rfl
    rw [h6, show (256 : Nat) ^ 6 = 281474976710656 by decide] at h2
    rw [h3]
    omega)
   have HSM := Lib.hid (show ¬ 0 < c0.toNat → ¬ 0 < c1.toNat → ∀ j, valB (k.take j) < 281474976710656 by
    intro e0 e1 j
    have z0 : c0.toNat = 0 := by omega
    have z1 : c1.toNat = 0 := by omega
    have h6 : r.length = 6 := by rw [hk'] at h8; simpa using h8
    rw [hk']
    match j with
    | 0 => simp [valB]
    | 1 => simp [valB, z0]
    | j + 2 =>
      have h1 : valB ((c0 :: c1 :: r).take (j + 2)) = valB (r.take j) := by simp [valB, z0, z1]
      rw [h1]
      refine Nat.lt_of_lt_of_le (valB_lt _) ?_
      rw [show (281474976710656 : Nat) = 256 ^ 6 by decide]
      exact Nat.pow_le_pow_right (by omega) (by rw [List.length_take]; omega))
   clear hk'
   by_cases h0 : 0 < c0.toNat
   · have HR := Lib.hid (numRet_no (k := k) (by unfold numB; rw [if_neg (fun h => by have := HBIG.out (Or.inl h0); omega)]))
     clear h8 HBIG
     go_enter Tryz.func78, Tryz.ntmps78
     go_wp2_with fail
     go_ret2
     exact ⟨HR.out, rfl⟩
   · by_cases h1 : 0 < c1.toNat
     · have HR := Lib.hid (numRet_no (k := k) (by unfold numB; rw [if_neg (fun h => by have := HBIG.out (Or.inr h1); omega)]))
       clear h8 HBIG
       go_enter Tryz.func78, Tryz.ntmps78
       go_wp2_with fail
       go_ret2
       exact ⟨HR.out, rfl⟩
     · have H8 := Lib.hid h8
       have HV := Lib.hid (HSM.out h0 h1)
       clear HBIG HSM
       go_enter Tryz.func78, Tryz.ntmps78
       go_wp2_with fail
       clear g0 g1 h0 h1
       go_loop [4, 5] (fun m i => ∃ j : Nat, j ≤ 8 ∧ i = .int .i64 j ∧ m = .int .i64 ((valB (k.take j) : Nat) : Int)) (fun _ i => 8 - (intOf i).toNat)
       case atStart => exact ⟨0, by omega, rfl, rfl⟩
       case round =>
        obtain ⟨j, hj, rfl, rfl⟩ := hrel
        by_cases hlt : j < 8
        · have hlt' : j < k.length := by have := H8.out; omega
          have HT := Lib.hid (valB_take k j hlt')
          have hv := HV.out j
          have gj : (ByteArray.mk k.toArray)[j]'(by show j < k.toArray.size; simpa using hlt') = k[j] := by
           show k.toArray[j]'_ = k[j]
           simp
          generalize valB (k.take j) = q at HT hv ⊢
          generalize k[j] = d at gj HT
          have hd := d.toNat_lt
          have hwd : IntKind.i64.wrap (d.toNat : Int) = (d.toNat : Int) := IntWalk.i64_in _ (by omega)
          go_wp2_with fail
          go_round
          case rel => exact ⟨j + 1, by omega, by go_num, by rw [HT.out]; simp⟩
          case measure => simp [intOf]; omega
        · obtain rfl : j = 8 := by omega
          rw [List.take_of_length_le (by have := H8.out; omega)]
          by_cases hm : valB k ≤ 1099511627776
          · have HR := Lib.hid (numRet_yes (k := k) (n := valB k) (by unfold numB; rw [if_pos ⟨H8.out, hm⟩]))
            generalize valB k = q at hm HR ⊢
            go_wp2_with fail
            go_ret2
            exact ⟨HR.out, rfl⟩
          · have HR := Lib.hid (numRet_no (k := k) (by unfold numB; rw [if_neg (fun h => hm h.2)]))
            generalize valB k = q at hm ⊢
            go_wp2_with fail
            go_ret2
            exact ⟨HR.out, rfl⟩
 · have hb8 : ((k.length : Int) != 8) = true := by simp; omega
   have HR := Lib.hid (numRet_no (k := k) (by unfold numB; rw [if_neg (fun h => h8 h.1)]))
   clear h8
   go_enter Tryz.func78, Tryz.ntmps78
   go_wp2_with fail
   go_ret2
   exact ⟨HR.out, rfl⟩
end Go.Proofs.YtcefkngblddpoaaGreatDoor
