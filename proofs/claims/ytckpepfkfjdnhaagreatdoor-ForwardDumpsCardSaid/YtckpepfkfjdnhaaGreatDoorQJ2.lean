/-
  Walks: numbers as keys, by the program and by the reference. Condition: the number can be stored; a key of a sensible length.
-/
import Derived.Test.YtckpepfkfjdnhaaGreatDoorQJ1
import Derived.Test.YtckpepfkfjdnhaaGreatDoorQB
import Derived.Test.YtckpepfkfjdnhaaGreatDoorQI
import Derived.Lib.ConvBytes
import Derived.Laws.BitsAllLaws
namespace Go.Proofs.YtckpepfkfjdnhaaGreatDoor
open Go.RowKit Go.Sort
attribute [local go_sem] ByteArray.mk_append_mk

/-- The cells of bytes. -/
def cellsB (l : By) : Array Value := (l.map fun b => Value.int .u8 (b.toNat : Int)).toArray
theorem cellsB_get (l : By) (i : Nat) (h : i < l.length) : (cellsB l)[i]? = some (.int .u8 (l[i].toNat : Int)) := by simp [cellsB, h]
theorem cellsB_set (l : By) (i : Nat) (b : UInt8) : (cellsB l).setIfInBounds i (.int .u8 (b.toNat : Int)) = cellsB (l.set i b) := by
 apply Array.ext'
 simp [cellsB, List.map_set]
theorem cellsB_ints (l : By) : cellsB l = ((l.map fun b => (b.toNat : Int)).map (Value.int .u8)).toArray := by simp [cellsB]
theorem conv_cells {w : World} {g n : Nat} {l : By} {t : TypeId} {fr : Nat × Nat} (hg : w.heap[g]? = some (.cells (cellsB l) t fr)) (hn : l.length = n) :
   (convert 109 9 (.slice (some ⟨g, 0, none⟩) n n)).run Tryz.prog w = .ok (sv l) w := by
 rw [cellsB_ints] at hg
 rw [conv_at w g n _ t fr hg (by simpa using hn), str_bytes]; rfl

theorem tail_front : ∀ i n, tailB (i + 1) n = b8 (n / 256 ^ i) :: tailB i n
 | 0, n => by simp [tailB, b8_mod]
 | i + 1, n => by
   rw [tailB, tail_front i (n / 256), tailB, Nat.div_div_eq_div_mul, Nat.pow_succ, Nat.mul_comm 256]
   rfl
/-- The array of a number, its last i bytes written. -/
def slotA (i n : Nat) : By := List.replicate (8 - i) 0 ++ tailB i n
theorem slotA_len (i n : Nat) (h : i ≤ 8) : (slotA i n).length = 8 := by simp [slotA, tailB_len]; omega
theorem slotA_step (i n : Nat) (h : i < 8) : (slotA i n).set (7 - i) (b8 (n / 256 ^ i)) = slotA (i + 1) n := by
 unfold slotA
 rw [tail_front]
 have e : List.replicate (8 - i) (0 : UInt8) = List.replicate (8 - (i + 1)) 0 ++ [0] := by
   rw [show 8 - i = (8 - (i + 1)) + 1 by omega, List.replicate_succ']
 rw [e, List.append_assoc, List.set_append_right _ _ (by simp)]
 congr 1
 simp
theorem slotA_all (n : Nat) : slotA 8 n = slotB n := by simp [slotA, slotB]

theorem two_below0 (w : World) (cs : Array Value) (t : TypeId) : Below w.heap.size w (w.alloc (.cells cs t)) := (Below.refl _ _).alloc (Nat.le_refl _) _
set_option maxRecDepth 100000 in
set_option maxHeartbeats 1000000 in
theorem slot_any (n : Nat) (w : World) (hn : n ≤ 1099511627776) : Calls Tryz.prog 42 #[.int .i64 n] w fun e w' => e = .returned (sv (slotB n)) ∧ Below w.heap.size w w' := by
 have hn0 : ((0 : Int) ≤ (n : Int)) := by omega
 have hn1 : (n : Int) ≤ 1099511627776 := by omega
 have H := Lib.hid (show inP n 0 1099511627776 = true by simp [inP]; omega)
 have HI := Lib.hid (show (cellsB (slotA 0 n)) = #[.int .u8 0, .int .u8 0, .int .u8 0, .int .u8 0, .int .u8 0, .int .u8 0, .int .u8 0, .int .u8 0] by rfl)
 go_enter Tryz.func42, Tryz.ntmps42
 go_wp2_with fail
 refine (within_any n 0 1099511627776 _).mono ?_
 rintro e w1 ⟨rfl, rfl⟩
 rw [H.out]
 go_wp2_with fail
 go_loopw [8] (fun i wr => ∃ j : Nat, j ≤ 8 ∧ i = .int .i64 j ∧ wr.heap[w.heap.size]? = some (.cells (cellsB (slotA j n)) 143 (0, 0)) ∧ Below w.heap.size w wr) (fun i _ => 8 - (intOf i).toNat)
 case atStart => exact ⟨0, by omega, rfl, by rw [HI.out]; exact heap_alloc_new w _, two_below0 w _ _⟩
 case round =>
   obtain ⟨j, hj, rfl, hA, hb⟩ := hrel
   have HA := Lib.hid hA
   have HB := Lib.hid hb
   clear hA hb
   by_cases hlt : j < 8
   · have hcell := cell_at (i := 7 - j) HA.out (cellsB_get _ (7 - j) (by rw [slotA_len j n hj]; omega))
     have hfree := free_at HA.out (7 - j)
     have hsub : (7 : Int) - (j : Int) = ((7 - j : Nat) : Int) := by omega
     have hmul : ((8 : Int) * (j : Int)).toNat = 8 * j := by omega
     have hw : IntKind.u8.wrap ((n : Int) / 2 ^ (8 * j)) = ((b8 (n / 256 ^ j)).toNat : Int) := by
       have h1 : (256 : Nat) ^ j = 2 ^ (8 * j) := by rw [Nat.pow_mul]
       have h2 : ((n : Int) / 2 ^ (8 * j)) = ((n / 2 ^ (8 * j) : Nat) : Int) := by simp
       rw [h1, h2, IntKind.wrap_u8]
       simp [b8]
     have HS := Lib.hid (slotA_step j n hlt)
     generalize b8 (n / 256 ^ j) = q at hw HS
     go_wp2_with fail
     go_roundw
     case rel =>
       refine ⟨j + 1, by omega, by go_num, ?_, HB.out.setCell (by simp) _⟩
       rw [heap_setCell_same _ _ _ _ _ _ HA.out, cellsB_set, HS.out]
     case measure => simp [intOf]; omega
   · obtain rfl : j = 8 := by omega
     have hcv := conv_cells HA.out (slotA_len 8 n (by omega))
     go_wp2_with fail
     go_ret
     exact ⟨by rw [slotA_all]; rfl, HB.out⟩

abbrev bytesV (l : By) : List Value := l.map fun b => Value.int .u8 (b.toNat : Int)
/-- The cells of an own row. -/
theorem news_own {w : World} {base : Nat} {e : TypeId} {v : Value} {n : Nat} {xs : List Value} (h : w.ownsRow base e 1 v n xs) : ∃ ad c, v = .slice ad n c ∧ NewsAt w w.heap.size ad n c xs := by
 rcases h.2 with ⟨rfl, rfl⟩ | ⟨g, cap, cur, rfl, hbase, hblk, q1, q2, q3, q4⟩
 · exact ⟨none, 0, rfl, ⟨Or.inr ⟨rfl, rfl, rfl⟩⟩⟩
 · have q5 : cur.toList.take n = xs := by rw [← q4, Nat.mul_one]
   refine ⟨_, cap, rfl, ⟨Or.inl ⟨_, rfl, lt_of_block hblk, fun j u hj => ?_⟩⟩⟩
   refine news_at hblk j u ?_
   rw [← q5, List.getElem?_take] at hj
   split at hj
   · exact hj
   · cases hj
theorem conv_own {w : World} {base : Nat} {v : Value} {n : Nat} {l : By} (h : w.ownsRow base 5 1 v n (bytesV l)) (hn : 0 < n) : (convert 109 9 v).run Tryz.prog w = .ok (sv l) w := by
 have hl : l.length = n := by have := h.1; simpa using this
 rcases h.2 with ⟨rfl, h0⟩ | ⟨g, cap, cur, rfl, hbase, hblk, q1, q2, q3, q4⟩
 · omega
 · have q5 : cur.toList.take n = bytesV l := by rw [← q4, Nat.mul_one]
   have hx := run_convert_bytes_arg (P := Tryz.prog) w 109 5 Tryz.underlying109 Tryz.underlying5 g 0 n cap (l.map fun b => (b.toNat : Int)) (by simpa using hl) (fun i hi => by
     rw [Nat.zero_add, cell_of_row _ _ _ _ _ _ hblk]
     have h1 : (cur.toList.take n)[i]? = (bytesV l)[i]? := by rw [q5]
     have hil : i < l.length := by omega
     rw [List.getElem?_take, if_pos hi] at h1
     simp [hil] at h1
     simpa [List.getD, hil] using h1) 9 Tryz.underlying9
   rw [hx, str_bytes]; rfl

section
variable {P : Program} {w : World}
/-- A row that lies in cells is appended to an own row. -/
theorem wpList_append_rows0 {ops : Array Oper} {rest : List Oper} {o : Oper} {a : Act} {Q : Exit → Act → World → Prop} (hgd : o.guard = none) (s x : Operand) (t : TypeId)
   (ho : o.op = .call { callee := .builtin .append, args := #[s, x], argTypes := #[t, t] })
   (base : Nat) (e : TypeId) (i : TypeInfo) (z : Value) (size bytes : Nat) (ht : P.underlying t = some (.slice e)) (hi : P.info? e = some i) (hz : i.zero = some z)
   (hsize : i.size = size) (hby : i.bytes = bytes) (hzs : z.cells.size = size) (hsz : 0 < size)
   (v : Value) (n : Nat) (xs : List Value) (hs : a.eval s = v) (hown : w.ownsRow base e size v n xs)
   (ad : Option Addr) (m c : Nat) (news : List Value) (hx : a.eval x = .slice ad m c) (hl : news.length = m * size)
   (hnews : (∃ p, ad = some p ∧ ∀ (j : Nat) (u : Value), news[j]? = some u → w.cell? (p.add j) = some u) ∨ (ad = none ∧ c = 0 ∧ m = 0)) (h1 : ∀ u ∈ news, u.oneCell' = true)
   (h63 : n + m ≤ maxLen) (hbytes : (n + m) * bytes ≤ 140737488355328) (hbase : base ≤ w.heap.size)
   (h : ∀ v' w', w'.ownsRow base e size v' (n + m) (xs ++ news) → w.grownBy w' v.ownBlock → wpList P ops Q rest (a.put o.dst v') w') : wpList P ops Q (o :: rest) a w := by
 rcases hnews with ⟨p, rfl, hc⟩ | ⟨rfl, rfl, rfl⟩
 · exact wpList_append_own w hgd s x t ho base e i z size bytes ht hi hz hsize hby hzs hsz v n xs hs hown p m c news hx hl hc h1 h63 hbytes hbase fun v' w' h2 h3 _ => h v' w' h2 h3
 · have hn : news = [] := List.length_eq_zero_iff.1 (by rw [hl]; simp)
   subst hn
   refine wpList_plain hgd fun K hK => ?_
   unfold Oper.wp execOp
   simp only [ho, resolve, invoke, builtin, Sem.run_bind, Sem.run_pure, Result.andThen_ok, List.map_toArray, List.map_cons, List.map_nil, hs, hx, run_append_owned_none (P := P) w base t o.type e i size ht hi v n xs hown]
   exact hK _ _ (h v w (by rw [List.append_nil]; exact hown) ⟨rfl, rfl, rfl, Nat.le_refl _, fun _ _ _ => rfl⟩)
end
theorem infoB : (Tryz.prog.info? 5).map (fun i => (i.zero, i.size, i.bytes)) = some (some (.int .u8 0), 1, 1) := by kernel_rfl
set_option maxRecDepth 100000 in
set_option maxHeartbeats 1000000 in
theorem rslot_any (n : Nat) (w : World) (hn : n ≤ 1099511627776) : Calls Tryz.prog 30 #[.int .i64 n] w fun e w' => e = .returned (sv (slotB n)) ∧ Below w.heap.size w w' := by
 obtain ⟨i0, hi0, hz0, hz1, hz2⟩ := info_parts infoB
 have hn0 : ((0 : Int) ≤ (n : Int)) := by omega
 have hn1 : (n : Int) ≤ 1099511627776 := by omega
 go_enter Tryz.func30, Tryz.ntmps30
 go_wp2_with fail
 go_loopw [0, 3, 4] (fun m v i wr => ∃ j : Nat, j ≤ 8 ∧ i = .int .i64 j ∧ m = .int .i64 ((n / 256 ^ j : Nat) : Int) ∧ wr.ownsRow w.heap.size 5 1 v j (bytesV (tailB j n)) ∧ Below w.heap.size w wr) (fun _ _ i _ => 8 - (intOf i).toNat)
 case atStart => exact ⟨0, by omega, rfl, by simp, lit0 _ rfl (Nat.le_refl _), two_below0 w _ _⟩
 case round =>
   obtain ⟨j, hj, rfl, rfl, ho, hb⟩ := hrel
   have HB := Lib.hid hb
   by_cases hlt : j < 8
   · have HT := Lib.hid (show bytesV (tailB (j + 1) n) = Value.int .u8 ((n / 256 ^ j % 256 : Nat) : Int) :: bytesV (tailB j n) by
       rw [tail_front]; simp [b8])
     have HD := Lib.hid (show n / 256 ^ j / 256 = n / 256 ^ (j + 1) by rw [Nat.div_div_eq_div_mul, Nat.pow_succ])
     have hle : n / 256 ^ j ≤ 1099511627776 := Nat.le_trans (Nat.div_le_self _ _) hn
     generalize n / 256 ^ j = q at HT HD hle ⊢
     have hq0 : (0 : Int) ≤ (q : Int) := by omega
     have hq1 : (q : Int) ≤ 1099511627776 := by omega
     have m1 : (q : Int).tmod 256 = ((q % 256 : Nat) : Int) := by rw [Int.tmod_eq_emod_of_nonneg (by omega)]; omega
     have m2 : IntKind.u8.wrap ((q % 256 : Nat) : Int) = ((q % 256 : Nat) : Int) := by rw [IntKind.wrap_u8]; omega
     have m3 : (q : Int).tdiv 256 = ((q / 256 : Nat) : Int) := by rw [Int.tdiv_eq_ediv_of_nonneg (by omega)]; omega
     obtain ⟨ad, c, rfl, hnew⟩ := news_own ho
     have HN := Lib.hid hnew
     clear hnew ho hb
     go_wp2_with (refine wpList_append_rows0 rfl _ _ 109 rfl w.heap.size 5 i0 (.int .u8 0) 1 1 Tryz.underlying109 hi0 hz0 hz1 hz2 rfl (by decide) _ _ _ rfl (World.ownsRow_lit (base := w.heap.size) (e := 5) (size := 1) wr #[.int .u8 ((q % 256 : Nat) : Int)] 1 HB.out.size (by simp [maxLen]) rfl) ad j c (bytesV (tailB j n)) rfl ?b1 ?b2 ?b3 ?b4 ?b5 ?b6 ?_)
     case b1 => simp [tailB_len]
     case b2 => exact (HN.out.below ((Below.refl _ _).alloc (Nat.le_refl _) _)).out
     case b3 => simp [Value.oneCell']
     case b4 => simp only [maxLen]; omega
     case b5 => omega
     case b6 => have := HB.out.size; simp; omega
     intro v' w' ho' hg'
     have HB2 := Lib.hid ((HB.out.alloc HB.out.size (.cells #[.int .u8 ((q % 256 : Nat) : Int)] 5)).grown hg' (HB.out.alloc HB.out.size _).size (fun k hk => by simp [Value.ownBlock] at hk; have := HB.out.size; omega))
     have HO2 := Lib.hid (show w'.ownsRow w.heap.size 5 1 v' (j + 1) (bytesV (tailB (j + 1) n)) by rw [HT.out, Nat.add_comm]; exact ho')
     clear ho' hg'
     go_wp2_with fail
     go_roundw
     case rel => exact ⟨j + 1, by omega, by go_num, by rw [← HD.out]; simp, HO2.out, HB2.out⟩
     case measure => simp [intOf]; omega
   · obtain rfl : j = 8 := by omega
     have hcv := conv_own ho (by omega)
     obtain ⟨ad, c, rfl, _⟩ := news_own ho
     clear ho hb
     go_wp2_with fail
     go_ret
     exact ⟨rfl, HB.out⟩

/-! Numbers of keys. -/
theorem valB_lt : ∀ l : By, valB l < 256 ^ l.length := by
 refine snoc_ind (by simp [valB]) fun l c ih => ?_
 rw [valB_snoc, List.length_append, List.length_singleton, Nat.pow_succ]
 have := c.toNat_lt
 omega
theorem valB_take (l : By) (j : Nat) (h : j < l.length) : valB (l.take (j + 1)) = valB (l.take j) * 256 + l[j].toNat := by
 rw [List.take_succ_eq_append_getElem h, valB_snoc]
/-- The bytes of a text, as a row. -/
theorem str_row (k : By) (w : World) : ∃ W c, (convert 9 109 (.string ⟨k.toArray⟩)).run Tryz.prog w = .ok (.slice (some ⟨w.heap.size, 0, none⟩) k.length c) W ∧ Below w.heap.size w W ∧ w.heap.size < W.heap.size ∧
   ∀ (i : Nat) (h : i < k.length), W.cell? ⟨w.heap.size, i, none⟩ = some (.int .u8 (k[i].toNat : Int)) := by
 refine ⟨_, _, Lib.run_convert_string_bytes (P := Tryz.prog) w 9 109 5 ⟨k.toArray⟩ Tryz.underlying9 Tryz.underlying109 Tryz.underlying5, ?_, ?_, fun i h => ?_⟩
 · exact ⟨rfl, rfl, rfl, by rw [Lib.bytesWorld_size]; omega, fun j hj => Lib.bytesWorld_at_old w _ _ j hj⟩
 · rw [Lib.bytesWorld_size]; omega
 · rw [Lib.bytesWorld_cell _ _ _ _ (by show i < k.toArray.size; simpa using h)]
   simp [List.getD, h]
theorem or_add2 (n x k : Nat) (h : n < 2 ^ k) : n ||| (x * 2 ^ k) = n + x * 2 ^ k := by
 rw [Nat.or_comm, Nat.mul_comm, ← Nat.two_pow_add_eq_or_of_lt h, Nat.add_comm]
theorem u64_push (n : Nat) (c : UInt8) (h : n < 72057594037927936) : bits .or .u64 ((n : Int) * 256) (IntKind.u64.wrap (c.toNat : Int)) = ((n * 256 + c.toNat : Nat) : Int) := by
 have hc := c.toNat_lt
 have h1 : (n : Int) * 256 = ((n * 2 ^ 8 : Nat) : Int) := by omega
 have h2 : IntKind.u64.wrap (c.toNat : Int) = (c.toNat : Int) := by rw [IntKind.wrap_u64]; omega
 rw [h2, h1, u64_or_nat _ _ (by omega) (by omega), Nat.or_comm, or_add2 _ _ _ (by omega)]
 omega
def NumRet (k : By) (e : Ending) : Prop := e = .returned (.tuple #[.int .i64 (numN k : Int), .bool (numB k).isSome])
theorem numRet_no {k : By} (h : numB k = none) : NumRet k (.returned (.tuple #[.int .i64 0, .bool false])) := by
 unfold NumRet numN; rw [h]; rfl
theorem numRet_yes {k : By} {n : Nat} (h : numB k = some n) : NumRet k (.returned (.tuple #[.int .i64 (n : Int), .bool true])) := by
 unfold NumRet numN; rw [h]; rfl

set_option maxRecDepth 100000 in
set_option maxHeartbeats 1000000 in
theorem knum_any (k : By) (w : World) (_hk : k.length ≤ 1000000) : Calls Tryz.prog 80 #[sv k] w fun e w' => NumRet k e ∧ Below w.heap.size w w' := by
 unfold sv
 by_cases h8 : k.length = 8
 · have hb8 : ((k.length : Int) != 8) = false := by simp [h8]
   go_enter Tryz.func80, Tryz.ntmps80
   obtain ⟨W1, c1, hcv, hb1, hz1, hce⟩ := str_row k w
   have HCE := Lib.hid hce
   have HB1 := Lib.hid hb1
   clear hce hb1
   go_wp2_with fail
   clear hcv
   go_loop [4, 13] (fun m i => ∃ j : Nat, j ≤ 8 ∧ i = .int .i64 j ∧ m = .int .u64 ((valB (k.take j) : Nat) : Int)) (fun _ i => 8 - (intOf i).toNat)
   case atStart => exact ⟨0, by omega, rfl, rfl⟩
   case round =>
     obtain ⟨j, hj, rfl, rfl⟩ := hrel
     by_cases hlt : j < 8
     · have hlt' : j < k.length := by omega
       have hc := HCE.out j hlt'
       have HT := Lib.hid (valB_take k j hlt')
       have hv : valB (k.take j) < 72057594037927936 := by
         have h1 := valB_lt (k.take j)
         have h2 : (256 : Nat) ^ (k.take j).length ≤ 256 ^ 7 := Nat.pow_le_pow_right (by omega) (by rw [List.length_take]; omega)
         have h3 : (256 : Nat) ^ 7 = 72057594037927936 := by decide
         omega
       have HU := Lib.hid (u64_push (valB (k.take j)) k[j] hv)
       generalize valB (k.take j) = q at HT hv HU ⊢
       generalize k[j] = d at hc HT HU
       clear h8 hb8
       go_wp2_with fail
       go_round
       case rel => exact ⟨j + 1, by omega, by go_num, by rw [HT.out, ← HU.out]⟩
       case measure => simp [intOf]; omega
     · obtain rfl : j = 8 := by omega
       rw [List.take_of_length_le (by omega)]
       have h64 : valB k < 256 ^ 8 := by have := valB_lt k; rwa [h8] at this
       have h3 : (256 : Nat) ^ 8 = 18446744073709551616 := by decide
       by_cases hm : valB k ≤ 1099511627776
       · have HR := Lib.hid (numRet_yes (k := k) (n := valB k) (by unfold numB; rw [if_pos ⟨h8, hm⟩]))
         have hw : IntKind.i64.wrap ((valB k : Nat) : Int) = ((valB k : Nat) : Int) := IntWalk.i64_in _ (by omega)
         generalize valB k = q at h64 hm HR hw ⊢
         clear h8 hb8 h3 h64
         go_wp2_with fail
         go_ret2
         exact ⟨HR.out, HB1.out⟩
       · have HR := Lib.hid (numRet_no (k := k) (by unfold numB; rw [if_neg (fun h => hm h.2)]))
         generalize valB k = q at h64 hm ⊢
         clear h8 hb8 h3 h64
         go_wp2_with fail
         go_ret2
         exact ⟨HR.out, HB1.out⟩
 · have hb8 : ((k.length : Int) != 8) = true := by simp; omega
   have HR := Lib.hid (numRet_no (k := k) (by unfold numB; rw [if_neg (fun h => h8 h.1)]))
   clear h8
   go_enter Tryz.func80, Tryz.ntmps80
   go_wp2_with fail
   go_ret2
   exact ⟨HR.out, Below.refl _ _⟩

end Go.Proofs.YtckpepfkfjdnhaaGreatDoor
