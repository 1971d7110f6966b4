/-
  append as a step of a region that draws its order; rows read as a source. No condition.
  Walks: records of the same length, packed by the program. Conditions: valid sizes, at most 1000 records of the length.
  Walks: records with lengths of their own, packed by the program. Conditions: valid sizes, at most 1000 records of at most the length.
  Walks: records of the same length, packed by the reference. Conditions: valid sizes, at most 40000 records of the length.
  Walks: whether a list holds a record of a kind that a closure tells. Condition: the closure answers and changes nothing.
-/
import Derived.Test.YthkpcalopmddpaaGreatDoorS11
import Derived.Test.YthkpcalopmddpaaGreatDoorShelf
import Derived.Test.YthkpcalopmddpaaGreatDoorGB
import Derived.Test.YthkpcalopmddpaaGreatDoorS12
import Derived.Laws.Rows
import Derived.StillTailTactics
namespace Go.Proofs.YthkpcalopmddpaaGreatDoor

section
open Go.RowKit Go.Sort

section
variable {P : Program} {ops : Array Oper} {o : Oper} {a : Act} {w w' : World} {K : Act → World → Prop} {Q : Exit → Act → World → Prop} {E : Prop}
/-- append, whose run is known, as one step of a region that draws. -/
theorem step_append_run (hg : o.guard = none) (s x : Operand) (t : TypeId) (hop : o.op = Op.call { callee := Callee.builtin Builtin.append, args := #[s, x], argTypes := #[t, t] })
    (vs vx v' : Value) (hs : a.eval s = vs) (hx : a.eval x = vx) (hrun : (Builtin.append_ #[t, t] o.type #[vs, vx]).run P w = .ok v' w')
    (hK : K (a.put o.dst v') w') : if Region.wanted o (yielded ops a.tmps) = true then Oper.wp P o a w K Q else E := by
  have hw : Region.wanted o (yielded ops a.tmps) = true := by simp [Region.wanted, hg]
  rw [if_pos hw]
  unfold Oper.wp
  simp [execOp, hop, resolve, invoke, builtin, hs, hx, hrun, Result.andThen]
  exact hK
end

section
variable {ops : Array Oper} {o : Oper} {a : Act} {w : World} {K : Act → World → Prop} {Q : Exit → Act → World → Prop} {E : Prop}
/-- append whose source lies in cells, onto a row in new memory. -/
theorem step_append_row (base : Nat) (e : TypeId) (i : TypeInfo) (z : Value) (size bytes : Nat) (hi : Tryz.prog.info? e = some i) (hz : i.zero = some z) (hsz : i.size = size) (hby : i.bytes = bytes) (hzs : z.cells.size = size) (h0 : 0 < size) (h24 : bytes ≤ 24)
    (hg : o.guard = none) (s x : Operand) (t : TypeId) (hop : o.op = Op.call { callee := Callee.builtin Builtin.append, args := #[s, x], argTypes := #[t, t] }) (ht : Tryz.prog.underlying t = some (.slice e))
    (vs : Value) (hs : a.eval s = vs) (n : Nat) (xs : List Value) (hown : w.ownsRow base e size vs n xs)
    (ad : Option Addr) (m c : Nat) (hx : a.eval x = .slice ad m c) (news : List Value) (hl : news.length = m * size)
    (hnews : (∃ p, ad = some p ∧ ∀ j u, news[j]? = some u → w.cell? (p.add j) = some u) ∨ (ad = none ∧ c = 0 ∧ m = 0)) (h1 : ∀ u ∈ news, u.oneCell' = true) (hlen : n + m ≤ 1000000) (hbase : base ≤ w.heap.size)
    (hK : ∀ v' w', w'.ownsRow base e size v' (n + m) (xs ++ news) → w.grownBy w' vs.ownBlock → K (a.put o.dst v') w') :
    if Region.wanted o (yielded ops a.tmps) = true then Oper.wp Tryz.prog o a w K Q else E := by
  rcases hnews with ⟨p, rfl, hc⟩ | ⟨rfl, rfl, rfl⟩
  · obtain ⟨v', w', hr, h2, h3, _, _⟩ := run_append_own_at (P := Tryz.prog) w base t o.type e i z size bytes ht hi hz hsz hby hzs h0 vs n xs hown p m c news hl hc h1 (by simp only [maxLen]; omega) (Nat.le_trans (Nat.mul_le_mul hlen h24) (by decide)) hbase
    exact step_append_run hg s x t hop _ _ _ hs hx hr (hK _ _ h2 h3)
  · have hn : news = [] := List.length_eq_zero_iff.1 (by rw [hl]; simp)
    subst hn
    exact step_append_run hg s x t hop _ _ _ hs hx (run_append_owned_none (P := Tryz.prog) w base t o.type e i size ht hi vs n xs hown) (hK _ _ (by rw [List.append_nil]; exact hown) ⟨rfl, rfl, rfl, Nat.le_refl _, fun _ _ _ => rfl⟩)
end


theorem lit0 {W : World} {base k : Nat} (e : TypeId) (hk : k = W.heap.size) (hb : base ≤ W.heap.size) : (W.alloc (.cells #[] e)).ownsRow base e 1 (.slice (some ⟨k, 0, none⟩) 0 0) 0 [] := by
  subst hk; exact World.ownsRow_lit (base := base) (e := e) (size := 1) W #[] 0 hb (by simp [maxLen]) rfl
theorem bel_a1 {w : World} {o : Obj} : Below w.heap.size w (w.alloc o).drew := below_drewN ((Below.refl w.heap.size w).alloc (Nat.le_refl _) o) 1
theorem bel_a2 {w : World} {o o' : Obj} : Below w.heap.size w ((w.alloc o).alloc o').drew := below_drewN (((Below.refl w.heap.size w).alloc (Nat.le_refl _) o).alloc (by simp) o') 1
theorem cell_alloc1 {w : World} {p : Addr} {v : Value} {o : Obj} (h : w.cell? p = some v) : (w.alloc o).cell? p = some v := by
  rw [((Below.refl w.heap.size w).alloc (Nat.le_refl _) o).cell (block_lt_of_cell h)]; exact h
/-- The source of an append: the values lie below block B, or there are none. -/
structure NewsAt (w : World) (B : Nat) (ad : Option Addr) (m c : Nat) (news : List Value) : Prop where
  src : (∃ p, ad = some p ∧ p.block < B ∧ ∀ (j : Nat) (u : Value), news[j]? = some u → w.cell? (p.add j) = some u) ∨ (ad = none ∧ c = 0 ∧ m = 0)
theorem NewsAt.out {w : World} {B : Nat} {ad : Option Addr} {m c : Nat} {news : List Value} (h : NewsAt w B ad m c news) : (∃ p, ad = some p ∧ ∀ (j : Nat) (u : Value), news[j]? = some u → w.cell? (p.add j) = some u) ∨ (ad = none ∧ c = 0 ∧ m = 0) := by
  rcases h.src with ⟨p, h1, _, h3⟩ | h
  · exact Or.inl ⟨p, h1, h3⟩
  · exact Or.inr h
theorem NewsAt.below {w w' : World} {B : Nat} {ad : Option Addr} {m c : Nat} {news : List Value} (h : NewsAt w B ad m c news) (hb : Below B w w') : NewsAt w' B ad m c news := by
  rcases h.src with ⟨p, h1, h2, h3⟩ | h
  · exact ⟨Or.inl ⟨p, h1, h2, fun j u hj => (hb.cell (p := p.add j) (by rw [block_of_add]; exact h2)).trans (h3 j u hj)⟩⟩
  · exact ⟨Or.inr h⟩
theorem NewsAt.mono {w : World} {B B' : Nat} {ad : Option Addr} {m c : Nat} {news : List Value} (h : NewsAt w B ad m c news) (hB : B ≤ B') : NewsAt w B' ad m c news := by
  rcases h.src with ⟨p, h1, h2, h3⟩ | h
  · exact ⟨Or.inl ⟨p, h1, by omega, h3⟩⟩
  · exact ⟨Or.inr h⟩
theorem newsAt_of_row {w : World} {base : Nat} {e : TypeId} {v : Value} {l : List By} (h : w.ownsRow base e 1 v l.length (l.map sv)) : ∃ ad c, v = .slice ad l.length c ∧ NewsAt w w.heap.size ad l.length c (l.map sv) ∧ Strs w w.heap.size ad l := by
  rcases h.2 with ⟨rfl, hn⟩ | ⟨g, cap, cur, rfl, hbase, hblk, q1, q2, q3, q4⟩
  · have : l = [] := List.length_eq_zero_iff.1 hn
    subst this; exact ⟨none, 0, rfl, ⟨Or.inr ⟨rfl, rfl, rfl⟩⟩, strs_nil _ _ _⟩
  · have q5 : cur.toList.take l.length = l.map sv := by rw [← q4, Nat.mul_one]
    refine ⟨_, cap, rfl, ⟨Or.inl ⟨_, rfl, lt_of_block hblk, fun j u hj => ?_⟩⟩, ⟨fun _ => ⟨g, 0, rfl, lt_of_block hblk, fun i hi => ?_⟩⟩⟩
    · refine news_at hblk j u ?_
      rw [← q5, List.getElem?_take] at hj
      split at hj
      · exact hj
      · simp at hj
    · rw [Nat.zero_add, cell_of_row w g i cur e (0, 0) hblk]
      have hi2 : (l.map sv)[i]? = some (.string ⟨l[i].toArray⟩) := by simp [hi, sv]
      rw [← q5, List.getElem?_take, if_pos hi] at hi2
      simpa using hi2
theorem one_sv (l : List By) : ∀ u ∈ l.map sv, u.oneCell' = true := by
  intro u hu; obtain ⟨z, _, rfl⟩ := List.mem_map.1 hu; rfl
end

section
open Go.RowKit Go.Sort
attribute [local go_sem] ByteArray.mk_append_mk strOfNums_size ext_drop ext_take

theorem join_flat : ∀ l : List By, Lib.join l [] = l.flatten
  | [] => rfl
  | [a] => by simp [Lib.join, List.intercalate]
  | a :: b :: l => by
    have h := join_flat (b :: l)
    unfold Lib.join List.intercalate at h ⊢
    rw [List.intersperse_cons_cons]
    simp only [List.flatten_cons, List.nil_append] at h ⊢
    rw [h]
theorem flat_le (l : List By) (k : Nat) (h : ∀ r ∈ l, r.length ≤ k) : l.flatten.length ≤ l.length * k := by
  induction l with
  | nil => simp
  | cons r l ih =>
    have h1 := h r (by simp)
    have h2 := ih (fun x hx => h x (List.mem_cons_of_mem _ hx))
    simp only [List.flatten_cons, List.length_append, List.length_cons, Nat.add_mul, Nat.one_mul]; omega
theorem join_any (b o c : Nat) (l : List By) (w : World) (h : ∀ i (hi : i < l.length), w.cell? ⟨b, o + i, none⟩ = some (.string ⟨l[i].toArray⟩)) (hb : b < w.heap.size) (hl : l.length ≤ 1000) (hc : l.length ≤ c) (hk : ∀ r ∈ l, r.length ≤ 2000) :
    Calls Tryz.prog 107 #[.slice (some ⟨b, o, none⟩) l.length c, .string ⟨#[]⟩] w fun e w' => e = .returned (.string (bs l.flatten)) ∧ Below w.heap.size w w' := by
  have hm : (l.map bs).map (fun s => s.data.toList) = l := by rw [List.map_map]; exact List.map_id l
  have hj := Tryz.strings_Join b o c (l.map bs) ⟨#[]⟩ w (fun j x hx => by
    rw [List.getElem?_map, Option.map_eq_some_iff] at hx
    obtain ⟨y, hy, rfl⟩ := hx
    obtain ⟨hj, rfl⟩ := List.getElem?_eq_some_iff.1 hy
    exact h j hj) hb (by rw [List.length_map]; omega) (by rw [List.length_map]; exact hc) (by
    rw [hm, show (ByteArray.mk #[]).data.toList = ([] : By) from rfl, join_flat]
    have := flat_le l 2000 hk
    have : l.length * 2000 ≤ 1000 * 2000 := Nat.mul_le_mul_right _ hl
    omega)
  rw [hm, List.length_map, show (ByteArray.mk #[]).data.toList = ([] : By) from rfl, join_flat] at hj
  exact hj

/-- What the second loop of Pack holds. -/
structure FixSt (w : World) (B most : Nat) (T : List By) (W : World) (A : Option Addr) (C : Nat) (rem out : List By) (v : Value) (f : Nat) : Prop where
  bel : Below w.heap.size w W
  str : Strs W B A rem
  cap : rem.length ≤ C
  tot : T = out ++ fixA most f rem
  fuel : rem.length ≤ f
  own : W.ownsRow w.heap.size 9 1 v out.length (out.map sv)
theorem fixA_le (most : Nat) (hm : 0 < most) : ∀ (f : Nat) (l : List By), (fixA most f l).length ≤ l.length
  | 0, _ => by simp [fixA]
  | f + 1, l => by
    unfold fixA
    split
    · simp
    · rename_i hn
      have := fixA_le most hm f (l.drop most)
      have : 0 < l.length := List.length_pos_iff.2 hn
      rw [List.length_drop] at *
      simp only [List.length_cons]; omega

set_option maxRecDepth 100000 in
set_option maxHeartbeats 4000000 in
theorem fpack_any (w : World) (B : Nat) (a : Option Addr) (cap : Nat) (l : List By) (len blk : Nat) (h : Strs w B a l) (hB : B ≤ w.heap.size) (hcap : l.length ≤ cap) (hc63 : cap ≤ 9223372036854775807) (hl : l.length ≤ 1000) (hv : fixV len blk = true) (hk : ∀ r ∈ l, r.length = len) :
    Calls Tryz.prog 87 #[.int .i64 len, .int .i64 blk, .slice a l.length cap] w fun e w' =>
      ∃ v, e = .returned (.tuple #[v, .int .i64 0]) ∧ w'.ownsRow w.heap.size 9 1 v (fixA (blk / len) l.length l).length ((fixA (blk / len) l.length l).map sv) ∧ Below w.heap.size w w' := by
  have hbd : 1 ≤ (len : Int) ∧ (len : Int) ≤ 1000 ∧ (len : Int) ≤ blk ∧ (blk : Int) ≤ 1024 := by simp [fixV] at hv; omega
  obtain ⟨d1, d2, d3, d4⟩ := hbd
  have hm1 : 1 ≤ blk / len := (Nat.le_div_iff_mul_le (by omega)).2 (by omega)
  have hm2 : blk / len ≤ 1024 := Nat.le_trans (Nat.div_le_self _ _) (by omega)
  have HM := Lib.hid (fun W => most_any len blk W hv)
  have HV := Lib.hid hv
  clear hv
  have hTl := fixA_le (blk / len) hm1 l.length l
  obtain ⟨i0, hi0, hz0, hz1, hz2⟩ := info_parts info9
  generalize hT0 : fixA (blk / len) l.length l = T at hTl ⊢
  have HT0 := Lib.hid hT0
  clear hT0
  go_enter Tryz.func87, Tryz.ntmps87
  go_wp2_with fail
  refine (fix_valid _ _ _).mono ?_
  rintro e w1 ⟨rfl, rfl⟩
  rw [HV.out]
  go_wp2_with fail
  go_loop [9, 19] (fun _ k => ∃ j : Nat, j ≤ l.length ∧ k = .int .i64 j) (fun _ k => l.length - (intOf k).toNat)
  case atStart => exact ⟨0, by omega, rfl⟩
  case round =>
    obtain ⟨j, hj, rfl⟩ := hrel
    by_cases hlt : j < l.length
    · obtain ⟨b, off, rfl, hbb, hc⟩ := h.get hlt
      have hkk := hk _ (List.getElem_mem hlt)
      generalize l[j] = r at hc hkk
      have hne : ((r.length : Int) == (len : Int)) = true := by rw [hkk]; simp
      have hne2 : ((r.length : Int) != (len : Int)) = false := by rw [hkk]; simp
      clear hkk
      go_wp2
      go_round
      case rel => exact ⟨j + 1, by omega, by go_num⟩
      case measure => simp [intOf]; omega
    · go_wp2_with fail
      refine (HM.out _).mono ?_
      rintro e w2 ⟨rfl, rfl⟩
      have HS := Lib.hid (show FixSt w B (blk / len) T w a cap l [] (.slice none 0 0) l.length from ⟨Below.refl _ _, h, hcap, HT0.out.symm, Nat.le_refl _, own_nil _ _ _ _⟩)
      clear HT0
      generalize blk / len = most at HS hm1 hm2 ⊢
      go_wp2_with fail
      go_loopw [2, 10] (fun rv v wr => ∃ A C rem out f, rv = .slice A rem.length C ∧ FixSt w B most T wr A C rem out v f ∧ rem.length ≤ 1000 ∧ (∀ r ∈ rem, r.length ≤ 1000) ∧ C ≤ 9223372036854775807) (fun rv _ _ => match rv with | .slice _ n _ => n | _ => 0)
      case atStart => exact ⟨_, _, _, _, _, rfl, HS.out, hl, fun r hr => by have := hk r hr; omega, hc63⟩
      case round =>
        clear HS
        obtain ⟨A, C, rem, out, f, rfl, hS, hrl, hrk, hC63⟩ := hrel
        have hol : out.length ≤ T.length := by rw [hS.tot, List.length_append]; omega
        by_cases hn : rem = []
        · subst hn
          have hT0 : T = out := by
            have h1 := hS.tot
            rw [show fixA most f [] = [] by cases f <;> simp [fixA], List.append_nil] at h1
            exact h1
          have HT := Lib.hid hT0
          clear hT0
          have HO := Lib.hid hS.own
          have HB := Lib.hid hS.bel
          clear hS
          go_wp2_with fail
          go_ret2
          rw [HT.out]
          exact ⟨_, rfl, HO.out, HB.out⟩
        · have hpos : 0 < rem.length := List.length_pos_iff.2 hn
          have hposI : (0 : Int) < (rem.length : Int) := by omega
          obtain ⟨f', rfl⟩ : ∃ f', f = f' + 1 := ⟨f - 1, by have := hS.fuel; omega⟩
          have hfu := hS.fuel
          have hcp := hS.cap
          obtain ⟨b, off, rfl, hbb, hcc⟩ := hS.str.cells hn
          have HT := Lib.hid (hS.tot.trans (by rw [fixA, if_neg hn]) : T = out ++ ((rem.take most).flatten :: fixA most f' (rem.drop most)))
          have HO := Lib.hid hS.own
          have HB := Lib.hid hS.bel
          have HK := Lib.hid hrk
          clear hS hrk
          by_cases hmr : most ≤ rem.length
          · have hmI : (most : Int) ≤ (rem.length : Int) := by omega
            have hmC : (most : Int) ≤ (C : Int) := by omega
            by_cases hCm : C = most
            · skip
              have hmn : min (most : Int) (rem.length : Int) = (most : Int) := by omega
              have hjn : (rem.take most).length = most := by rw [List.length_take]; omega
              have hj := join_any b off most (rem.take most) wr (fun i hi => by
                rw [hjn] at hi
                rw [hcc i (by omega), List.getElem_take]) (by have := HB.out.size; omega) (by omega) (by omega) (fun x hx => by have := HK.out x (List.mem_of_mem_take hx); omega)
              rw [hjn] at hj
              have hfl := flat_le (rem.take most) 1000 (fun x hx => by have := HK.out x (List.mem_of_mem_take hx); omega)
              have hfl2 : (rem.take most).flatten.length ≤ 1000000 := by rw [hjn] at hfl; omega
              have HT2 := Lib.hid (show T = out ++ [(rem.take most).flatten] ++ fixA most f' (rem.drop most) by rw [HT.out]; simp)
              generalize (rem.take most).flatten = jj at hj hfl2 HT2
              have HJ := Lib.hid hj
              clear hj hfl hjn
              go_wp2_with fail
              refine HJ.out.mono ?_
              rintro e w2 ⟨rfl, hb2⟩
              have hown2 := own_below HO.out hb2
              have HB2 := Lib.hid (HB.out.trans (hb2.mono HB.out.size))
              clear hb2 HJ
              go_wp2_with (at_builtin; go_must (refine wpList_append_own _ rfl _ _ 24 rfl w.heap.size 9 i0 (.string ByteArray.empty) 1 16 Tryz.underlying24 hi0 hz0 hz1 hz2 rfl (by decide) _ _ _ rfl (hown2.alloc _) _ 1 1 [.string ⟨jj.toArray⟩] rfl rfl ?e11 ?e21 ?e31 ?e41 ?e51 ?_))
              case e11 => exact news_at (cs := #[.string ⟨jj.toArray⟩]) (heap_alloc_new _ _)
              case e21 => simp [Value.oneCell']
              case e31 => unfold maxLen; (try simp); omega
              case e41 => (try simp); omega
              case e51 => have := HB2.out.size; simp at this ⊢; omega
              intro v6 w6 hown6 hg6 _
              have hbA := HB2.out.alloc HB2.out.size (.cells #[.string ⟨jj.toArray⟩] 9)
              have hb6 := hbA.grown hg6 hbA.size (fun k hk => row_own hown2 hk)
              have hown7 : w6.ownsRow w.heap.size 9 1 v6 (out ++ [jj]).length ((out ++ [jj]).map sv) := by simpa [sv] using hown6
              have hstr : Strs w6 B (some ⟨b, off, none⟩) (rem.drop most) := by rw [List.drop_eq_nil_of_le (by omega)]; exact strs_nil _ _ _
              have HZ := Lib.hid (show FixSt w B most T w6 (some ⟨b, off, none⟩) 0 (rem.drop most) (out ++ [jj]) v6 f' from ⟨hb6, hstr, by rw [List.length_drop]; omega, HT2.out, by rw [List.length_drop]; omega, hown7⟩)
              clear hown2 hown6 hown7 hg6 hbA hb6 hstr
              go_wp2
              go_roundw
              case rel => exact ⟨_, _, _, _, _, by first | (rw [List.length_drop]; done) | simp, HZ.out, by rw [List.length_drop]; omega, fun r hr => HK.out r (List.mem_of_mem_drop hr), by omega⟩
              case measure => simp; omega
            · skip
              have hmn : min (most : Int) (rem.length : Int) = (most : Int) := by omega
              have hjn : (rem.take most).length = most := by rw [List.length_take]; omega
              have hj := join_any b off C (rem.take most) wr (fun i hi => by
                rw [hjn] at hi
                rw [hcc i (by omega), List.getElem_take]) (by have := HB.out.size; omega) (by omega) (by omega) (fun x hx => by have := HK.out x (List.mem_of_mem_take hx); omega)
              rw [hjn] at hj
              have hfl := flat_le (rem.take most) 1000 (fun x hx => by have := HK.out x (List.mem_of_mem_take hx); omega)
              have hfl2 : (rem.take most).flatten.length ≤ 1000000 := by rw [hjn] at hfl; omega
              have HT2 := Lib.hid (show T = out ++ [(rem.take most).flatten] ++ fixA most f' (rem.drop most) by rw [HT.out]; simp)
              generalize (rem.take most).flatten = jj at hj hfl2 HT2
              have HJ := Lib.hid hj
              clear hj hfl hjn
              go_wp2_with fail
              refine HJ.out.mono ?_
              rintro e w2 ⟨rfl, hb2⟩
              have hown2 := own_below HO.out hb2
              have HB2 := Lib.hid (HB.out.trans (hb2.mono HB.out.size))
              clear hb2 HJ
              go_wp2_with (at_builtin; go_must (refine wpList_append_own _ rfl _ _ 24 rfl w.heap.size 9 i0 (.string ByteArray.empty) 1 16 Tryz.underlying24 hi0 hz0 hz1 hz2 rfl (by decide) _ _ _ rfl (hown2.alloc _) _ 1 1 [.string ⟨jj.toArray⟩] rfl rfl ?e12 ?e22 ?e32 ?e42 ?e52 ?_))
              case e12 => exact news_at (cs := #[.string ⟨jj.toArray⟩]) (heap_alloc_new _ _)
              case e22 => simp [Value.oneCell']
              case e32 => unfold maxLen; (try simp); omega
              case e42 => (try simp); omega
              case e52 => have := HB2.out.size; simp at this ⊢; omega
              intro v6 w6 hown6 hg6 _
              have hbA := HB2.out.alloc HB2.out.size (.cells #[.string ⟨jj.toArray⟩] 9)
              have hb6 := hbA.grown hg6 hbA.size (fun k hk => row_own hown2 hk)
              have hown7 : w6.ownsRow w.heap.size 9 1 v6 (out ++ [jj]).length ((out ++ [jj]).map sv) := by simpa [sv] using hown6
              have hstr : Strs w6 B (some ⟨b, off + most, none⟩) (rem.drop most) := ⟨fun _ => ⟨b, off + most, rfl, hbb, fun i hi => by
                rw [List.length_drop] at hi
                have hi2 : most + i < rem.length := by omega
                have e0 : wr.cell? ⟨b, off + most + i, none⟩ = some (.string ⟨(rem[most + i]).toArray⟩) := by rw [Nat.add_assoc]; exact hcc (most + i) hi2
                have e1 := (hb6.cell (p := ⟨b, off + most + i, none⟩) (Nat.lt_of_lt_of_le hbb hB)).trans (((HB.out.cell (p := ⟨b, off + most + i, none⟩) (Nat.lt_of_lt_of_le hbb hB)).symm).trans e0)
                rw [e1, List.getElem_drop]⟩⟩
              have HZ := Lib.hid (show FixSt w B most T w6 (some ⟨b, off + most, none⟩) (C - most) (rem.drop most) (out ++ [jj]) v6 f' from ⟨hb6, hstr, by rw [List.length_drop]; omega, HT2.out, by rw [List.length_drop]; omega, hown7⟩)
              clear hown2 hown6 hown7 hg6 hbA hb6 hstr
              go_wp2
              go_roundw
              case rel => exact ⟨_, _, _, _, _, by first | (rw [List.length_drop]; done) | simp, HZ.out, by rw [List.length_drop]; omega, fun r hr => HK.out r (List.mem_of_mem_drop hr), by omega⟩
              case measure => simp; omega
          · have hmI : ¬ (most : Int) ≤ (rem.length : Int) := by omega
            have hmC : (rem.length : Int) ≤ (C : Int) := by omega
            by_cases hCm : C = rem.length
            · skip
              have hmn : min (most : Int) (rem.length : Int) = (rem.length : Int) := by omega
              have hjn : (rem.take rem.length).length = rem.length := by rw [List.length_take]; omega
              have hj := join_any b off rem.length (rem.take rem.length) wr (fun i hi => by
                rw [hjn] at hi
                rw [hcc i (by omega), List.getElem_take]) (by have := HB.out.size; omega) (by omega) (by omega) (fun x hx => by have := HK.out x (List.mem_of_mem_take hx); omega)
              rw [hjn] at hj
              have hfl := flat_le (rem.take rem.length) 1000 (fun x hx => by have := HK.out x (List.mem_of_mem_take hx); omega)
              have hfl2 : (rem.take rem.length).flatten.length ≤ 1000000 := by rw [hjn] at hfl; omega
              have HT2 := Lib.hid (show T = out ++ [(rem.take rem.length).flatten] ++ fixA most f' (rem.drop rem.length) by rw [HT.out, List.take_of_length_le (show rem.length ≤ most by omega), List.drop_eq_nil_of_le (show rem.length ≤ most by omega), List.take_of_length_le (Nat.le_refl _), List.drop_eq_nil_of_le (Nat.le_refl _)]; simp)
              generalize (rem.take rem.length).flatten = jj at hj hfl2 HT2
              have HJ := Lib.hid hj
              clear hj hfl hjn
              go_wp2_with fail
              refine HJ.out.mono ?_
              rintro e w2 ⟨rfl, hb2⟩
              have hown2 := own_below HO.out hb2
              have HB2 := Lib.hid (HB.out.trans (hb2.mono HB.out.size))
              clear hb2 HJ
              go_wp2_with (at_builtin; go_must (refine wpList_append_own _ rfl _ _ 24 rfl w.heap.size 9 i0 (.string ByteArray.empty) 1 16 Tryz.underlying24 hi0 hz0 hz1 hz2 rfl (by decide) _ _ _ rfl (hown2.alloc _) _ 1 1 [.string ⟨jj.toArray⟩] rfl rfl ?e13 ?e23 ?e33 ?e43 ?e53 ?_))
              case e13 => exact news_at (cs := #[.string ⟨jj.toArray⟩]) (heap_alloc_new _ _)
              case e23 => simp [Value.oneCell']
              case e33 => unfold maxLen; (try simp); omega
              case e43 => (try simp); omega
              case e53 => have := HB2.out.size; simp at this ⊢; omega
              intro v6 w6 hown6 hg6 _
              have hbA := HB2.out.alloc HB2.out.size (.cells #[.string ⟨jj.toArray⟩] 9)
              have hb6 := hbA.grown hg6 hbA.size (fun k hk => row_own hown2 hk)
              have hown7 : w6.ownsRow w.heap.size 9 1 v6 (out ++ [jj]).length ((out ++ [jj]).map sv) := by simpa [sv] using hown6
              have hstr : Strs w6 B (some ⟨b, off, none⟩) (rem.drop rem.length) := by rw [List.drop_eq_nil_of_le (by omega)]; exact strs_nil _ _ _
              have HZ := Lib.hid (show FixSt w B most T w6 (some ⟨b, off, none⟩) 0 (rem.drop rem.length) (out ++ [jj]) v6 f' from ⟨hb6, hstr, by rw [List.length_drop]; omega, HT2.out, by rw [List.length_drop]; omega, hown7⟩)
              clear hown2 hown6 hown7 hg6 hbA hb6 hstr
              go_wp2
              go_roundw
              case rel => exact ⟨_, _, _, _, _, by first | (rw [List.length_drop]; done) | simp, HZ.out, by rw [List.length_drop]; omega, fun r hr => HK.out r (List.mem_of_mem_drop hr), by omega⟩
              case measure => simp; omega
            · skip
              have hmn : min (most : Int) (rem.length : Int) = (rem.length : Int) := by omega
              have hjn : (rem.take rem.length).length = rem.length := by rw [List.length_take]; omega
              have hj := join_any b off C (rem.take rem.length) wr (fun i hi => by
                rw [hjn] at hi
                rw [hcc i (by omega), List.getElem_take]) (by have := HB.out.size; omega) (by omega) (by omega) (fun x hx => by have := HK.out x (List.mem_of_mem_take hx); omega)
              rw [hjn] at hj
              have hfl := flat_le (rem.take rem.length) 1000 (fun x hx => by have := HK.out x (List.mem_of_mem_take hx); omega)
              have hfl2 : (rem.take rem.length).flatten.length ≤ 1000000 := by rw [hjn] at hfl; omega
              have HT2 := Lib.hid (show T = out ++ [(rem.take rem.length).flatten] ++ fixA most f' (rem.drop rem.length) by rw [HT.out, List.take_of_length_le (show rem.length ≤ most by omega), List.drop_eq_nil_of_le (show rem.length ≤ most by omega), List.take_of_length_le (Nat.le_refl _), List.drop_eq_nil_of_le (Nat.le_refl _)]; simp)
              generalize (rem.take rem.length).flatten = jj at hj hfl2 HT2
              have HJ := Lib.hid hj
              clear hj hfl hjn
              go_wp2_with fail
              refine HJ.out.mono ?_
              rintro e w2 ⟨rfl, hb2⟩
              have hown2 := own_below HO.out hb2
              have HB2 := Lib.hid (HB.out.trans (hb2.mono HB.out.size))
              clear hb2 HJ
              go_wp2_with (at_builtin; go_must (refine wpList_append_own _ rfl _ _ 24 rfl w.heap.size 9 i0 (.string ByteArray.empty) 1 16 Tryz.underlying24 hi0 hz0 hz1 hz2 rfl (by decide) _ _ _ rfl (hown2.alloc _) _ 1 1 [.string ⟨jj.toArray⟩] rfl rfl ?e14 ?e24 ?e34 ?e44 ?e54 ?_))
              case e14 => exact news_at (cs := #[.string ⟨jj.toArray⟩]) (heap_alloc_new _ _)
              case e24 => simp [Value.oneCell']
              case e34 => unfold maxLen; (try simp); omega
              case e44 => (try simp); omega
              case e54 => have := HB2.out.size; simp at this ⊢; omega
              intro v6 w6 hown6 hg6 _
              have hbA := HB2.out.alloc HB2.out.size (.cells #[.string ⟨jj.toArray⟩] 9)
              have hb6 := hbA.grown hg6 hbA.size (fun k hk => row_own hown2 hk)
              have hown7 : w6.ownsRow w.heap.size 9 1 v6 (out ++ [jj]).length ((out ++ [jj]).map sv) := by simpa [sv] using hown6
              have hstr : Strs w6 B (some ⟨b, off + rem.length, none⟩) (rem.drop rem.length) := ⟨fun _ => ⟨b, off + rem.length, rfl, hbb, fun i hi => by
                rw [List.length_drop] at hi
                have hi2 : rem.length + i < rem.length := by omega
                have e0 : wr.cell? ⟨b, off + rem.length + i, none⟩ = some (.string ⟨(rem[rem.length + i]).toArray⟩) := by rw [Nat.add_assoc]; exact hcc (rem.length + i) hi2
                have e1 := (hb6.cell (p := ⟨b, off + rem.length + i, none⟩) (Nat.lt_of_lt_of_le hbb hB)).trans (((HB.out.cell (p := ⟨b, off + rem.length + i, none⟩) (Nat.lt_of_lt_of_le hbb hB)).symm).trans e0)
                rw [e1, List.getElem_drop]⟩⟩
              have HZ := Lib.hid (show FixSt w B most T w6 (some ⟨b, off + rem.length, none⟩) (C - rem.length) (rem.drop rem.length) (out ++ [jj]) v6 f' from ⟨hb6, hstr, by rw [List.length_drop]; omega, HT2.out, by rw [List.length_drop]; omega, hown7⟩)
              clear hown2 hown6 hown7 hg6 hbA hb6 hstr
              go_wp2
              go_roundw
              case rel => exact ⟨_, _, _, _, _, by first | (rw [List.length_drop]; done) | simp, HZ.out, by rw [List.length_drop]; omega, fun r hr => HK.out r (List.mem_of_mem_drop hr), by omega⟩
              case measure => simp; omega
end

section
open Go.RowKit Go.Sort
attribute [local go_sem] ByteArray.mk_append_mk strOfNums_size ext_drop ext_take

/-- The blocks of a state of the program's loop. -/
def varFin (s : List By × By) : List By := if s.2 ≠ [] then s.1 ++ [whole s.2] else s.1
theorem varA_fin (block : Nat) (l : List By) : varA block l = varFin (l.foldl (varStepA block) ([], [])) := rfl
theorem varStepA_nil (block : Nat) (out : List By) (r : By) : varStepA block (out, []) r = (out, form r) := by simp [varStepA]
theorem varStepA_new (block : Nat) (out : List By) (s r : By) (h : s ≠ []) (h2 : block < 4 + s.length + (form r).length) : varStepA block (out, s) r = (out ++ [whole s], form r) := by
  unfold varStepA; rw [if_pos ⟨h, h2⟩]
theorem varStepA_old (block : Nat) (out : List By) (s r : By) (h2 : ¬ block < 4 + s.length + (form r).length) : varStepA block (out, s) r = (out, s ++ form r) := by
  unfold varStepA; rw [if_neg (fun h => h2 h.2)]

/-- What the second loop of Pack holds. -/
structure VarSt (w : World) (blk : Nat) (l V : List By) (W : World) (j : Nat) (out : List By) (s : By) (v : Value) : Prop where
  bel : Below w.heap.size w W
  own : W.ownsRow w.heap.size 9 1 v out.length (out.map sv)
  tot : V = varFin ((l.drop j).foldl (varStepA blk) (out, s))
  room : 4 + s.length ≤ blk
  few : out.length ≤ j

set_option maxRecDepth 100000 in
set_option maxHeartbeats 4000000 in
theorem vpack_any (w : World) (B : Nat) (a : Option Addr) (cap : Nat) (l : List By) (len blk : Nat) (h : Strs w B a l) (hB : B ≤ w.heap.size) (hl : l.length ≤ 1000) (hv : varV len blk = true) (hk : ∀ r ∈ l, r.length ≤ len) :
    Calls Tryz.prog 92 #[.int .i64 len, .int .i64 blk, .slice a l.length cap] w fun e w' =>
      ∃ v, e = .returned (.tuple #[v, .int .i64 0]) ∧ w'.ownsRow w.heap.size 9 1 v (varA blk l).length ((varA blk l).map sv) ∧ Below w.heap.size w w' := by
  have hbd : 1 ≤ (len : Int) ∧ (len : Int) ≤ 1000 ∧ (len : Int) + 8 ≤ blk ∧ (blk : Int) ≤ 1024 := by simp [varV] at hv; omega
  obtain ⟨d1, d2, d3, d4⟩ := hbd
  have HV := Lib.hid hv
  clear hv
  obtain ⟨i0, hi0, hz0, hz1, hz2⟩ := info_parts info9
  have hT0 := varA_fin blk l
  generalize varA blk l = V at hT0 ⊢
  have HT0 := Lib.hid hT0
  clear hT0
  go_enter Tryz.func92, Tryz.ntmps92
  go_wp2_with fail
  refine (var_valid _ _ _).mono ?_
  rintro e w1 ⟨rfl, rfl⟩
  rw [HV.out]
  go_wp2_with fail
  go_loop [9, 21] (fun _ k => ∃ j : Nat, j ≤ l.length ∧ k = .int .i64 j) (fun _ k => l.length - (intOf k).toNat)
  case atStart => exact ⟨0, by omega, rfl⟩
  case round =>
    obtain ⟨j, hj, rfl⟩ := hrel
    by_cases hlt : j < l.length
    · obtain ⟨b, off, rfl, hbb, hc⟩ := h.get hlt
      have hkk := hk _ (List.getElem_mem hlt)
      generalize l[j] = r at hc hkk
      have hle : (r.length : Int) ≤ (len : Int) := by omega
      go_wp2
      go_round
      case rel => exact ⟨j + 1, by omega, by go_num⟩
      case measure => simp [intOf]; omega
    · have HS := Lib.hid (show VarSt w blk l V w 0 [] [] (.slice none 0 0) from ⟨Below.refl _ _, own_nil _ _ _ _, HT0.out, by simp; omega, Nat.le_refl _⟩)
      clear HT0
      go_wp2_with fail
      go_loopw [10, 11, 13, 14, 32] (fun o fm _ _ k wr => ∃ j out s, j ≤ l.length ∧ k = .int .i64 (j : Nat) ∧ fm = .string ⟨s.toArray⟩ ∧ VarSt w blk l V wr j out s o) (fun _ _ _ _ k _ => l.length - (intOf k).toNat)
      case atStart => exact ⟨0, [], [], by omega, rfl, rfl, HS.out⟩
      case round =>
        clear HS
        obtain ⟨j, out, s, hj, rfl, rfl, hS⟩ := hrel
        have hroom := hS.room
        have hfew := hS.few
        have hol : out.length ≤ 1000 := by omega
        have HO := Lib.hid hS.own
        have HB := Lib.hid hS.bel
        by_cases hlt : j < l.length
        · obtain ⟨b, off, rfl, hbb, hc⟩ := (h.below (hS.bel.mono hB)).get hlt
          have hkk := hk _ (List.getElem_mem hlt)
          have htot := hS.tot
          rw [List.drop_eq_getElem_cons hlt, List.foldl_cons] at htot
          have hfl := form_length l[j]
          have hf := fun W => form_any l[j] W (by omega)
          clear hS
          generalize l[j] = r at hc hkk htot hfl hf
          by_cases hs : s = []
          · subst hs
            rw [varStepA_nil] at htot
            generalize form r = f at htot hfl hf
            have HF := Lib.hid hf
            have HT := Lib.hid htot
            clear hf htot
            go_wp2_with fail
            refine (HF.out _).mono ?_
            rintro e w1 ⟨rfl, hb1⟩
            have HZ := Lib.hid (show VarSt w blk l V w1 (j + 1) out f _ from ⟨HB.out.trans (hb1.mono HB.out.size), own_below HO.out hb1, HT.out, by omega, by omega⟩)
            clear hb1
            go_wp2
            go_roundw
            case rel => exact ⟨j + 1, out, f, by omega, by go_num, rfl, HZ.out⟩
            case measure => simp [intOf]; omega
          · have hne : (!s.isEmpty) = true := by cases s <;> simp at hs ⊢
            by_cases hgt : blk < 4 + s.length + (form r).length
            · rw [varStepA_new _ _ _ _ hs hgt] at htot
              generalize form r = f at htot hfl hf hgt
              have hw := fun W => whole_any s W (by omega)
              generalize whole s = ws at hw htot
              have h6 : (blk : Int) < 4 + (s.length : Int) + (f.length : Int) := by omega
              have HF := Lib.hid hf
              have HW := Lib.hid hw
              have HT := Lib.hid htot
              clear hf htot hw
              go_wp2_with fail
              refine (HF.out _).mono ?_
              rintro e w1 ⟨rfl, hb1⟩
              have hown1 := own_below HO.out hb1
              have HB1 := Lib.hid (HB.out.trans (hb1.mono HB.out.size))
              clear hb1
              go_wp2_with fail
              refine (HW.out _).mono ?_
              rintro e w2 ⟨rfl, hb2⟩
              have hown2 := own_below hown1 hb2
              have HB2 := Lib.hid (HB1.out.trans (hb2.mono HB1.out.size))
              clear hb2 hown1
              go_wp2_with (at_builtin; go_must (refine wpList_append_own _ rfl _ _ 24 rfl w.heap.size 9 i0 (.string ByteArray.empty) 1 16 Tryz.underlying24 hi0 hz0 hz1 hz2 rfl (by decide) _ _ _ rfl (hown2.alloc _) _ 1 1 [.string ⟨ws.toArray⟩] rfl rfl ?e11 ?e21 ?e31 ?e41 ?e51 ?_))
              case e11 => exact news_at (cs := #[.string ⟨ws.toArray⟩]) (heap_alloc_new _ _)
              case e21 => simp [Value.oneCell']
              case e31 => unfold maxLen; (try simp); omega
              case e41 => (try simp); omega
              case e51 => have := HB2.out.size; simp at this ⊢; omega
              intro v6 w6 hown6 hg6 _
              have hbA := HB2.out.alloc HB2.out.size (.cells #[.string ⟨ws.toArray⟩] 9)
              have hb6 := hbA.grown hg6 hbA.size (fun k hk => row_own hown2 hk)
              have hown7 : w6.ownsRow w.heap.size 9 1 v6 (out ++ [ws]).length ((out ++ [ws]).map sv) := by simpa [sv] using hown6
              have HZ := Lib.hid (show VarSt w blk l V w6 (j + 1) (out ++ [ws]) f v6 from ⟨hb6, hown7, HT.out, by omega, by simp; omega⟩)
              clear hown2 hown6 hown7 hg6 hbA hb6
              go_wp2
              go_roundw
              case rel => exact ⟨j + 1, _, f, by omega, by go_num, rfl, HZ.out⟩
              case measure => simp [intOf]; omega
            · rw [varStepA_old _ _ _ _ hgt] at htot
              generalize form r = f at htot hfl hf hgt
              have h6 : ¬ (blk : Int) < 4 + (s.length : Int) + (f.length : Int) := by omega
              have n1 : ¬ 9223372036854775807 < s.length + f.length := by omega
              have HF := Lib.hid hf
              have HT := Lib.hid htot
              clear hf htot
              go_wp2_with fail
              refine (HF.out _).mono ?_
              rintro e w1 ⟨rfl, hb1⟩
              have HZ := Lib.hid (show VarSt w blk l V w1 (j + 1) out (s ++ f) _ from ⟨HB.out.trans (hb1.mono HB.out.size), own_below HO.out hb1, HT.out, by simp; omega, by omega⟩)
              clear hb1
              go_wp2
              go_roundw
              case rel => exact ⟨j + 1, out, s ++ f, by omega, by go_num, by simp, HZ.out⟩
              case measure => simp [intOf]; omega
        · have htot := hS.tot
          rw [List.drop_eq_nil_of_le (by omega), List.foldl_nil] at htot
          clear hS
          by_cases hs : s = []
          · subst hs
            have hV : V = out := by simpa [varFin] using htot
            have HT := Lib.hid hV
            clear htot hV
            go_wp2_with fail
            go_ret2
            rw [HT.out]
            exact ⟨_, rfl, HO.out, HB.out⟩
          · have hne : (!s.isEmpty) = true := by cases s <;> simp at hs ⊢
            have hV : V = out ++ [whole s] := by rw [htot]; unfold varFin; rw [if_pos hs]
            have hw := fun W => whole_any s W (by omega)
            generalize whole s = ws at hw hV
            have HT := Lib.hid hV
            have HW := Lib.hid hw
            clear htot hV hw
            go_wp2_with fail
            refine (HW.out _).mono ?_
            rintro e w2 ⟨rfl, hb2⟩
            have hown2 := own_below HO.out hb2
            have HB2 := Lib.hid (HB.out.trans (hb2.mono HB.out.size))
            clear hb2
            go_wp2_with (at_builtin; go_must (refine wpList_append_own _ rfl _ _ 24 rfl w.heap.size 9 i0 (.string ByteArray.empty) 1 16 Tryz.underlying24 hi0 hz0 hz1 hz2 rfl (by decide) _ _ _ rfl (hown2.alloc _) _ 1 1 [.string ⟨ws.toArray⟩] rfl rfl ?e12 ?e22 ?e32 ?e42 ?e52 ?_))
            case e12 => exact news_at (cs := #[.string ⟨ws.toArray⟩]) (heap_alloc_new _ _)
            case e22 => simp [Value.oneCell']
            case e32 => unfold maxLen; (try simp); omega
            case e42 => (try simp); omega
            case e52 => have := HB2.out.size; simp at this ⊢; omega
            intro v6 w6 hown6 hg6 _
            have hbA := HB2.out.alloc HB2.out.size (.cells #[.string ⟨ws.toArray⟩] 9)
            have hb6 := hbA.grown hg6 hbA.size (fun k hk => row_own hown2 hk)
            have hown7 : w6.ownsRow w.heap.size 9 1 v6 (out ++ [ws]).length ((out ++ [ws]).map sv) := by simpa [sv] using hown6
            have HO7 := Lib.hid hown7
            have HB7 := Lib.hid hb6
            clear hown2 hown6 hown7 hg6 hbA hb6
            go_wp2
            go_ret2
            rw [HT.out]
            exact ⟨_, rfl, HO7.out, HB7.out⟩
end

section
open Go.RowKit Go.Sort
attribute [local go_sem] ByteArray.mk_append_mk strOfNums_size ext_drop ext_take

theorem stepB_new (most j : Nat) (out : List By) (r : By) (h : j % most = 0) : stepB most (j, out) r = (j + 1, out ++ [[] ++ r]) := by
  unfold stepB; simp only; rw [if_pos h]; rfl
theorem stepB_old (most j : Nat) (out : List By) (a r : By) (h : ¬ j % most = 0) : stepB most (j, out ++ [a]) r = (j + 1, out ++ [a ++ r]) := by
  unfold stepB; simp only; rw [if_neg h, putLast_snoc]

theorem own_empty (w : World) (t : TypeId) : (w.alloc (.cells #[] t)).ownsRow w.heap.size t 1 (.slice (some ⟨w.heap.size, 0, none⟩) 0 0) 0 [] :=
  ⟨by simp, Or.inr ⟨_, 0, #[], rfl, Nat.le_refl _, heap_alloc_new _ _, by simp, by decide, by simp, by simp⟩⟩
/-- What the reference's loop holds. -/
structure FbSt (w : World) (most : Nat) (l V : List By) (W : World) (j : Nat) (out : List By) (v : Value) : Prop where
  bel : Below w.heap.size w W
  own : W.ownsRow w.heap.size 9 1 v out.length (out.map sv)
  tot : V = ((l.drop j).foldl (stepB most) (j, out)).2
  ne : 0 < j → out ≠ []
  sml : ∀ x ∈ out, x.length ≤ 1000 * j
  few : out.length ≤ j

/-- All texts before the j-th are of a kind. -/
structure AllTo (p : By → Bool) (l : List By) (j : Nat) : Prop where
  all : ∀ i (h : i < l.length), i < j → p l[i] = true
theorem AllTo.zero (p : By → Bool) (l : List By) : AllTo p l 0 := ⟨fun i _ h => absurd h (by omega)⟩
theorem AllTo.succ {p : By → Bool} {l : List By} {j : Nat} (h : AllTo p l j) (hj : j < l.length) (hp : p l[j] = true) : AllTo p l (j + 1) :=
  ⟨fun i hi h2 => by
    rcases Nat.lt_or_ge i j with h3 | h3
    · exact h.all i hi h3
    · have e : i = j := by omega
      subst e; exact hp⟩
theorem AllTo.done {p : By → Bool} {l : List By} {j : Nat} (h : AllTo p l j) (hj : l.length ≤ j) : l.all p = true := by
  rw [List.all_eq_true]; intro x hx
  obtain ⟨i, hi, rfl⟩ := List.mem_iff_getElem.1 hx
  exact h.all i hi (by omega)
theorem all_bad {p : By → Bool} {l : List By} {j : Nat} (hj : j < l.length) (hp : p l[j] = false) : l.all p = false := by
  rw [List.all_eq_false]; exact ⟨l[j], List.getElem_mem hj, by rw [hp]; simp⟩
/-- What a packing gives: the blocks, or that a record is not allowed. -/
structure PackPost (w : World) (ok : Bool) (V : List By) (e : Ending) (w' : World) : Prop where
  good : ok = true → ∃ v, e = .returned (.tuple #[v, .int .i64 0]) ∧ w'.ownsRow w.heap.size 9 1 v V.length (V.map sv)
  bad : ok = false → e = .returned (.tuple #[.slice none 0 0, .int .i64 2])
  bel : Below w.heap.size w w'

set_option maxRecDepth 100000 in
set_option maxHeartbeats 4000000 in
theorem rfpack_any (w : World) (B : Nat) (a : Option Addr) (cap : Nat) (l : List By) (len blk : Nat) (h : Strs w B a l) (hB : B ≤ w.heap.size) (hl : l.length ≤ 40000) (hv : fixV len blk = true) :
    Calls Tryz.prog 82 #[.int .i64 len, .int .i64 blk, .slice a l.length cap] w fun e w' => PackPost w (l.all fun r => decide (r.length = len)) (fixB (blk / len) l) e w' := by
  have hbd : 1 ≤ (len : Int) ∧ (len : Int) ≤ 1000 ∧ (len : Int) ≤ blk ∧ (blk : Int) ≤ 1024 := by simp [fixV] at hv; omega
  obtain ⟨d1, d2, d3, d4⟩ := hbd
  have hm1 : 1 ≤ blk / len := (Nat.le_div_iff_mul_le (by omega)).2 (by omega)
  have hm2 : blk / len ≤ 1024 := Nat.le_trans (Nat.div_le_self _ _) (by omega)
  have hmost := fun W => rmost_any len blk W hv
  have HV := Lib.hid hv
  clear hv
  obtain ⟨i0, hi0, hz0, hz1, hz2⟩ := info_parts info9
  have hT0 : fixB (blk / len) l = ((l.drop 0).foldl (stepB (blk / len)) (0, [])).2 := rfl
  generalize fixB (blk / len) l = V at hT0 ⊢
  generalize blk / len = most at hT0 hmost hm1 hm2
  have HT0 := Lib.hid hT0
  have HM := Lib.hid hmost
  clear hT0 hmost
  go_enter Tryz.func82, Tryz.ntmps82
  go_wp2_with fail
  refine (rfix_valid _ _ _).mono ?_
  rintro e w1 ⟨rfl, rfl⟩
  rw [HV.out]
  go_wp2_with fail
  have hbz := (Below.refl w.heap.size w).alloc (Nat.le_refl _) (.cells #[] 9)
  have HS := Lib.hid (show FbSt w most l V (w.alloc (.cells #[] 9)) 0 [] (.slice (some ⟨w.heap.size, 0, none⟩) 0 0) from ⟨hbz, own_empty _ _, HT0.out, fun h => absurd h (by omega), by simp, Nat.le_refl _⟩)
  clear HT0 hbz
  go_loopw [8, 9] (fun o k wr => ∃ j out, j ≤ l.length ∧ k = .int .i64 (j : Nat) ∧ FbSt w most l V wr j out o ∧ AllTo (fun r => decide (r.length = len)) l j) (fun _ k _ => l.length - (intOf k).toNat)
  case atStart => exact ⟨0, [], by omega, rfl, HS.out, AllTo.zero _ _⟩
  case round =>
    clear HS
    obtain ⟨j, out, hj, rfl, hS, hall⟩ := hrel
    have HA := Lib.hid hall
    clear hall
    have hfew := hS.few
    have hol : out.length ≤ 40000 := by omega
    have HO := Lib.hid hS.own
    have HB := Lib.hid hS.bel
    have hsml := hS.sml
    have hne := hS.ne
    by_cases hlt : j < l.length
    · obtain ⟨b, off, rfl, hbb, hc⟩ := (h.below (hS.bel.mono hB)).get hlt
      by_cases hkk : l[j].length = len
      rotate_left
      · have HF := Lib.hid (all_bad (p := fun r => decide (r.length = len)) hlt (decide_eq_false hkk))
        generalize l[j] = r at hc hkk
        have hne1 : ((r.length : Int) == (len : Int)) = false := by simp; omega
        have hne2 : ((r.length : Int) != (len : Int)) = true := by simp; omega
        clear hkk
        go_wp2_with fail
        go_ret2
        exact ⟨fun h => (by rw [HF.out] at h; cases h), fun _ => rfl, HB.out⟩
      have HA2 := Lib.hid (HA.out.succ hlt (decide_eq_true hkk))
      have htot := hS.tot
      rw [List.drop_eq_getElem_cons hlt, List.foldl_cons] at htot
      clear hS
      generalize l[j] = r at hc hkk htot
      have hrl : r.length ≤ 1000 := by omega
      have hne1 : ((r.length : Int) == (len : Int)) = true := by rw [hkk]; simp
      have hne2 : ((r.length : Int) != (len : Int)) = false := by rw [hkk]; simp
      clear hkk
      go_wp2_with fail
      refine (HM.out _).mono ?_
      rintro e w1 ⟨rfl, rfl⟩
      clear hne1 hne2
      obtain ⟨k, hk0⟩ : ∃ k, k = j % most := ⟨_, rfl⟩
      have m1 : (j : Int).tmod (most : Int) = (k : Int) := by rw [Int.tmod_eq_emod_of_nonneg (by omega), hk0]; simp
      by_cases hz : k = 0
      · subst hz
        rw [stepB_new _ _ _ _ hk0.symm] at htot
        clear hk0
        have HT := Lib.hid htot
        clear htot
        have hown2 := HO.out
        go_wp2_with (at_builtin; go_must (refine wpList_append_own _ rfl _ _ 24 rfl w.heap.size 9 i0 (.string ByteArray.empty) 1 16 Tryz.underlying24 hi0 hz0 hz1 hz2 rfl (by decide) _ _ _ rfl (hown2.alloc _) _ 1 1 [.string ⟨([] : By).toArray⟩] rfl rfl ?e11 ?e21 ?e31 ?e41 ?e51 ?_))
        case e11 => exact news_at (cs := #[.string ⟨([] : By).toArray⟩]) (heap_alloc_new _ _)
        case e21 => simp [Value.oneCell']
        case e31 => unfold maxLen; (try simp); omega
        case e41 => (try simp); omega
        case e51 => have := HB.out.size; simp at this ⊢; omega
        intro v6 w6 hown6 hg6 _
        have hbA := HB.out.alloc HB.out.size (.cells #[.string ⟨([] : By).toArray⟩] 9)
        have hb6 := hbA.grown hg6 hbA.size (fun k hk => row_own hown2 hk)
        have hown7 : w6.ownsRow w.heap.size 9 1 v6 (out ++ [[]]).length ((out ++ [[]]).map sv) := by simpa [sv] using hown6
        have hcw := (hb6.cell (p := ⟨b, off + j, none⟩) (Nat.lt_of_lt_of_le hbb hB)).trans (((HB.out.cell (p := ⟨b, off + j, none⟩) (Nat.lt_of_lt_of_le hbb hB)).symm).trans hc)
        have HO1 := Lib.hid hown7
        have HB1 := Lib.hid hb6
        have ha1 : ([] : By).length ≤ 1000 * j := by simp
        clear hown2 hown6 hown7 hg6 hbA hb6 hc
        generalize ([] : By) = a1 at HO1 HT ha1
        have hsm2 := hsml
        have hfew2 : out.length + 1 ≤ j + 1 := by omega
        obtain ⟨g, cp, rfl, hg, hgl, hcell, hfr, hset⟩ := row_set HO1.out out.length (by simp)
        rw [List.getElem_append_right (Nat.le_refl _)] at hcell
        simp only [Nat.sub_self, List.getElem_cons_zero] at hcell
        have HSET := Lib.hid (fun (W : World) (b : By) (h : W.heap[g]? = w6.heap[g]?) => (by
          have h2 := hset W b h
          rw [set_last, show (out ++ [a1]).length = out.length + 1 by simp] at h2; exact h2 : (W.setCell ⟨g, out.length, none⟩ (.string ⟨b.toArray⟩)).ownsRow w.heap.size 9 1 (.slice (some ⟨g, 0, none⟩) (out.length + 1) cp) (out ++ [b]).length ((out ++ [b]).map sv)))
        clear hset
        rw [show (out ++ [a1]).length = out.length + 1 by simp]
        have n1 : ¬ 9223372036854775807 < a1.length + r.length := by omega
        have hHO := HO1
        clear HO1
        go_wp2_with fail
        go_region
        have hrw := own_below (HSET.out w6 (a1 ++ r) rfl) below_drew1
        have hB0 := HB1.out.setCell (p := ⟨g, out.length, none⟩) hg (.string ⟨(a1 ++ r).toArray⟩)
        have HZ := Lib.hid (show FbSt w most l V _ (j + 1) (out ++ [a1 ++ r]) _ from ⟨hB0.trans (below_drew1.mono hB0.size), hrw, HT.out, fun _ => by simp, fun x hx => by
          rcases List.mem_append.1 hx with hx | hx
          · have := hsm2 x hx; omega
          · rw [List.mem_singleton.1 hx, List.length_append]; omega, by rw [List.length_append]; exact hfew2⟩)
        clear hrw hB0
        go_wp2_with fail
        go_roundw
        case rel => exact ⟨j + 1, _, by omega, by go_num, HZ.out, HA2.out⟩
        case measure => simp [intOf]; omega
      · have hz2 : ((k : Int) == 0) = false := by simp; omega
        have hjm : ¬ j % most = 0 := by omega
        have hj0 : 0 < j := by
          rcases Nat.eq_zero_or_pos j with e | e
          · rw [e, Nat.zero_mod] at hjm; exact absurd rfl hjm
          · exact e
        obtain ⟨o1, a1, rfl⟩ : ∃ o1 a1, out = o1 ++ [a1] := ⟨_, _, (List.dropLast_concat_getLast (hne hj0)).symm⟩
        rw [stepB_old _ _ _ _ _ hjm] at htot
        have HT := Lib.hid htot
        have ha1 : a1.length ≤ 1000 * j := hsml a1 (by simp)
        have hsm2 : ∀ x ∈ o1, x.length ≤ 1000 * j := fun x hx => hsml x (by simp [hx])
        have hfew2 : o1.length + 1 ≤ j + 1 := by simp at hfew; omega
        have HO1 := HO
        have HB1 := HB
        have hcw := hc
        clear htot hk0 hsml hjm hc
        obtain ⟨g, cp, rfl, hg, hgl, hcell, hfr, hset⟩ := row_set HO1.out o1.length (by simp)
        rw [List.getElem_append_right (Nat.le_refl _)] at hcell
        simp only [Nat.sub_self, List.getElem_cons_zero] at hcell
        have HSET := Lib.hid (fun (W : World) (b : By) (h : W.heap[g]? = wr.heap[g]?) => (by
          have h2 := hset W b h
          rw [set_last, show (o1 ++ [a1]).length = o1.length + 1 by simp] at h2; exact h2 : (W.setCell ⟨g, o1.length, none⟩ (.string ⟨b.toArray⟩)).ownsRow w.heap.size 9 1 (.slice (some ⟨g, 0, none⟩) (o1.length + 1) cp) (o1 ++ [b]).length ((o1 ++ [b]).map sv)))
        clear hset
        rw [show (o1 ++ [a1]).length = o1.length + 1 by simp]
        have n1 : ¬ 9223372036854775807 < a1.length + r.length := by omega
        have hHO := HO1
        clear HO1
        go_wp2_with fail
        go_region
        have hrw := own_below (HSET.out wr (a1 ++ r) rfl) below_drew1
        have hB0 := HB1.out.setCell (p := ⟨g, o1.length, none⟩) hg (.string ⟨(a1 ++ r).toArray⟩)
        have HZ := Lib.hid (show FbSt w most l V _ (j + 1) (o1 ++ [a1 ++ r]) _ from ⟨hB0.trans (below_drew1.mono hB0.size), hrw, HT.out, fun _ => by simp, fun x hx => by
          rcases List.mem_append.1 hx with hx | hx
          · have := hsm2 x hx; omega
          · rw [List.mem_singleton.1 hx, List.length_append]; omega, by rw [List.length_append]; exact hfew2⟩)
        clear hrw hB0
        go_wp2_with fail
        go_roundw
        case rel => exact ⟨j + 1, _, by omega, by go_num, HZ.out, HA2.out⟩
        case measure => simp [intOf]; omega
    · have htot := hS.tot
      rw [List.drop_eq_nil_of_le (by omega), List.foldl_nil] at htot
      have hV : V = out := htot
      have HT := Lib.hid hV
      clear hS htot hV
      go_wp2_with fail
      go_ret2
      rw [HT.out]
      exact ⟨fun _ => ⟨_, rfl, HO.out⟩, fun h => (by rw [HA.out.done (by omega)] at h; cases h), HB.out⟩
end

section
open Go.RowKit Go.Sort
attribute [local go_sem] ByteArray.mk_append_mk strOfNums_size ext_drop ext_take

set_option maxRecDepth 100000 in
set_option maxHeartbeats 2000000 in
theorem indexfS_any (c1 : Option Addr) (p : By → Bool) (w : World) (B : Nat) (a : Option Addr) (cap : Nat) (l : List By) (h : Strs w B a l) (hl : l.length ≤ 1000000)
    (hf : ∀ r ∈ l, Calls Tryz.prog 114 #[.string ⟨r.toArray⟩, .pointer c1] w fun e w' => e = .returned (.bool (p r)) ∧ w = w') :
    Calls Tryz.prog 98 #[.slice a l.length cap, .func (.func 114) #[] #[.pointer c1]] w fun e w' => (∃ k : Int, e = .returned (.int .i64 k) ∧ decide (0 ≤ k) = l.any p) ∧ w = w' := by
  have HF := Lib.hid hf
  clear hf
  go_enter Tryz.func98, Tryz.ntmps98
  go_wp2_with fail
  go_loop [5, 8] (fun _ k => ∃ j : Nat, j ≤ l.length ∧ k = .int .i64 j ∧ ∀ i (hi : i < l.length), i < j → p l[i] = false) (fun _ k => l.length - (intOf k).toNat)
  case atStart => exact ⟨0, by omega, rfl, fun i hi h => absurd h (by omega)⟩
  case round =>
    obtain ⟨j, hj, rfl, hno⟩ := hrel
    by_cases hlt : j < l.length
    · obtain ⟨b, off, rfl, hbb, hc⟩ := h.get hlt
      have hF := HF.out _ (List.getElem_mem hlt)
      cases hp : p l[j]
      · rw [hp] at hF
        have HNo := Lib.hid (show ∀ i (hi : i < l.length), i < j + 1 → p l[i] = false from fun i hi h => by
          rcases Nat.lt_or_ge i j with h2 | h2
          · exact hno i hi h2
          · have e : i = j := by omega
            subst e; exact hp)
        clear hno hp
        generalize l[j] = r at hc hF
        have HC := Lib.hid hF
        clear hF
        go_wp2_with fail
        refine HC.out.mono ?_
        rintro e w1 ⟨rfl, rfl⟩
        go_wp2
        go_round
        case rel => exact ⟨j + 1, by omega, by go_num, HNo.out⟩
        case measure => simp [intOf]; omega
      · rw [hp] at hF
        have HA := Lib.hid (show l.any p = true from List.any_eq_true.2 ⟨l[j], List.getElem_mem hlt, hp⟩)
        clear hno hp
        generalize l[j] = r at hc hF
        have HC := Lib.hid hF
        clear hF
        go_wp2_with fail
        refine HC.out.mono ?_
        rintro e w1 ⟨rfl, rfl⟩
        go_wp2
        go_ret
        exact ⟨⟨_, rfl, by rw [HA.out]; simp⟩, rfl⟩
    · have HA := Lib.hid (show l.any p = false from by
        rw [List.any_eq_false]
        intro x hx
        obtain ⟨i, hi, rfl⟩ := List.mem_iff_getElem.1 hx
        rw [hno i hi (by omega)]; simp)
      clear hno
      go_wp2
      go_ret
      exact ⟨⟨-1, rfl, by rw [HA.out]; rfl⟩, rfl⟩

set_option maxRecDepth 100000 in
set_option maxHeartbeats 2000000 in
theorem containsS_any (c1 : Option Addr) (p : By → Bool) (w : World) (B : Nat) (a : Option Addr) (cap : Nat) (l : List By) (h : Strs w B a l) (hl : l.length ≤ 1000000)
    (hf : ∀ r ∈ l, Calls Tryz.prog 114 #[.string ⟨r.toArray⟩, .pointer c1] w fun e w' => e = .returned (.bool (p r)) ∧ w = w') :
    Calls Tryz.prog 72 #[.slice a l.length cap, .func (.func 114) #[] #[.pointer c1]] w fun e w' => e = .returned (.bool (l.any p)) ∧ w = w' := by
  have HI := Lib.hid (indexfS_any c1 p w B a cap l h hl hf)
  clear hf h
  go_enter Tryz.func72, Tryz.ntmps72
  go_wp2_with fail
  refine HI.out.mono ?_
  rintro e w1 ⟨⟨k, rfl, hk⟩, rfl⟩
  have HK := Lib.hid hk
  clear hk
  go_wp2
  go_ret
  rw [← HK.out]
  exact ⟨rfl, rfl⟩

set_option maxRecDepth 100000 in
set_option maxHeartbeats 2000000 in
theorem indexfA_any (c1 c2 : Option Addr) (p : By → Bool) (w : World) (B : Nat) (a : Option Addr) (cap : Nat) (l : List By) (h : Strs w B a l) (hl : l.length ≤ 1000000)
    (hf : ∀ r ∈ l, Calls Tryz.prog 73 #[.string ⟨r.toArray⟩, .pointer c1, .pointer c2] w fun e w' => e = .returned (.bool (p r)) ∧ w = w') :
    Calls Tryz.prog 98 #[.slice a l.length cap, .func (.func 73) #[] #[.pointer c1, .pointer c2]] w fun e w' => (∃ k : Int, e = .returned (.int .i64 k) ∧ decide (0 ≤ k) = l.any p) ∧ w = w' := by
  have HF := Lib.hid hf
  clear hf
  go_enter Tryz.func98, Tryz.ntmps98
  go_wp2_with fail
  go_loop [5, 8] (fun _ k => ∃ j : Nat, j ≤ l.length ∧ k = .int .i64 j ∧ ∀ i (hi : i < l.length), i < j → p l[i] = false) (fun _ k => l.length - (intOf k).toNat)
  case atStart => exact ⟨0, by omega, rfl, fun i hi h => absurd h (by omega)⟩
  case round =>
    obtain ⟨j, hj, rfl, hno⟩ := hrel
    by_cases hlt : j < l.length
    · obtain ⟨b, off, rfl, hbb, hc⟩ := h.get hlt
      have hF := HF.out _ (List.getElem_mem hlt)
      cases hp : p l[j]
      · rw [hp] at hF
        have HNo := Lib.hid (show ∀ i (hi : i < l.length), i < j + 1 → p l[i] = false from fun i hi h => by
          rcases Nat.lt_or_ge i j with h2 | h2
          · exact hno i hi h2
          · have e : i = j := by omega
            subst e; exact hp)
        clear hno hp
        generalize l[j] = r at hc hF
        have HC := Lib.hid hF
        clear hF
        go_wp2_with fail
        refine HC.out.mono ?_
        rintro e w1 ⟨rfl, rfl⟩
        go_wp2
        go_round
        case rel => exact ⟨j + 1, by omega, by go_num, HNo.out⟩
        case measure => simp [intOf]; omega
      · rw [hp] at hF
        have HA := Lib.hid (show l.any p = true from List.any_eq_true.2 ⟨l[j], List.getElem_mem hlt, hp⟩)
        clear hno hp
        generalize l[j] = r at hc hF
        have HC := Lib.hid hF
        clear hF
        go_wp2_with fail
        refine HC.out.mono ?_
        rintro e w1 ⟨rfl, rfl⟩
        go_wp2
        go_ret
        exact ⟨⟨_, rfl, by rw [HA.out]; simp⟩, rfl⟩
    · have HA := Lib.hid (show l.any p = false from by
        rw [List.any_eq_false]
        intro x hx
        obtain ⟨i, hi, rfl⟩ := List.mem_iff_getElem.1 hx
        rw [hno i hi (by omega)]; simp)
      clear hno
      go_wp2
      go_ret
      exact ⟨⟨-1, rfl, by rw [HA.out]; rfl⟩, rfl⟩

set_option maxRecDepth 100000 in
set_option maxHeartbeats 2000000 in
theorem containsA_any (c1 c2 : Option Addr) (p : By → Bool) (w : World) (B : Nat) (a : Option Addr) (cap : Nat) (l : List By) (h : Strs w B a l) (hl : l.length ≤ 1000000)
    (hf : ∀ r ∈ l, Calls Tryz.prog 73 #[.string ⟨r.toArray⟩, .pointer c1, .pointer c2] w fun e w' => e = .returned (.bool (p r)) ∧ w = w') :
    Calls Tryz.prog 72 #[.slice a l.length cap, .func (.func 73) #[] #[.pointer c1, .pointer c2]] w fun e w' => e = .returned (.bool (l.any p)) ∧ w = w' := by
  have HI := Lib.hid (indexfA_any c1 c2 p w B a cap l h hl hf)
  clear hf h
  go_enter Tryz.func72, Tryz.ntmps72
  go_wp2_with fail
  refine HI.out.mono ?_
  rintro e w1 ⟨⟨k, rfl, hk⟩, rfl⟩
  have HK := Lib.hid hk
  clear hk
  go_wp2
  go_ret
  rw [← HK.out]
  exact ⟨rfl, rfl⟩
end

end Go.Proofs.YthkpcalopmddpaaGreatDoor
