/-
  The walk of the law on calls. No condition.
-/
import Derived.Test.YtbocefnfhnnbjaaC1
import Derived.Test.YtbocefnfhnnbjaaV1
import Derived.Deep.RegionHeld3
import Derived.Deep.DeepCutAuto
import Derived.Deep.CutBlock
import Derived.IntWalk
namespace Go.Proofs.Ytbocefnfhnnbjaa
open Go.RowKit Go.Sort

theorem six {w0 w : World} {db rb cb gb sb qb : Nat} {c : Int} {R : List (Int × Int)} {C : List ((Int × Int) × Int)} {G : List ((Int × Int × Int) × Unit)} {x : RS} {k s i p u : Value} (h : Sy w0 w db rb cb gb sb c R C G x) (hq : w.heap[qb]? = some (.cells #[k, s, i, p, u] 33)) :
    w.cell? ⟨sb, 0, none⟩ = some (.int .i64 x.c) ∧ w.cell? ⟨sb, 1, none⟩ = some (.slice x.va x.V.length x.vcap) ∧ w.cell? ⟨sb, 2, none⟩ = some (.slice x.ea x.E.length x.ecap) ∧ w.cell? ⟨qb, 1, none⟩ = some s ∧ w.cell? ⟨qb, 2, none⟩ = some i ∧ w.cell? ⟨qb, 3, none⟩ = some p :=
  ⟨h.cells.1, h.cells.2.1, h.cells.2.2, cell_at (i := 1) hq rfl, cell_at (i := 2) hq rfl, cell_at (i := 3) hq rfl⟩

set_option maxHeartbeats 16000000 in
set_option maxRecDepth 100000 in
theorem lawcalls (a : Option Addr) (cap : Nat) (l : List ActR) (w : World) (h : Acts w w.heap.size a l) (hlen : l.length ≤ 9223372036854775807) :
    Calls Try.prog 3 #[.slice a l.length cap] w fun e w' => e = .returned (.bool true) ∧ Below w.heap.size w w' := by
  cases hf : fewB l 50
  · have HF := Lib.hid hf
    clear hf
    go_enter Try.func3, Try.ntmps3
    go_wp2_with fail
    refine (few_any w a cap l 50 h (by omega) (by omega) hlen).mono ?_
    rintro e w1 ⟨rfl, hb1⟩
    rw [HF.out]
    go_wp2_with fail
    refine (awake_any w1).mono ?_
    rintro e w2 ⟨rfl, hb2⟩
    go_wp2_with fail
    go_ret
    exact ⟨rfl, hb1.trans (hb2.mono hb1.size)⟩
  · have HF := Lib.hid hf
    obtain ⟨hl50, hfew⟩ := few_acts hf
    have HW := Lib.hid hfew
    clear hf hfew
    go_enter Try.func3, Try.ntmps3
    go_wp2_with fail
    refine (few_any w a cap l 50 h (by omega) (by omega) hlen).mono ?_
    rintro e w1 ⟨rfl, hb1⟩
    rw [HF.out]
    go_wp2_with fail
    refine (new_so hb1).mono ?_
    rintro e w2 ⟨db, rb, cb, gb, rfl, hst, -⟩
    have hvs := hst.bel.size
    have hA0 : Ag w (w2.alloc (.cells #[.int .i64 0, .slice none 0 0, .slice none 0 0] 30)) db rb cb gb w2.heap.size 0 0 [] [] [] ⟨0, none, 0, [], none, 0, []⟩ :=
      ⟨⟨hst.below ((Below.refl _ _).alloc (Nat.le_refl _) _), heap_alloc_new _ _, ⟨tris_nil _ _ _, tris_nil _ _ _, Or.inr ⟨rfl, rfl⟩, Or.inr ⟨rfl, rfl⟩, by simp, by simp⟩, hvs, fun e => by have := hst.lt _ e; omega⟩, lk_new, rfl, by simp, by simp, by simp, by simp⟩
    have HA0 := Lib.hid (show AgIs w db rb cb gb w2.heap.size 0 _ from ⟨_, _, _, _, _, hA0⟩)
    clear hst hA0
    go_wp2_with fail
    generalize w2.alloc (.cells #[.int .i64 0, .slice none 0 0, .slice none 0 0] 30) = w3 at HA0 ⊢
    generalize w2.heap.size = sb at HA0 hvs ⊢
    go_loopw [22] (fun k wr => ∃ n : Nat, n ≤ l.length ∧ k = .int .i64 n ∧ AgIs w db rb cb gb sb n wr) (fun k _ => l.length - (intOf k).toNat)
    case atStart => exact ⟨0, by omega, rfl, HA0.out⟩
    case round =>
      clear HA0
      obtain ⟨n, hn, rfl, c, R, C, G, x, hA⟩ := hrel
      have hr := h.below hA.sy.st.bel
      have hc0 := hA.lk.c0
      have hcn := hA.cn
      have hgn := hA.gn
      have hvn := hA.vn
      have hen := hA.en
      by_cases hlt : n < l.length
      · have hx := hr.ok _ (List.getElem_mem hlt)
        have hxf := HW.out _ (List.getElem_mem hlt)
        obtain ⟨bb, off, rfl, hbb, c0, c1, c2, c3, c4⟩ := hr.get hlt
        generalize l[n] = b at hx hxf c0 c1 c2 c3 c4
        have hxc : x.c ≤ 100000 := by rw [hA.xc]; omega
        have hxc0 : 0 ≤ x.c := by rw [hA.xc]; omega
        have hbA : Below wr.heap.size wr (wr.alloc (.cells #[.int .i64 b.kind, .int .i64 b.sys, .int .i64 b.id, .int .i64 b.pg, .slice b.pa b.pages.length b.pcap] 33)) := (Below.refl _ _).alloc (Nat.le_refl _) _
        have hblk := heap_alloc_new wr (.cells #[.int .i64 b.kind, .int .i64 b.sys, .int .i64 b.id, .int .i64 b.pg, .slice b.pa b.pages.length b.pcap] 33)
        have hI := hx.pages.below (hbA.mono hA.sy.st.bel.size)
        have hA1 := hA.below hbA
        have hbs := lt_of_block hA.sy.blk
        have hlt4 := hA.sy.st.lt
        clear hA hbA
        go_upto_block 2 with fail
        generalize wr.alloc (.cells #[.int .i64 b.kind, .int .i64 b.sys, .int .i64 b.id, .int .i64 b.pg, .slice b.pa b.pages.length b.pcap] 33) = wo at hA1 hblk hI ⊢
        have HX := Lib.hid hx
        have HF4 := Lib.hid hlt4
        clear hx c0 c1 c2 c3 c4 hlt4
        go_cut [28] (fun _ wx => AgIs w db rb cb gb sb (n + 1) wx)
        case first =>
          have d1 := cell_at (i := 1) hblk rfl
          have d2 := cell_at (i := 2) hblk rfl
          have d3 := cell_at (i := 3) hblk rfl
          have d4 := cell_at (i := 4) hblk rfl
          obtain ⟨s0, s1, s2⟩ := hA1.sy.cells
          have HA := Lib.hid hA1
          have HB := Lib.hid hblk
          have HI := Lib.hid hI
          have hwo := lt_of_block hblk
          clear hA1 hblk hI
          have hsep : ∀ k, k ∈ [db, rb, cb, gb] → wr.heap.size ≠ k := fun k hk e => by have := HF4.out k hk; omega
          have HSP := Lib.hid hsep
          clear hsep
          rcases and3 b.kind with hk | hk | hk | hk
          · have hR := rregister_any wo wo.heap.size x b.sys b.id b.pg HA.out.sy.ok (Nat.le_refl _) HX.out.sys HX.out.id HX.out.pg (by omega)
            rw [show x.val = .agg #[.int .i64 x.c, .slice x.va x.V.length x.vcap, .slice x.ea x.E.length x.ecap] from rfl] at hR
            have HR := Lib.hid hR
            clear hR
            go_wp2_with fail
            refine HR.out.mono ?_
            rintro e w4 ⟨ea4, ec4, rfl, hok4, hb4⟩
            have hS := HA.out.sy.below hb4
            have hblk4 := heap_below hb4 hwo HB.out
            have hblk6 := (only_store w4 sb (.int .i64 x.c) (.slice x.va x.V.length x.vcap) (.slice ea4 (regE x.E (b.sys, b.id, b.pg)).length ec4)).heap hblk4 (by simp; omega)
            have z1 := cell_at (i := 1) hblk6 rfl
            have z2 := cell_at (i := 2) hblk6 rfl
            have z3 := cell_at (i := 3) hblk6 rfl
            have g0 := hS.cells.1
            have g1 := hS.cells.2.1
            have g2 := hS.cells.2.2
            have f0 := free_at hS.blk 0
            have f1 := free_at hS.blk 1
            have f2 := free_at hS.blk 2
            have hSp := Lib.hid ((hS.put hok4).below ((Below.refl _ _).alloc (Nat.le_refl _) (.cells #[.int .i64 x.c, .slice x.va x.V.length x.vcap, .slice ea4 (regE x.E (b.sys, b.id, b.pg)).length ec4] 30)))
            have e1 := cell_at (i := 1) hblk4 rfl
            have e2 := cell_at (i := 2) hblk4 rfl
            have e3 := cell_at (i := 3) hblk4 rfl
            have hws4 : wr.heap.size < w4.heap.size := lt_of_block hblk4
            have hne1 : sb ≠ wr.heap.size := by omega
            have hbs4 : sb < w4.heap.size := Nat.lt_of_lt_of_le (lt_of_block HA.out.sy.blk) hb4.size
            clear hblk4 hS hok4 hblk6 d1 d2 d3 d4 s0 s1 s2
            have hver := HA.out.lk.ver b.id b.pg hxf.2.1
            have HVE := Lib.hid hver
            clear hver
            rw [show RS.val ⟨x.c, x.va, x.vcap, x.V, ea4, ec4, regE x.E (b.sys, b.id, b.pg)⟩ = .agg #[.int .i64 x.c, .slice x.va x.V.length x.vcap, .slice ea4 (regE x.E (b.sys, b.id, b.pg)).length ec4] from rfl]
            go_wp2_with fail
            refine (register_so b.sys b.id b.pg hSp.out.st HX.out.sys HX.out.id HX.out.pg).mono ?_
            rintro e w5 ⟨rfl, hst5, ho5⟩
            rw [HVE.out]
            have HZ := Lib.hid (HA.out.reg (b.sys, b.id, b.pg) (hSp.out.dir hst5 ho5) rfl rfl rfl)
            clear hst5 ho5 hSp
            generalize ofV x.V b.id b.pg = v
            go_wp2_with fail
            go_meet
            exact HZ.out
          · go_wp2_with fail
            refine (change_so (B := w.heap.size) b.id HA.out.sy.st HX.out.id hc0 (by omega) HI.out (by omega) HA.out.sy.st.bel.size (fun b off hne e hm => by
              obtain ⟨b', off', e', hb', _⟩ := HI.out.cells hne
              rw [e'] at e
              have hbb := plain_block e
              have h1 := HA.out.sy.st.b1; have h2 := HA.out.sy.st.b3; have h3 := HA.out.sy.st.b4
              subst hbb; simp at hm; omega)).mono ?_
            rintro e w4 ⟨rfl, hst4, ho4⟩
            have hS := HA.out.sy.dir hst4 ho4
            have hblk4 := ho4.heap HB.out (fun hm => HSP.out _ hm rfl)
            have hI4 := HI.out.only ho4 HA.out.sy.st.bel.size (fun b off hne e hm => by
              obtain ⟨b', off', e', hb', _⟩ := HI.out.cells hne
              rw [e'] at e
              have hbb := plain_block e
              have h1 := HA.out.sy.st.b1; have h2 := HA.out.sy.st.b2; have h3 := HA.out.sy.st.b3; have h4 := HA.out.sy.st.b4
              subst hbb; simp at hm; omega)
            have e2 := cell_at (i := 2) hblk4 rfl
            have e4 := cell_at (i := 4) hblk4 rfl
            have g0 := hS.cells.1
            have g1 := hS.cells.2.1
            have g2 := hS.cells.2.2
            have f0 := free_at hS.blk 0
            have f1 := free_at hS.blk 1
            have f2 := free_at hS.blk 2
            have hR := rchange_any w4 w4.heap.size x b.id b.pa b.pcap w.heap.size b.pages hS.ok (Nat.le_refl _) HX.out.id hxc0 hxc hI4 hS.st.bel.size (by omega)
            rw [show x.val = .agg #[.int .i64 x.c, .slice x.va x.V.length x.vcap, .slice x.ea x.E.length x.ecap] from rfl] at hR
            have HR := Lib.hid hR
            have HS4 := Lib.hid hS
            clear hR hS hI4 hblk4 hst4 ho4 d1 d2 d3 d4 s0 s1 s2
            go_wp2_with fail
            refine HR.out.mono ?_
            rintro e w5 ⟨y, y1, y2, y3, rfl, hok5, hb5⟩
            rw [show y.val = .agg #[.int .i64 y.c, .slice y.va y.V.length y.vcap, .slice y.ea y.E.length y.ecap] from rfl]
            have hS := HS4.out.below hb5
            clear g0 g1 g2 f0 f1 f2 e2 e4
            have g0 := hS.cells.1
            have g1 := hS.cells.2.1
            have g2 := hS.cells.2.2
            have f0 := free_at hS.blk 0
            have f1 := free_at hS.blk 1
            have f2 := free_at hS.blk 2
            have HZ := Lib.hid (HA.out.chg b.id b.pages hxf.2.2 hxf.1 (hS.put hok5) y1 y2 y3)
            clear hS hok5 hb5 y1 y2 y3 HR HS4
            go_wp2_with fail
            go_meet
            exact HZ.out
          · go_wp2_with fail
            refine (renew_so b.id HA.out.sy.st HX.out.id hc0 (by omega)).mono ?_
            rintro e w4 ⟨rfl, hst4, ho4⟩
            have hS := HA.out.sy.dir hst4 ho4
            have hblk4 := ho4.heap HB.out (fun hm => HSP.out _ hm rfl)
            have e2 := cell_at (i := 2) hblk4 rfl
            have g0 := hS.cells.1
            have g1 := hS.cells.2.1
            have g2 := hS.cells.2.2
            have f0 := free_at hS.blk 0
            have f1 := free_at hS.blk 1
            have f2 := free_at hS.blk 2
            have hR := rrenew_any w4 w4.heap.size x b.id hS.ok (Nat.le_refl _) HX.out.id hxc0 hxc (by omega)
            rw [show x.val = .agg #[.int .i64 x.c, .slice x.va x.V.length x.vcap, .slice x.ea x.E.length x.ecap] from rfl] at hR
            have HR := Lib.hid hR
            have HS4 := Lib.hid hS
            clear hR hS hblk4 hst4 ho4 d1 d2 d3 d4 s0 s1 s2
            go_wp2_with fail
            refine HR.out.mono ?_
            rintro e w5 ⟨y, y1, y2, y3, rfl, hok5, hb5⟩
            rw [show y.val = .agg #[.int .i64 y.c, .slice y.va y.V.length y.vcap, .slice y.ea y.E.length y.ecap] from rfl]
            have hS := HS4.out.below hb5
            clear g0 g1 g2 f0 f1 f2 e2
            have g0 := hS.cells.1
            have g1 := hS.cells.2.1
            have g2 := hS.cells.2.2
            have f0 := free_at hS.blk 0
            have f1 := free_at hS.blk 1
            have f2 := free_at hS.blk 2
            have HZ := Lib.hid (HA.out.ren b.id (hS.put hok5) y1 y2 y3)
            clear hS hok5 hb5 y1 y2 y3 HR HS4
            go_wp2_with fail
            go_meet
            exact HZ.out
          · go_wp2_with fail
            refine (forget_so b.sys HA.out.sy.st).mono ?_
            rintro e w4 ⟨rfl, hst4, ho4⟩
            have hS := HA.out.sy.dir hst4 ho4
            have hblk4 := ho4.heap HB.out (fun hm => HSP.out _ hm rfl)
            have e1 := cell_at (i := 1) hblk4 rfl
            have g0 := hS.cells.1
            have g1 := hS.cells.2.1
            have g2 := hS.cells.2.2
            have f0 := free_at hS.blk 0
            have f1 := free_at hS.blk 1
            have f2 := free_at hS.blk 2
            have hR := rforget_any w4 w4.heap.size x b.sys hS.ok (Nat.le_refl _)
            rw [show x.val = .agg #[.int .i64 x.c, .slice x.va x.V.length x.vcap, .slice x.ea x.E.length x.ecap] from rfl] at hR
            have HR := Lib.hid hR
            have HS4 := Lib.hid hS
            clear hR hS hblk4 hst4 ho4 d1 d2 d3 d4 s0 s1 s2
            go_wp2_with fail
            refine HR.out.mono ?_
            rintro e w5 ⟨ea5, ec5, rfl, hok5, hb5⟩
            rw [show RS.val ⟨x.c, x.va, x.vcap, x.V, ea5, ec5, x.E.filter (fun y => y.1 != b.sys)⟩ = .agg #[.int .i64 x.c, .slice x.va x.V.length x.vcap, .slice ea5 (x.E.filter (fun y => y.1 != b.sys)).length ec5] from rfl]
            have hS := HS4.out.below hb5
            clear g0 g1 g2 f0 f1 f2 e1
            have g0 := hS.cells.1
            have g1 := hS.cells.2.1
            have g2 := hS.cells.2.2
            have f0 := free_at hS.blk 0
            have f1 := free_at hS.blk 1
            have f2 := free_at hS.blk 2
            have HZ := Lib.hid (HA.out.fog b.sys (hS.put hok5) rfl rfl rfl)
            clear hS hok5 hb5 HR HS4
            go_wp2_with fail
            go_meet
            exact HZ.out
        case rest =>
          clear HX HF4 hA1 hblk hI hxf hxc hxc0 hbs hc0 hcn hgn hvn hen
          obtain ⟨c2, R2, C2, G2, y, hA⟩ := hcut
          obtain ⟨wq, rfl⟩ : ∃ wq : World, wq = wr := ⟨_, rfl⟩
          go_wp2_with fail
          go_loopw [89] (fun k wr => ∃ m : Nat, m ≤ l.length ∧ k = .int .i64 m ∧ Ag w wr db rb cb gb sb (n + 1) c2 R2 C2 G2 y) (fun k _ => l.length - (intOf k).toNat)
          case atStart => exact ⟨0, by omega, rfl, hA⟩
          case round =>
            clear hA
            obtain ⟨m, hm, rfl, hA⟩ := hrel
            by_cases hlt2 : m < l.length
            · have hr2 := h.below hA.sy.st.bel
              have hx := hr2.ok _ (List.getElem_mem hlt2)
              have hxf := HW.out _ (List.getElem_mem hlt2)
              obtain ⟨b1, o1, he, hb1, c0, c1, c2', c3, c4⟩ := hr2.get hlt2
              injection he with he
              injection he with he1 he2
              subst he1 he2
              generalize l[m] = d at hx hxf c0 c1 c2' c3 c4
              have hcn := hA.cn
              have hgn := hA.gn
              obtain ⟨v, q, L, hAns⟩ := answers hA.sy hA.lk (by omega) (by omega) d.sys d.id d.pg hx.sys hx.id hx.pg hxf.2.1
              have hv0 := hAns.v0
              have hv9 := hAns.v9
              have HAns := Lib.hid hAns
              have hbx : Below wr.heap.size wr (wr.alloc (.cells #[.int .i64 d.kind, .int .i64 d.sys, .int .i64 d.id, .int .i64 d.pg, .slice d.pa d.pages.length d.pcap] 33)) := (Below.refl _ _).alloc (Nat.le_refl _) _
              have hqb := heap_alloc_new wr (.cells #[.int .i64 d.kind, .int .i64 d.sys, .int .i64 d.id, .int .i64 d.pg, .slice d.pa d.pages.length d.pcap] 33)
              have hA1 := hA.below hbx
              have hqlt : wr.heap.size < (wr.alloc (.cells #[.int .i64 d.kind, .int .i64 d.sys, .int .i64 d.id, .int .i64 d.pg, .slice d.pa d.pages.length d.pcap] 33)).heap.size := lt_of_block hqb
              have hslt := lt_of_block hA.sy.blk
              have s0 := hA.sy.cells.1
              have s1 := hA.sy.cells.2.1
              have s2 := hA.sy.cells.2.2
              clear hAns hx hxf hr2 hA hbx
              have HA1 := Lib.hid hA1
              clear hA1
              go_wp2_with fail
              refine (HAns.out.of _ HA1.out.sy).mono ?_
              rintro e w5 ⟨rfl, hb5⟩
              have hA5 := HA1.out.below hb5
              have hq5 := heap_below hb5 hqlt hqb
              clear s0 s1 s2 c0 c1 c2' c3 c4 hqb hqlt hb5 hslt HA1
              generalize wr.heap.size = qb at hq5 ⊢
              go_wp2_with fail
              generalize w5 = wz at hA5 hq5 ⊢
              have hwrap : IntKind.i64.wrap (v + 1) = v + 1 := IntWalk.i64_in _ (by omega)
              have hS := hA5.sy.below below_drew1
              have hqd := heap_below (below_drew1 (w := wz)) (lt_of_block hq5) hq5
              have hbz := below_drew1 (w := wz)
              have hK := six hS hqd
              have HA5 := Lib.hid hA5
              clear hA5 hq5
              cases q
              all_goals
                go_region_held3 (fun w' => w'.cell? ⟨sb, 0, none⟩ = some (.int .i64 y.c) ∧ w'.cell? ⟨sb, 1, none⟩ = some (.slice y.va y.V.length y.vcap) ∧ w'.cell? ⟨sb, 2, none⟩ = some (.slice y.ea y.E.length y.ecap) ∧ w'.cell? ⟨qb, 1, none⟩ = some (.int .i64 d.sys) ∧ w'.cell? ⟨qb, 2, none⟩ = some (.int .i64 d.id) ∧ w'.cell? ⟨qb, 3, none⟩ = some (.int .i64 d.pg)) (exact hK)
                  ((first
                    | (go_at_call 20; (with_reducible refine (HAns.out.v1 _ hS).mono ?_); rintro e w6 ⟨rfl, hb⟩; have hbz := hbz.trans (hb.mono hbz.size); have hS := hS.below hb; have hqd := heap_below hb (lt_of_block hqd) hqd; have hK := six hS hqd; clear hb)
                    | (go_at_call 20; (with_reducible refine (HAns.out.v2 _ hS).mono ?_); rintro e w6 ⟨rfl, hb⟩; have hbz := hbz.trans (hb.mono hbz.size); have hS := hS.below hb; have hqd := heap_below hb (lt_of_block hqd) hqd; have hK := six hS hqd; clear hb)
                    | (go_at_call 21; (with_reducible refine (HAns.out.r1 _ hS).mono ?_); rintro e w6 ⟨rfl, hb⟩; have hbz := hbz.trans (hb.mono hbz.size); have hS := hS.below hb; have hqd := heap_below hb (lt_of_block hqd) hqd; have hK := six hS hqd; clear hb)
                    | (go_at_call 23; (with_reducible refine (HAns.out.h1 _ hS).mono ?_); rintro e w6 ⟨ha1, hc1, rfl, hI1, hb⟩; have hbz := hbz.trans (hb.mono hbz.size); have hS := hS.below hb; have hqd := heap_below hb (lt_of_block hqd) hqd; have hK := six hS hqd; clear hb)
                    | (go_at_call 24; (with_reducible refine (HAns.out.h2 _ hS).mono ?_); rintro e w6 ⟨ha2, hc2, rfl, hI2, hb⟩; have hI1 := (hI1.below hb).mono hb.size; have hbz := hbz.trans (hb.mono hbz.size); have hS := hS.below hb; have hqd := heap_below hb (lt_of_block hqd) hqd; have hK := six hS hqd; clear hb)
                    | (go_at_call 22; (with_reducible refine (HAns.out.i _ _ _ _ _ hI1 hI2).mono ?_); rintro e w6 ⟨rfl, hb⟩; have hbz := hbz.trans (hb.mono hbz.size); have hS := hS.below hb; have hqd := heap_below hb (lt_of_block hqd) hqd; have hK := six hS hqd; clear hb)))
                have HZ := Lib.hid (HA5.out.below hbz)
                clear hbz hS hqd hK hI1 hI2 hwrap
                go_wp2_with fail
                go_roundw
                case rel => exact ⟨m + 1, by omega, by go_num, HZ.out⟩
                case measure => simp [intOf]; omega
            · have HZ := Lib.hid (show AgIs w db rb cb gb sb (n + 1) wr from ⟨_, _, _, _, _, hA⟩)
              clear hA
              go_wp2_with fail
              go_roundw
              case rel => exact ⟨n + 1, by omega, by go_num, HZ.out⟩
              case measure => simp [intOf]; omega
      · obtain hst := hA.sy.st
        go_wp2_with fail
        refine (awake_any wr).mono ?_
        rintro e w2 ⟨rfl, hb2⟩
        go_wp2_with fail
        go_ret
        exact ⟨rfl, hst.bel.trans (hb2.mono hst.bel.size)⟩

end Go.Proofs.Ytbocefnfhnnbjaa
