/- Elimination over two sets of operations that agree on the elements. -/
import Derived.Test.YtapjcccpokhhhaaGreatG10
import Derived.Test.YtapjcccpokhhhaaGreatG8
import Derived.Test.YtapjcccpokhhhaaGreatG5
namespace Go.Proofs.YtapjcccpokhhhaaGreat
set_option linter.unusedVariables false
set_option linter.unusedSimpArgs false
set_option linter.unusedSectionVars false

/- The walk of basis.add. -/
section
open Go.RowKit

def BaddPost (w0 : World) (bb b : Nat) (ar : Option Addr) (R : List (Option Addr × Nat)) (ap av : Option Addr) (O : FOps) (s : BS) (v : List Int) (w : World) (e : Ending) (w' : World) : Prop :=
  ∃ ar' cr' R' ap' cp', e = .returned (.bool (s.takes O v)) ∧ Bas w' w0.heap.size bb b ar' cr' R' ap' cp' (s.next O v) ∧
    Moves w w' (fun x => BIn bb ar R ap x ∨ (av ≠ none ∧ x = ablk av)) (BIn bb ar' R' ap')

set_option maxRecDepth 100000 in
set_option maxHeartbeats 4000000 in
theorem badd_any {w w0 : World} {b : Nat} {G : Tbl} (bb : Nat) (ar : Option Addr) (cr : Nat) (R : List (Option Addr × Nat)) (ap : Option Addr) (cp : Nat) (s : BS) (av : Option Addr) (cv n : Nat) (v : List Int)
    (h : GFw w0 b G) (hb : Below w0.heap.size w0 w) (hB : Bas w w0.heap.size bb b ar cr R ap cp s) (hs : s.Ok G.El n) (hv : w.ownsRow w0.heap.size 3 1 (.slice av n cv) n (v.map (Value.int .i64)))
    (hav : av ≠ none → ¬ BIn bb ar R ap (ablk av)) (hve : G.Els v) (hn : n ≤ 1000000) (hk : s.rows.length ≤ 1000000) :
    Calls Tryz.prog 143 #[.pointer (some ⟨bb, 0, none⟩), .slice av n cv] w (BaddPost w0 bb b ar R ap av G.ops s v w) := by
  have hvl : v.length = n := by simpa using own_len hv
  have hpv := (Ints.own hv).1.pl
  have hcl := Tbl.cl h
  have hred := redTo_el hcl hs.rws hs.plc ⟨hvl, hve⟩
  have Hred := Lib.hid hred
  have Hvl := Lib.hid hvl
  have Hs := Lib.hid hs
  have Hve := Lib.hid hve
  have c1 := hB.c1
  have hplr := hB.om.pl
  clear hred hvl hs hve
  go_enter Tryz.func143, Tryz.ntmps143
  go_wp2_with fail
  obtain ⟨kk, hkk⟩ : ∃ kk, s.rows.length = kk := ⟨_, rfl⟩
  have Hkk := Lib.hid hkk
  rw [hkk] at hk hplr c1
  rw [hkk]
  clear hkk
  go_loopw [18] (fun iv wr => ∃ k : Nat, k ≤ kk ∧ iv = .int .i64 k ∧ wr.ownsRow w0.heap.size 3 1 (.slice av n cv) n ((redTo G.ops s.rows s.place v k).map (Value.int .i64)) ∧ Only av w wr) (fun iv _ => kk - (intOf iv).toNat)
  case atStart => exact ⟨0, Nat.zero_le _, rfl, hv, Only.refl _ _⟩
  case round =>
    obtain ⟨k, hkk2, rfl, hown, honly⟩ := hrel
    have hBr := hB.only honly hav
    by_cases hlt : k < kk
    · have hkr : k < s.rows.length := by rw [Hkk.out]; exact hlt
      have e0 := hBr.c0
      have e2 := hBr.c2
      have er := hBr.om.cell hkr
      have ir := hBr.om.ints hkr
      have hrow := Hs.out.rws.row hkr
      have hplc := Hs.out.plc k hkr
      rw [hrow.1] at er ir
      obtain ⟨ip, mp⟩ := Ints.own hBr.pl
      have ep := ip.cell k hkr
      have hpp := ip.pl
      rw [Hkk.out] at e2 hpp
      obtain ⟨pn, hpn⟩ : ∃ pn : Nat, nth s.place k = pn := ⟨(nth s.place k).toNat, by omega⟩
      rw [hpn] at ep hplc
      have hpnn : pn < n := by omega
      have hrd := Hred.out k (by omega)
      have hrd1 := Hred.out (k + 1) (by omega)
      have hstep : redTo G.ops s.rows s.place v (k + 1) = redStep G.ops (redTo G.ops s.rows s.place v k) pn (nthR s.rows k) := by rw [redTo, hpn]
      have Hstep := Lib.hid hstep
      have Hrow := Lib.hid hrow
      have Hpn := Lib.hid hpn
      clear hstep hpn
      obtain ⟨u, hu⟩ : ∃ u, redTo G.ops s.rows s.place v k = u := ⟨_, rfl⟩
      rw [hu] at hown hrd
      have Hu := Lib.hid hu
      obtain ⟨iu, mu⟩ := Ints.own hown
      have eu := iu.cell pn hpnn
      have hpu := iu.pl
      have Hrd := Lib.hid hrd
      clear hu hrow hrd hrd1
      by_cases hz : nth u pn = 0
      · have hz' : (nth u pn != 0) = false := by simpa using hz
        have Hn : Hid (redTo G.ops s.rows s.place v (k + 1) = u) := by show _ = _; rw [Hstep.out, Hu.out, redStep, Int.toNat_natCast, if_pos hz]
        clear hz
        go_wp2_with fail
        go_roundw
        case rel => exact ⟨k + 1, by omega, by go_num, by rw [Hn.out]; exact hown, honly⟩
        case measure => simp [intOf] <;> omega
      · have hz' : (nth u pn != 0) = true := by simpa using hz
        have Hn : Hid (redTo G.ops s.rows s.place v (k + 1) = subRow G.ops u (nth u pn) (nthR s.rows k)) := by show _ = _; rw [Hstep.out, Hu.out, redStep, Int.toNat_natCast, if_neg hz]
        have hxe : G.El (nth u pn) := Hrd.out.2 _ (nth_mem (by rw [Hrd.out.1]; exact hpnn))
        have hSl : (subRow G.ops u (nth u pn) (nthR s.rows k)).length = u.length := subRow_length _ _ _ _ (by rw [Hrow.out.1, Hrd.out.1])
        have hSn := fun i hi => nth_subRow G.ops u (nth u pn) (nthR s.rows k) i (by rw [Hrow.out.1, Hrd.out.1]) hi
        have HSl := Lib.hid hSl
        have HSn := Lib.hid hSn
        clear hz hSl hSn
        have hplr2 := ir.pl
        go_wp2_with fail
        generalize nth u pn = x at *
        generalize subRow G.ops u x (nthR s.rows k) = S at *
        go_loopw [37] (fun iv wx => ∃ j : Nat, j ≤ n ∧ iv = .int .i64 j ∧ wx.ownsRow w0.heap.size 3 1 (.slice av n cv) n ((mixTo S u j).map (Value.int .i64)) ∧ Only av w wx) (fun iv _ => n - (intOf iv).toNat)
        case atStart => exact ⟨0, Nat.zero_le _, rfl, by rw [mixTo_zero]; exact hown, honly⟩
        case round =>
          obtain ⟨j, hj, rfl, hown2, honly2⟩ := hrel
          have hBx := hB.only honly2 hav
          have ix := hBx.om.ints hkr
          rw [Hrow.out.1] at ix
          by_cases hjn : j < n
          · have cj := ix.cell j hjn
            have f0 := hBx.c0
            obtain ⟨im, mm⟩ := Ints.own hown2
            have cm := im.cell j hjn
            have fm := (mm (by omega)).2 j hjn
            have hju : j < u.length := by rw [Hrd.out.1]; exact hjn
            have hmix := nth_mixTo S u j j HSl.out (by omega)
            rw [if_neg (by omega)] at hmix
            rw [hmix] at cm
            have hset := mixTo_set S u j HSl.out hju
            rw [HSn.out j hju] at hset
            have Hset := Lib.hid hset
            have ely : G.El (nth (nthR s.rows k) j) := Hrow.out.2 _ (nth_mem (by rw [Hrow.out.1]; exact hjn))
            have elv : G.El (nth u j) := Hrd.out.2 _ (nth_mem hju)
            have elm : ∀ x y, G.El (G.mul x y) := fun x y => Tbl.mul_el h x y
            have hbx : Below w0.heap.size w0 wr := Below.trans hb (honly2.below (fun ha => (own_ne hv ha).1) hb.size)
            have hGr : GFw wr b G := h.keep hbx
            have HG : Hid (GFw wr.drew b G ∧ ∀ n, GFw (wr.drewN n) b G) := ⟨hGr.keep (Below.refl _ _).drew, fun n => hGr.drewN n⟩
            clear hset hmix
            go_wp2_with fail
            go_region_law ((first
              | (go_simp; go_at_call 151; ((with_reducible refine (gMul x (nth (nthR s.rows k) j) HG.out.1 hxe ely).mono ?_); rintro e w4 ⟨m4, rfl, rfl⟩))
              | (go_simp; go_at_call 151; ((with_reducible refine (gMul x (nth (nthR s.rows k) j) (HG.out.2 _) hxe ely).mono ?_); rintro e w4 ⟨m4, rfl, rfl⟩))
              | (go_simp; go_at_call 181; ((with_reducible refine (gSub (nth u j) (G.mul x (nth (nthR s.rows k) j)) (HG.out.2 _) elv (elm _ _)).mono ?_); rintro e w4 ⟨m5, rfl, rfl⟩))))
            all_goals (
              go_wp2_with fail
              go_roundw
              case rel =>
                have hdr : Drawn wr (wr.drewN (1 + m4 + m5)) := ⟨_, rfl⟩
                refine ⟨j + 1, by omega, by go_num, ?_, honly2.trans ((Only.drawn hdr).trans (Only.set _ j _ (by intro e; have := hpv (by omega); rw [e] at this; cases this)))⟩
                have h1 := own_set (w := wr.drewN (1 + m4 + m5)) hown2 j hjn (.int .i64 (G.sub (nth u j) (G.mul x (nth (nthR s.rows k) j))))
                rw [← List.map_set, show G.sub (nth u j) (G.mul x (nth (nthR s.rows k) j)) = G.ops.add (nth u j) (G.ops.neg (G.ops.mul x (nth (nthR s.rows k) j))) from rfl, Hset.out] at h1
                exact h1
              case measure => simp [intOf] <;> omega)
          · obtain rfl : j = n := by omega
            rw [mixTo_all S u j (by rw [HSl.out, Hrd.out.1]) Hrd.out.1] at hown2
            go_wp2_with fail
            go_roundw
            case rel => exact ⟨k + 1, by omega, by go_num, by rw [Hn.out]; exact hown2, honly2⟩
            case measure => simp [intOf] <;> omega
    · obtain rfl : k = kk := by omega
      have hrd := Hred.out k (by rw [Hkk.out]; exact Nat.le_refl _)
      have hurd : redTo G.ops s.rows s.place v k = s.red G.ops v := by rw [BS.red, Hkk.out]
      rw [hurd] at hown hrd
      obtain ⟨iu, mu⟩ := Ints.own hown
      have Hrd := Lib.hid hrd
      clear hurd hrd
      go_wp2_with fail
      refine (indexNz_any _ _ _ _ _ iu).mono ?_
      rintro e w' ⟨rfl, rfl⟩
      by_cases hf : fnz (s.red G.ops v) < (s.red G.ops v).length
      · have hfv : fnzV (s.red G.ops v) = fnz (s.red G.ops v) := by rw [fnzV, if_pos hf]
        have hfn := fnz_ne _ hf
        have Ht : Hid (s.takes G.ops v = true) := by show _ = _; simpa [BS.takes] using hf
        have HN : Hid (s.next G.ops v = ⟨s.rows ++ [(s.red G.ops v).map (G.mul (G.inv (nth (s.red G.ops v) (fnz (s.red G.ops v)))))], s.place ++ [(fnz (s.red G.ops v) : Int)]⟩) := by
          show _ = _; rw [BS.next, if_pos Ht.out]; rfl
        rw [hfv]
        obtain ⟨u, hu⟩ : ∃ u, s.red G.ops v = u := ⟨_, rfl⟩
        rw [hu] at hown Hrd hf hfn iu HN
        rw [hu]
        clear hu hfv
        obtain ⟨f, hff⟩ : ∃ f, fnz u = f := ⟨_, rfl⟩
        rw [hff] at hf hfn HN
        rw [hff]
        have hfn' : f < n := by rw [← Hrd.out.1]; exact hf
        have e0 := hBr.c0
        have eu := iu.cell f hfn'
        have hpu := iu.pl
        have elf : G.El (nth u f) := Hrd.out.2 _ (nth_mem hf)
        have hbx : Below w0.heap.size w0 wr := Below.trans hb (honly.below (fun ha => (own_ne hv ha).1) hb.size)
        have hGr : GFw wr b G := h.keep hbx
        have HG : Hid (GFw wr.drew b G ∧ ∀ n, GFw (wr.drewN n) b G) := ⟨hGr.keep (Below.refl _ _).drew, fun n => hGr.drewN n⟩
        have Hfn := Lib.hid hfn
        have Hf := Lib.hid hf
        clear hff hfn hf
        go_upto_region 15 with fail
        go_cut [11] (fun dv wx => dv = .int .i64 (G.inv (nth u f)) ∧ Drawn wr wx)
        case first =>
          go_region_held3 (fun w' => w'.cell? ⟨bb, 0, none⟩ = some (.pointer (some ⟨b, 0, none⟩)) ∧ w'.cell? ⟨ablk av, aoff av + f, none⟩ = some (.int .i64 (nth u f)))
            (exact ⟨e0, eu⟩)
            (first
            | (go_at_call 167; ((with_reducible refine (gInv _ HG.out.1 elf Hfn.out).mono ?_); rintro e w4 ⟨m4, rfl, rfl⟩)))
          all_goals (
            go_step; go_step
            go_meet
            exact ⟨rfl, ⟨_, rfl⟩⟩)
        obtain ⟨rfl, hdr⟩ := hcut
        generalize wc = V at *
        have hBV : Bas V w0.heap.size bb b ar cr R ap cp s := hBr.keep hdr.below
        have hownV := own_keep hown hdr.below
        have hbV : Below w0.heap.size w0 V := hdr.below' hbx
        have honV : Only av w V := honly.trans (Only.drawn hdr)
        clear hBr hown hbx hGr HG e0 eu iu mu hdr honly
        obtain ⟨iu, mu⟩ := Ints.own hownV
        have HGV : Hid (GFw V.drew b G ∧ ∀ n, GFw (V.drewN n) b G) := ⟨(h.keep hbV).keep (Below.refl _ _).drew, fun n => (h.keep hbV).drewN n⟩
        have hiel : G.El (G.inv (nth u f)) := Tbl.inv_el h _
        have e0 := hBV.c0
        have e1 := hBV.c1
        have f1 := hBV.fr 1
        have hS : ∀ W, Below V.heap.size V W → W.cell? ⟨bb, 0, none⟩ = some (.pointer (some ⟨b, 0, none⟩)) ∧ W.cell? ⟨bb, 1, none⟩ = some (.slice ar s.rows.length cr) ∧ W.frozen? ⟨bb, 1, none⟩ = false ∧ Below V.heap.size V W := by
          intro W hW
          have hBW := hBV.keep hW
          exact ⟨hBW.c0, hBW.c1, hBW.fr 1, hW⟩
        have HS := Lib.hid hS
        have haptb : Apt ar bb := by
          by_cases ha : ar = none
          · exact .inl ha
          · exact .inr fun e => hBV.d1 (.inl ⟨ha, e.symm⟩)
        have hR : ∀ W, Below V.heap.size V W → W.ownsRow w0.heap.size 22 1 (.slice ar k cr) k (List.zipWith rowV R s.rows) := fun W hW => by
          have := (hBV.om.keep hW).own
          rwa [Hkk.out] at this
        have HR := Lib.hid hR
        obtain ⟨N, hN⟩ : ∃ N, u.map (G.mul (G.inv (nth u f))) = N := ⟨_, rfl⟩
        have hsc : Calls Tryz.prog 169 #[.pointer (some ⟨b, 0, none⟩), .int .i64 (G.inv (nth u f)), .slice av n cv] V.drew (NewInts V.drew N) := by
          rw [← hN]; exact gScale (G.inv (nth u f)) _ _ _ u HGV.out.1 hiel (iu.keep (Below.refl _ _).drew) Hrd.out.2 hn
        have Hsc := Lib.hid hsc
        have HNe := Lib.hid hN
        rw [hN] at HN
        clear hN hsc
        clear hS hR
        go_upto_region 16 with fail
        go_cut [] (fun wx => ∃ ar' cr' R', wx.cell? ⟨bb, 1, none⟩ = some (.slice ar' (k + 1) cr') ∧ OMat wx w0.heap.size ar' (k + 1) cr' R' (s.rows ++ [N]) ∧
          Moves V wx (fun x => x = bb ∨ OIn ar R x) (fun x => x = bb ∨ OIn ar' R' x) ∧ ¬ OIn ar' R' bb ∧
          (∀ i v, i ≠ 1 → V.cell? ⟨bb, i, none⟩ = some v → wx.cell? ⟨bb, i, none⟩ = some v) ∧ ∀ i, wx.frozen? ⟨bb, i, none⟩ = false)
        case first =>
          rw [Hkk.out] at e1 HS
          go_region_law ((first
            | (go_simp; go_at_call 169; ((with_reducible refine Hsc.out.mono ?_); rintro e w4 ⟨a4, c4, rfl, hown4, hb4⟩; obtain ⟨q0, q1, q2, q5⟩ := HS.out w4 (Below.next (Below.refl _ _).drew hb4); have q6 : bb < w4.heap.size := World.block_lt_of_cell? w4 _ q0))
            | (refine step_appAll (by rfl) (.tmp 83) (.tmp 91) 25 22 (by rfl) (.slice none 0 0) 24 Tryz.underlying25 infoInts (by rfl) w0.heap.size ar k cr (List.zipWith rowV R s.rows) (by rfl) (HR.out _ (Below.next q5 (below1 _ _))) (some ⟨w4.heap.size, 0, none⟩) 1 1 [.slice a4 N.length c4] (by rfl) (fun _ => rfl) rfl (by intro j hj; obtain rfl : j = 0 := (by omega); exact cell_new' _ _ _ rfl) (by intro y hy; simp at hy; subst hy; rfl) (by omega) (by unfold maxLen; omega) (by have e1 := hbV.size; have e2 := Below.size q5; simp; omega) ?_; intro a5 c5 w5 hown5 hgr5 hap5; have p1 := cell_grownApt hgr5 (cell_box q1 _) haptb; have p2 : w5.frozen? ⟨bb, 1, none⟩ = false := (World.frozen?_of_block (hgr5.block bb (World.block_lt_of_cell? _ _ (cell_box q1 _)) (fun e => haptb.own k cr e.symm))).trans (frozen_box (World.block_lt_of_cell? _ _ q1) q2 _))))
          all_goals (
            go_wp2_with fail
            go_meet
            exact hBV.push16 Hkk.out hbV.size (Below.next (Below.refl _ _).drew hb4) hown4 hown5 hgr5 hap5 ⟨_, p1⟩)
        obtain ⟨ar', cr', R', y1, hOX, hMX, hdX, hcX, hfX⟩ := hcut
        generalize wc = X at *
        have y0 := hcX 0 _ (by omega) e0
        have y2 := hcX 2 _ (by omega) hBV.c2
        have yf := hfX 2
        have hnI : ap ≠ none → ¬ (ablk ap = bb ∨ OIn ar R (ablk ap)) := fun h0 hI => by
          rcases hI with h1 | h1
          · rcases hBV.d2 with h2 | h2
            · exact h0 h2
            · exact h2 h1
          · exact hBV.d3 h0 h1
        have hpX := hMX.own hBV.pl hnI
        have hd3 : ap ≠ none → ¬ OIn ar' R' (ablk ap) := fun h0 hI => hMX.not (own_ne hBV.pl h0).2 (hnI h0) (.inr hI)
        rw [Hkk.out] at y2 hpX
        have hbX : Below w0.heap.size w0 X := hbV.trans (hMX.below (fun x hx => (hBV.lt x (by rcases hx with h1 | h1; exact .inl h1; exact .inr (.inl h1))).1) hbV.size)
        have hz : bb < X.heap.size := World.block_lt_of_cell? X _ y0
        have HfX := Lib.hid hfX
        have Hd3 := Lib.hid hd3
        have HdX := Lib.hid hdX
        have hd2 := hBV.d2
        have hbB := hBV.bB
        have hcn := cell_new X (.int .i64 f) 3
        clear hcX hfX hd3 hdX e0 e1 f1
        go_wp2_with (at_builtin; refine wpList_push rfl _ _ 22 3 rfl (.int .i64 0) 8 Tryz.underlying22 infoInt rfl w0.heap.size ap k cp _ rfl (hpX.alloc _) ⟨X.heap.size, 0, none⟩ 1 (.int .i64 f) rfl hcn rfl (by omega) (by unfold maxLen; omega) (by have e1 := hbX.size; simp; omega) ?_; intro a6 c6 w6 hown6 hgr6 hap6; have p1 := cell_grownApt hgr6 (cell_box y2 _) hd2; have p2 : w6.frozen? ⟨bb, 2, none⟩ = false := (World.frozen?_of_block (hgr6.block bb (World.block_lt_of_cell? _ _ (cell_box y2 _)) (fun e => hd2.own k cp e.symm))).trans (frozen_box hz yf _))
        have hP := Bas.push17 (w6 := w6) hbB y0 y1 ⟨_, y2⟩ HfX.out hOX hpX HdX.out hd2 Hd3.out hown6 hgr6 hap6
        have HP := Lib.hid hP
        clear hP
        go_ret
        refine ⟨ar', cr', R', a6, c6, ret_bool Ht.out.symm, by rw [HN.out]; exact HP.out.1, ?_⟩
        refine Moves.trans (w' := V) (I' := fun x => BIn bb ar R ap x ∨ (av ≠ none ∧ x = ablk av)) ?_ (Moves.trans (w' := X) (I' := BIn bb ar' R' ap) ?_ HP.out.2)
        · exact ⟨honV.os, honV.tape, honV.output, honV.size, fun x hx hI => honV.block x hx fun h2 => hI (.inr h2), fun x hx => .inl hx⟩
        · refine ⟨hMX.os, hMX.tape, hMX.output, hMX.size, fun x hx hI => hMX.block x hx fun h2 => hI (.inl (by rcases h2 with h3 | h3; exact .inl h3; exact .inr (.inl h3))), fun x hx => ?_⟩
          rcases hx with h1 | h1 | h1
          · exact .inl (.inl (.inl h1))
          · rcases hMX.grow x (.inr h1) with h2 | h2
            · exact .inl (.inl (by rcases h2 with h3 | h3; exact .inl h3; exact .inr (.inl h3)))
            · exact .inr h2
          · exact .inl (.inl (.inr (.inr h1)))
      · have hfv : fnzV (s.red G.ops v) = -1 := by rw [fnzV, if_neg hf]
        rw [hfv]
        have Ht : Hid (s.takes G.ops v = false) := by show _ = _; simp [BS.takes]; omega
        have HN : Hid (s.next G.ops v = s) := by show _ = _; rw [BS.next, if_neg (by rw [Ht.out]; simp)]
        clear hf hfv
        go_wp2_with fail
        go_ret
        refine ⟨ar, cr, R, ap, cp, ret_bool Ht.out.symm, by rw [HN.out]; exact hBr, ?_⟩
        exact ⟨honly.os, honly.tape, honly.output, honly.size, fun x hx hI => honly.block x hx fun h2 => hI (.inr h2), fun x hx => .inl (.inl hx)⟩
end

/- The walk of infoset.greedy. -/
section
open Go.RowKit

/-- the vectors and the positions behind k positions of the order -/
def grTo (O : FOps) (L : List (List Int)) (Q : List Int) : Nat → BS × List Int
  | 0 => (⟨[], []⟩, [])
  | k + 1 => ((grTo O L Q k).1.next O (colS L (nth Q k).toNat), if (grTo O L Q k).1.takes O (colS L (nth Q k).toNat) = true then (grTo O L Q k).2 ++ [nth Q k] else (grTo O L Q k).2)
def grS (O : FOps) (L : List (List Int)) (Q : List Int) : List Int := (grTo O L Q Q.length).2

theorem BS.next_len (O : FOps) (s : BS) (v : List Int) : (s.next O v).rows.length ≤ s.rows.length + 1 := by
  unfold BS.next; split <;> simp

theorem OMat.empty (w : World) (B : Nat) : OMat w B none 0 0 [] [] :=
  ⟨rfl, rfl, own_none, fun i hi => by omega, fun i hi => by omega, fun i j hi => by omega⟩
theorem Bas.start {w : World} {B bb b : Nat} (hB : B ≤ bb) (h : Box w bb [.pointer (some ⟨b, 0, none⟩), .slice none 0 0, .slice none 0 0]) : Bas w B bb b none 0 [] none 0 ⟨[], []⟩ :=
  ⟨hB, h.cell 0 rfl, h.cell 1 rfl, h.cell 2 rfl, fun i => h.frozen i, OMat.empty w B, own_none, fun hI => by
    rcases hI with ⟨h1, _⟩ | ⟨i, hi, _⟩
    · exact h1 rfl
    · simp at hi, .inl rfl, fun h1 => absurd rfl h1⟩

theorem colS_el {El : Int → Prop} {m : Nat} {L : List (List Int)} (h : Rws El m L) {i : Nat} (hi : i < m) : (colS L i).length = L.length ∧ ∀ y ∈ colS L i, El y := by
  refine ⟨colS_length _ _, fun y hy => ?_⟩
  unfold colS at hy
  obtain ⟨r, hr, rfl⟩ := List.mem_map.1 hy
  exact (h r hr).2 _ (nth_mem (by rw [(h r hr).1]; exact hi))

set_option maxRecDepth 100000 in
set_option maxHeartbeats 4000000 in
theorem greedy_any {w : World} {b : Nat} {G : Tbl} (P M : Int) (am : Option Addr) (mn cm : Nat) (N : Int) (a : Option Addr) (n c : Nat) (L : List (List Int)) (m : Nat) (ao : Option Addr) (no co : Nat) (Q : List Int)
    (h : GFw w b G) (hi : Mat w a n L) (hR : Rws G.El m L) (hq : Ints w ao no Q) (hQ : ∀ k, k < no → 0 ≤ nth Q k ∧ nth Q k < m) (hn : n ≤ 1000000) (hno : no ≤ 1000000) :
    Calls Tryz.prog 91 #[.pointer (some ⟨b, 0, none⟩), .agg #[.int .i64 P, .int .i64 M, .slice am mn cm, .int .i64 N, .slice a n c], .slice ao no co] w (NewInts w (grS G.ops L Q)) := by
  have Hlen := Lib.hid hi.len
  have HR := Lib.hid hR
  have HQ := Lib.hid hQ
  have Hql := Lib.hid hq.len
  have hplq := hq.pl
  have hcl := Lib.hid (Tbl.cl h)
  clear hR hQ
  go_enter Tryz.func91, Tryz.ntmps91
  go_wp2_with fail
  obtain ⟨W, hW⟩ : ∃ W : World, W = w.alloc (.cells #[.int .i64 P, .int .i64 M, .slice am mn cm, .int .i64 N, .slice a n c] 27) := ⟨_, rfl⟩
  rw [← hW]
  have hbW : Below w.heap.size w W := by rw [hW]; exact below1 _ _
  have x0 : Box W w.heap.size [.int .i64 P, .int .i64 M, .slice am mn cm, .int .i64 N, .slice a n c] := by rw [hW]; exact Box.new _ _ _ rfl
  have hsW : w.heap.size + 1 = W.heap.size := by rw [hW]; simp
  rw [hsW]
  have HX := Lib.hid x0
  have HsW := Lib.hid hsW
  have hGW := h.keep hbW
  have hiW := hi.keep hbW
  have hqW := hq.keep hbW
  clear hW x0 hsW
  obtain ⟨V, hV⟩ : ∃ V : World, V = W.alloc (.cells #[.pointer (some ⟨b, 0, none⟩), .slice none 0 0, .slice none 0 0] 176) := ⟨_, rfl⟩
  rw [← hV]
  have hbV : Below W.heap.size W V := by rw [hV]; exact below1 _ _
  have hB0 : Bas V W.heap.size W.heap.size b none 0 [] none 0 ⟨[], []⟩ := Bas.start (Nat.le_refl _) (by rw [hV]; exact Box.new _ _ _ rfl)
  clear hV
  go_loopw [8, 16] (fun qv iv wr => ∃ (k : Nat) (aq : Option Addr) (cq : Nat) (out : List Int) (s : BS) (ar : Option Addr) (cr : Nat) (R : List (Option Addr × Nat)) (ap : Option Addr) (cp : Nat), k ≤ no ∧ iv = .int .i64 k ∧ qv = .slice aq out.length cq ∧
      Hid (grTo G.ops L Q k = (s, out)) ∧ Bas wr W.heap.size W.heap.size b ar cr R ap cp s ∧ wr.ownsRow W.heap.size 3 1 (.slice aq out.length cq) out.length (out.map (Value.int .i64)) ∧ Hid (aq ≠ none → ¬ BIn W.heap.size ar R ap (ablk aq)) ∧
      Below W.heap.size W wr ∧ Hid (s.Ok G.El n) ∧ s.rows.length ≤ k ∧ out.length ≤ k)
    (fun _ iv _ => no - (intOf iv).toNat)
  case atStart => exact ⟨0, none, 0, [], ⟨[], []⟩, none, 0, [], none, 0, Nat.zero_le _, rfl, rfl, rfl, hB0, own_none, fun h0 => absurd rfl h0, hbV, ⟨fun r hr => by simp at hr, rfl, fun i hi => by simp at hi⟩, Nat.zero_le _, Nat.zero_le _⟩
  case round =>
    obtain ⟨k, aq, cq, out, s, ar, cr, R, ap, cp, hk, rfl, rfl, hst, hBr, hop, hdq, hbr, hok, hsk, hok2⟩ := hrel
    generalize wr = U at *
    by_cases hlt : k < no
    · have cq1 := (hqW.keep hbr).cell k hlt
      have hQk := HQ.out k hlt
      obtain ⟨i, hik⟩ : ∃ i : Nat, nth Q k = i := ⟨(nth Q k).toNat, by omega⟩
      rw [hik] at cq1 hQk
      have him : i < m := by omega
      have xU := HX.out.keep hbr
      have b0 := xU.cell 0 rfl
      have b1 := xU.cell 1 rfl
      have b2 := xU.cell 2 rfl
      have b3 := xU.cell 3 rfl
      have b4 := xU.cell 4 rfl
      have hcol := colS_el HR.out him
      rw [Hlen.out] at hcol
      have hstep : grTo G.ops L Q (k + 1) = (s.next G.ops (colS L i), if s.takes G.ops (colS L i) = true then out ++ [(i : Int)] else out) := by rw [grTo, hst.out, hik, Int.toNat_natCast]
      have Hstep := Lib.hid hstep
      have Hcol := Lib.hid hcol
      clear xU hstep hcol hik
      go_wp2_with fail
      refine (column_any P M am mn cm N a n c L i U (hiW.keep hbr) (fun r hr => by rw [(HR.out r hr).1]; exact him) hn).mono ?_
      rintro e w3 ⟨a3, c3, rfl, hown3, hb3⟩
      rw [Hcol.out.1] at hown3
      rw [Hcol.out.1]
      have hB3 := hBr.keep hb3
      have hbw3 := Below.next hbr hb3
      have hn3 : a3 ≠ none → ¬ BIn W.heap.size ar R ap (ablk a3) := fun h0 hI => by
        have h1 := (own_ne hown3 h0).1
        have h2 := (hBr.lt _ hI).2
        omega
      go_wp2_with fail
      refine (badd_any W.heap.size ar cr R ap cp s a3 c3 n (colS L i) hGW hbw3 hB3 hok.out (own_mono hown3 hbr.size) hn3 Hcol.out.2 hn (by omega)).mono ?_
      rintro e w4 ⟨ar', cr', R', ap', cp', rfl, hB4, hM4⟩
      have hbw4 : Below W.heap.size W w4 := hbw3.trans (hM4.below (fun x hx => by
        rcases hx with h1 | ⟨h1, h2⟩
        · exact (hB3.lt x h1).1
        · rw [h2]; exact Nat.le_trans hbr.size (own_ne hown3 h1).1) hbw3.size)
      have hop3 := own_keep hop hb3
      have hnI : aq ≠ none → ¬ (BIn W.heap.size ar R ap (ablk aq) ∨ (a3 ≠ none ∧ ablk aq = ablk a3)) := fun h0 hI => by
        rcases hI with h1 | ⟨h1, h2⟩
        · exact hdq.out h0 h1
        · have e1 := (own_ne hop h0).2
          have e2 := (own_ne hown3 h1).1
          omega
      have hop4 := hM4.own hop3 hnI
      have hdq4 : aq ≠ none → ¬ BIn W.heap.size ar' R' ap' (ablk aq) := fun h0 => hM4.not (own_ne hop3 h0).2 (hnI h0)
      have hok4 : (s.next G.ops (colS L i)).Ok G.El n := BS.Ok.next hcl.out hok.out Hcol.out
      have hlen4 := BS.next_len G.ops s (colS L i)
      have Hok4 := Lib.hid hok4
      have Hdq4 := Lib.hid hdq4
      clear hnI hdq4 hok4 b0 b1 b2 b3 b4
      by_cases ht : s.takes G.ops (colS L i) = true
      · rw [ht]
        have Hst : Hid (grTo G.ops L Q (k + 1) = (s.next G.ops (colS L i), out ++ [(i : Int)])) := by show _ = _; rw [Hstep.out, if_pos ht]
        clear ht
        generalize s.next G.ops (colS L i) = s' at *
        have hcn := cell_new w4 (.int .i64 i) 3
        have hbn := below1 w4 (.cells #[.int .i64 i] 3)
        have hsz4 := hbw4.size
        go_wp2_with (at_builtin; refine wpList_push rfl _ _ 22 3 rfl (.int .i64 0) 8 Tryz.underlying22 infoInt rfl W.heap.size aq out.length cq _ rfl (hop4.alloc _) ⟨w4.heap.size, 0, none⟩ 1 (.int .i64 i) rfl hcn rfl (by omega) (by unfold maxLen; omega) (by simp; omega) ?_; intro a5 c5 w5 hown5 hgr5 hap5)
        go_roundw
        case rel =>
          have hBn := hB4.keep hbn
          have haq : ∀ x, BIn W.heap.size ar' R' ap' x → Apt aq x := fun x hx => by
            by_cases h0 : aq = none
            · exact .inl h0
            · exact .inr fun e => Hdq4.out h0 (e ▸ hx)
          have hB5 : Bas w5 W.heap.size W.heap.size b ar' cr' R' ap' cp' s' := hBn.of_blocks fun x hx => hgr5.block x (hBn.lt x hx).2 fun e => (haq x hx).own _ _ e.symm
          have hb5 : Below W.heap.size W w5 := Below.app (Below.trans hbw4 (hbn.mono hsz4)) (hop4.alloc _) hgr5 (Nat.le_refl _) (Nat.le_trans hsz4 hbn.size)
          refine ⟨k + 1, a5, c5, out ++ [(i : Int)], s', ar', cr', R', ap', cp', by omega, by go_num, by simp, Hst.out, hB5, ?_, ?_, hb5, Hok4.out, by omega, by simp; omega⟩
          · simpa using hown5
          · show a5 ≠ none → _
            intro h0 hI
            rcases hap5 _ (hBn.lt _ hI).2 (haq _ hI) with h1 | h1
            · exact h0 h1
            · exact h1 rfl
        case measure => simp [intOf] <;> omega
      · have ht' : s.takes G.ops (colS L i) = false := by simpa using ht
        rw [ht']
        have Hst : Hid (grTo G.ops L Q (k + 1) = (s.next G.ops (colS L i), out)) := by show _ = _; rw [Hstep.out, if_neg ht]
        clear ht ht'
        generalize s.next G.ops (colS L i) = s' at *
        go_wp2_with fail
        go_roundw
        case rel => exact ⟨k + 1, aq, cq, out, s', ar', cr', R', ap', cp', by omega, by go_num, rfl, Hst.out, hB4, hop4, Hdq4.out, hbw4, Hok4.out, by omega, by omega⟩
        case measure => simp [intOf] <;> omega
    · obtain rfl : k = no := by omega
      have Ho : Hid (grS G.ops L Q = out) := by show _ = _; rw [grS, Hql.out, hst.out]
      go_wp2_with fail
      go_ret
      exact ⟨aq, cq, by rw [Ho.out]; rfl, by rw [Ho.out]; exact own_mono hop hbW.size, Below.next hbW hbr⟩
end

/- What the greedy choice of columns counts: the rank over the closure by linear forms. -/
section
namespace Fld
variable {O : FOps} {El : Int → Prop} (F : Fld O El)
include F
theorem zadd {x : Int} (hx : El x) : O.add 0 x = x := by rw [F.add_comm _ _ F.zero hx, F.add_zero x hx]
theorem negadd {x : Int} (hx : El x) : O.add (O.neg x) x = 0 := by rw [F.add_comm _ _ (F.cl.neg x hx) hx, F.add_neg x hx]
theorem nadd {x y : Int} (hx : El x) (hy : El y) : O.add (O.neg x) (O.add x y) = y := by
  rw [← F.add_assoc _ _ _ (F.cl.neg x hx) hx hy, F.negadd hx, F.zadd hy]
theorem cancel {x y z : Int} (hx : El x) (hy : El y) (hz : El z) (h : O.add x y = O.add x z) : y = z := by
  rw [← F.nadd hx hy, h, F.nadd hx hz]
theorem mzero {x : Int} (hx : El x) : O.mul x 0 = 0 := by
  have h0 := F.cl.mul x 0 hx F.zero
  refine F.cancel h0 h0 F.zero ?_
  rw [← F.mul_add x 0 0 hx F.zero F.zero, F.add_zero 0 F.zero, F.add_zero _ h0]
theorem zmul {x : Int} (hx : El x) : O.mul 0 x = 0 := by rw [F.mul_comm _ _ F.zero hx, F.mzero hx]
theorem mone {x : Int} (hx : El x) : O.mul x 1 = x := by rw [F.mul_comm _ _ hx F.one, F.one_mul x hx]
theorem neg_of {x y : Int} (hx : El x) (hy : El y) (h : O.add x y = 0) : y = O.neg x :=
  F.cancel hx hy (F.cl.neg x hx) (by rw [h, F.add_neg x hx])
theorem nzero : O.neg 0 = 0 := (F.neg_of F.zero F.zero (F.add_zero 0 F.zero)).symm
theorem mul_neg {x y : Int} (hx : El x) (hy : El y) : O.mul x (O.neg y) = O.neg (O.mul x y) := by
  have hn := F.cl.neg y hy
  refine F.neg_of (F.cl.mul x y hx hy) (F.cl.mul x _ hx hn) ?_
  rw [← F.mul_add x y _ hx hy hn, F.add_neg y hy, F.mzero hx]
theorem neg_mul {x y : Int} (hx : El x) (hy : El y) : O.mul (O.neg x) y = O.neg (O.mul x y) := by
  rw [F.mul_comm _ _ (F.cl.neg x hx) hy, F.mul_neg hy hx, F.mul_comm _ _ hy hx]
theorem add4 {a b c d : Int} (ha : El a) (hb : El b) (hc : El c) (hd : El d) : O.add (O.add a b) (O.add c d) = O.add (O.add a c) (O.add b d) := by
  rw [F.add_assoc a b _ ha hb (F.cl.add c d hc hd), F.add_assoc a c _ ha hc (F.cl.add b d hb hd), ← F.add_assoc b c d hb hc hd, F.add_comm b c hb hc, F.add_assoc c b d hc hb hd]
theorem neg_add {x y : Int} (hx : El x) (hy : El y) : O.neg (O.add x y) = O.add (O.neg x) (O.neg y) := by
  have hnx := F.cl.neg x hx
  have hny := F.cl.neg y hy
  refine (F.neg_of (F.cl.add x y hx hy) (F.cl.add _ _ hnx hny) ?_).symm
  rw [F.add4 hx hy hnx hny, F.add_neg x hx, F.add_neg y hy, F.add_zero 0 F.zero]
theorem neg_neg {x : Int} (hx : El x) : O.neg (O.neg x) = x := (F.neg_of (F.cl.neg x hx) hx (F.negadd hx)).symm
theorem mul_ne {x y : Int} (hx : El x) (hy : El y) (h0 : x ≠ 0) (h : O.mul x y = 0) : y = 0 := by
  have hi := F.cl.inv x hx h0
  rw [← F.one_mul y hy, ← F.mul_inv x hx h0, F.mul_comm x _ hx hi, F.mul_assoc _ x y hi hx hy, h, F.mzero hi]
/-- a form less a multiple of another -/
theorem comb {A B x A' B' R : Int} (hA : El A) (hB : El B) (hx : El x) (hA' : El A') (hB' : El B') (hR : El R) :
    O.add (O.add A (O.neg (O.mul x B))) (O.neg (O.mul (O.add A' (O.neg (O.mul x B'))) R)) = O.add (O.add A (O.neg (O.mul A' R))) (O.neg (O.mul x (O.add B (O.neg (O.mul B' R))))) := by
  have m := F.cl.mul
  have n := F.cl.neg
  have h1 := m x B hx hB
  have h2 := m A' R hA' hR
  have hxB := m x B' hx hB'
  have h3 := m _ R hxB hR
  have hBR := m B' R hB' hR
  have e1 : O.mul (O.add A' (O.neg (O.mul x B'))) R = O.add (O.mul A' R) (O.neg (O.mul (O.mul x B') R)) := by
    rw [F.mul_comm _ R (F.cl.add _ _ hA' (n _ hxB)) hR, F.mul_add R _ _ hR hA' (n _ hxB), F.mul_comm R A' hR hA', F.mul_comm R _ hR (n _ hxB), F.neg_mul hxB hR]
  have e2 : O.mul x (O.add B (O.neg (O.mul B' R))) = O.add (O.mul x B) (O.neg (O.mul (O.mul x B') R)) := by
    rw [F.mul_add x _ _ hx hB (n _ hBR), F.mul_neg hx hBR, F.mul_assoc x B' R hx hB' hR]
  rw [e1, e2, F.neg_add h2 (n _ h3), F.neg_add h1 (n _ h3), F.neg_neg h3, F.add4 hA (n _ h1) (n _ h2) h3, F.add4 hA (n _ h2) (n _ h1) h3]
end Fld

def Vc (El : Int → Prop) (n : Nat) (v : List Int) : Prop := v.length = n ∧ ∀ y ∈ v, El y
theorem Vc.at {El : Int → Prop} {n : Nat} {v : List Int} (h : Vc El n v) {i : Nat} (hi : i < n) : El (nth v i) := h.2 _ (nth_mem (by rw [h.1]; exact hi))
theorem Vc.sub {O : FOps} {El : Int → Prop} (F : Fld O El) {n : Nat} {v r : List Int} {x : Int} (hv : Vc El n v) (hr : Vc El n r) (hx : El x) : Vc El n (subRow O v x r) :=
  ⟨by rw [subRow_length _ _ _ _ (by rw [hr.1, hv.1])]; exact hv.1, subRow_el F.cl hv.2 hr.2 hx⟩
theorem Vc.scl {O : FOps} {El : Int → Prop} (F : Fld O El) {n : Nat} {r : List Int} {x : Int} (hr : Vc El n r) (hx : El x) : Vc El n (r.map (O.mul x)) :=
  ⟨by rw [List.length_map]; exact hr.1, fun y hy => by
    obtain ⟨z, hz, rfl⟩ := List.mem_map.1 hy
    exact F.cl.mul _ _ hx (hr.2 z hz)⟩

/-- linear forms on the vectors of length n -/
structure Lin (O : FOps) (El : Int → Prop) (n : Nat) (φ : List Int → Int) : Prop where
  el : ∀ v, Vc El n v → El (φ v)
  sub : ∀ v r x, Vc El n v → Vc El n r → El x → φ (subRow O v x r) = O.add (φ v) (O.neg (O.mul x (φ r)))
  scl : ∀ r x, Vc El n r → El x → φ (r.map (O.mul x)) = O.mul x (φ r)

variable {O : FOps} {El : Int → Prop} {n : Nat}

theorem nth_scl (O : FOps) (r : List Int) (x : Int) {i : Nat} (hi : i < r.length) : nth (r.map (O.mul x)) i = O.mul x (nth r i) := by
  rw [nth_getElem (by simpa using hi), nth_getElem hi]; simp
theorem Lin.coord (F : Fld O El) {i : Nat} (hi : i < n) : Lin O El n (fun v => nth v i) :=
  ⟨fun v hv => hv.at hi, fun v r x hv hr hx => nth_subRow O v x r i (by rw [hr.1, hv.1]) (by rw [hv.1]; exact hi), fun r x hr hx => nth_scl O r x (by rw [hr.1]; exact hi)⟩
theorem Lin.congr (F : Fld O El) {φ ψ : List Int → Int} (h : Lin O El n φ) (e : ∀ v, Vc El n v → ψ v = φ v) : Lin O El n ψ :=
  ⟨fun v hv => by rw [e v hv]; exact h.el v hv, fun v r x hv hr hx => by rw [e _ (hv.sub F hr hx), e v hv, e r hr]; exact h.sub v r x hv hr hx,
    fun r x hr hx => by rw [e _ (hr.scl F hx), e r hr]; exact h.scl r x hr hx⟩
theorem Lin.comb (F : Fld O El) {φ ψ : List Int → Int} (h : Lin O El n φ) (g : Lin O El n ψ) {s : Int} (hs : El s) : Lin O El n (fun v => O.add (φ v) (O.neg (O.mul (ψ v) s))) :=
  ⟨fun v hv => F.cl.add _ _ (h.el v hv) (F.cl.neg _ (F.cl.mul _ _ (g.el v hv) hs)),
   fun v r x hv hr hx => by
    show O.add (φ (subRow O v x r)) (O.neg (O.mul (ψ (subRow O v x r)) s)) = _
    rw [h.sub v r x hv hr hx, g.sub v r x hv hr hx]
    exact F.comb (h.el v hv) (h.el r hr) hx (g.el v hv) (g.el r hr) hs,
   fun r x hr hx => by
    show O.add (φ (r.map (O.mul x))) (O.neg (O.mul (ψ (r.map (O.mul x))) s)) = _
    rw [h.scl r x hr hx, g.scl r x hr hx, F.mul_assoc x _ s hx (g.el r hr) hs, ← F.mul_neg hx (F.cl.mul _ _ (g.el r hr) hs), ← F.mul_add x _ _ hx (h.el r hr) (F.cl.neg _ (F.cl.mul _ _ (g.el r hr) hs))]⟩

/-- the closure: what each linear form that is 0 on the vectors of l is 0 on -/
def clV (O : FOps) (El : Int → Prop) (n : Nat) (c : Nat → List Int) (l : List Nat) (x : Nat) : Prop := ∀ φ, Lin O El n φ → (∀ y ∈ l, φ (c y) = 0) → φ (c x) = 0
theorem clV_clo (F : Fld O El) {c : Nat → List Int} (hc : ∀ i, Vc El n (c i)) : Clo (clV O El n c) where
  mem l x hx φ _ h := h x hx
  mono l l' h y hy φ hφ h0 := hy φ hφ fun x hx => h x hx φ hφ h0
  exch l x y h hn := by
    intro b hb h0
    apply Classical.byContradiction
    intro hbx
    apply hn
    intro a ha ha0
    apply Classical.byContradiction
    intro hay
    have hax : a (c x) ≠ 0 := fun e => hay (h a ha fun z hz => by
      rcases List.mem_cons.1 hz with rfl | hz
      · exact e
      · exact ha0 z hz)
    -- the form a, less a multiple of b that makes it 0 at x
    have h1 := ha.el _ (hc x)
    have h2 := hb.el _ (hc x)
    have hbi := F.cl.inv _ h2 hbx
    have hs := F.cl.mul _ _ hbi h1
    have := h _ (ha.comb F hb hs) fun z hz => by
      rcases List.mem_cons.1 hz with rfl | hz
      · show O.add (a (c z)) (O.neg (O.mul (b (c z)) (O.mul (O.inv (b (c z))) (a (c z))))) = 0
        rw [← F.mul_assoc _ _ _ h2 hbi h1, F.mul_inv _ h2 hbx, F.one_mul _ h1, F.add_neg _ h1]
      · show O.add (a (c z)) (O.neg (O.mul (b (c z)) _)) = 0
        rw [ha0 z hz, h0 z (List.mem_cons.2 (.inr hz)), F.zmul hs, F.nzero, F.add_zero 0 F.zero]
    have h3 : O.add (a (c y)) (O.neg (O.mul (b (c y)) (O.mul (O.inv (b (c x))) (a (c x))))) = 0 := this
    rw [h0 y (by simp), F.zmul hs, F.nzero, F.add_zero _ (ha.el _ (hc y))] at h3
    exact hay h3

/-- the vectors are reduced, each has 1 at its place and 0 at the places of those ahead of it -/
structure BS.Inv (El : Int → Prop) (n : Nat) (s : BS) : Prop where
  ok : s.Ok El n
  one : ∀ i, i < s.rows.length → nth (nthR s.rows i) (nth s.place i).toNat = 1
  zero : ∀ j i, j < i → i < s.rows.length → nth (nthR s.rows i) (nth s.place j).toNat = 0

theorem BS.Ok.row {s : BS} (h : s.Ok El n) {i : Nat} (hi : i < s.rows.length) : Vc El n (nthR s.rows i) := h.rws.row hi
theorem BS.Ok.pl {s : BS} (h : s.Ok El n) {i : Nat} (hi : i < s.rows.length) : (nth s.place i).toNat < n := by have := h.plc i hi; omega
theorem Vc.redStep (F : Fld O El) {u r : List Int} {p : Int} (hu : Vc El n u) (hr : Vc El n r) (hp : p.toNat < n) : Vc El n (redStep O u p r) := by
  unfold Go.Proofs.YtapjcccpokhhhaaGreat.redStep
  split
  · exact hu
  · exact hu.sub F hr (hu.at hp)
theorem Vc.redTo (F : Fld O El) {s : BS} (h : s.Ok El n) {v : List Int} (hv : Vc El n v) : ∀ k, k ≤ s.rows.length → Vc El n (redTo O s.rows s.place v k)
  | 0, _ => hv
  | k + 1, hk => (Vc.redTo F h hv k (by omega)).redStep F (h.row (by omega)) (h.pl (by omega))
theorem nth_redStep (F : Fld O El) {u r : List Int} {p : Int} (hu : Vc El n u) (hr : Vc El n r) (hp : p.toNat < n) {i : Nat} (hi : i < n) :
    nth (redStep O u p r) i = O.add (nth u i) (O.neg (O.mul (nth u p.toNat) (nth r i))) := by
  unfold redStep
  split
  · rename_i h0
    rw [h0, F.zmul (hr.at hi), F.nzero, F.add_zero _ (hu.at hi)]
  · exact nth_subRow O u _ r i (by rw [hr.1, hu.1]) (by rw [hu.1]; exact hi)

namespace BS.Inv
variable {s : BS}
theorem place (F : Fld O El) (h : s.Inv El n) {v : List Int} (hv : Vc El n v) : ∀ k, k ≤ s.rows.length → ∀ j, j < k → nth (redTo O s.rows s.place v k) (nth s.place j).toNat = 0
  | 0, _, j, hj => by omega
  | k + 1, hk, j, hj => by
    have hu := Vc.redTo F h.ok hv k (by omega)
    have hpk := h.ok.pl (i := k) (by omega)
    have hpj := h.ok.pl (i := j) (by omega)
    rw [redTo, nth_redStep F hu (h.ok.row (by omega)) hpk hpj]
    by_cases e : j = k
    · subst e
      rw [h.one j (by omega), F.mone (hu.at hpk), F.add_neg _ (hu.at hpk)]
    · rw [place F h hv k (by omega) j (by omega), h.zero j k (by omega) (by omega), F.mzero (hu.at hpk), F.nzero, F.add_zero 0 F.zero]
theorem stay (h : s.Inv El n) {i : Nat} (hi : i < s.rows.length) : ∀ k, k ≤ i → redTo O s.rows s.place (nthR s.rows i) k = nthR s.rows i
  | 0, _ => rfl
  | k + 1, hk => by rw [redTo, stay h hi k (by omega), redStep, if_pos (h.zero k i (by omega) hi)]
theorem gone (F : Fld O El) (h : s.Inv El n) {i : Nat} (hi : i < s.rows.length) : ∀ k, i < k → k ≤ s.rows.length → ∀ t, t < n → nth (redTo O s.rows s.place (nthR s.rows i) k) t = 0
  | 0, hk, _, _, _ => by omega
  | k + 1, hk, hkl, t, ht => by
    have hu := Vc.redTo F h.ok (h.ok.row hi) k (by omega)
    have hr := h.ok.row (i := k) (by omega)
    have hpk := h.ok.pl (i := k) (by omega)
    rw [redTo, nth_redStep F hu hr hpk ht]
    by_cases e : k = i
    · subst e
      rw [h.stay hi k (Nat.le_refl _), h.one k hi, F.one_mul _ (hr.at ht), F.add_neg _ (hr.at ht)]
    · rw [gone F h hi k (by omega) (by omega) t ht, gone F h hi k (by omega) (by omega) _ hpk, F.zmul (hr.at ht), F.nzero, F.add_zero 0 F.zero]
theorem lin (F : Fld O El) (h : s.Inv El n) : ∀ k, k ≤ s.rows.length → ∀ i, i < n → Lin O El n (fun v => nth (redTo O s.rows s.place v k) i)
  | 0, _, i, hi => Lin.coord F hi
  | k + 1, hk, i, hi => by
    have hpk := h.ok.pl (i := k) (by omega)
    have hr := h.ok.row (i := k) (by omega)
    refine Lin.congr F ((lin F h k (by omega) i hi).comb F (lin F h k (by omega) _ hpk) (hr.at hi)) fun v hv => ?_
    show nth (redTo O s.rows s.place v (k + 1)) i = _
    rw [redTo, nth_redStep F (Vc.redTo F h.ok hv k (by omega)) hr hpk hi]
theorem form (F : Fld O El) (h : s.Inv El n) {φ : List Int → Int} (hφ : Lin O El n φ) (h0 : ∀ i, i < s.rows.length → φ (nthR s.rows i) = 0) {v : List Int} (hv : Vc El n v) : ∀ k, k ≤ s.rows.length → φ (redTo O s.rows s.place v k) = φ v
  | 0, _ => rfl
  | k + 1, hk => by
    have hu := Vc.redTo F h.ok hv k (by omega)
    have hr := h.ok.row (i := k) (by omega)
    have hpk := h.ok.pl (i := k) (by omega)
    rw [redTo, redStep]
    split
    · exact form F h hφ h0 hv k (by omega)
    · rw [hφ.sub _ _ _ hu hr (hu.at hpk), h0 k (by omega), F.mzero (hu.at hpk), F.nzero, form F h hφ h0 hv k (by omega), F.add_zero _ (hφ.el v hv)]
end BS.Inv

theorem Lin.zero (F : Fld O El) {φ : List Int → Int} (h : Lin O El n φ) {v : List Int} (hv : Vc El n v) (h0 : ∀ i, i < n → nth v i = 0) : φ v = 0 := by
  have e : v = v.map (O.mul 0) := nth_ext (by simp) fun i hi => by
    rw [nth_scl O v 0 hi, F.zmul (hv.at (by rw [← hv.1]; exact hi)), h0 i (by rw [← hv.1]; exact hi)]
  rw [e, h.scl v 0 hv F.zero, F.zmul (h.el v hv)]

theorem takes_false (F : Fld O El) {s : BS} (h : s.Inv El n) {v : List Int} (hv : Vc El n v) :
    s.takes O v = false ↔ ∀ φ, Lin O El n φ → (∀ i, i < s.rows.length → φ (nthR s.rows i) = 0) → φ v = 0 := by
  have hu : Vc El n (s.red O v) := Vc.redTo F h.ok hv _ (Nat.le_refl _)
  constructor
  · intro ht φ hφ h0
    rw [← h.form F hφ h0 hv _ (Nat.le_refl _)]
    refine hφ.zero F hu fun i hi => fnz_zero (s.red O v) i ?_
    have h1 : ¬ fnz (s.red O v) < (s.red O v).length := by simpa [BS.takes] using ht
    have h2 := fnz_le (s.red O v)
    have := hu.1
    omega
  · intro h0
    apply Classical.byContradiction
    intro ht
    have h1 : fnz (s.red O v) < (s.red O v).length := by simpa [BS.takes] using ht
    have := hu.1
    exact fnz_ne _ h1 (h0 _ (h.lin F _ (Nat.le_refl _) _ (by omega)) fun i hi => h.gone F hi _ hi (Nat.le_refl _) _ (by omega))

theorem nthR_push (L : List (List Int)) (r : List Int) (i : Nat) : nthR (L ++ [r]) i = if i < L.length then nthR L i else if i = L.length then r else nthR [] 0 := by
  unfold nthR
  simp only [List.getD_eq_getElem?_getD]
  split
  · rename_i h; rw [List.getElem?_append_left h]
  · rename_i h
    split
    · rename_i e; subst e; simp
    · rename_i e; rw [List.getElem?_eq_none (by simp; omega)]; simp
theorem nth_push (l : List Int) (r : Int) (i : Nat) : nth (l ++ [r]) i = if i < l.length then nth l i else if i = l.length then r else 0 := by
  unfold nth
  simp only [List.getD_eq_getElem?_getD]
  split
  · rename_i h; rw [List.getElem?_append_left h]
  · rename_i h
    split
    · rename_i e; subst e; simp
    · rename_i e; rw [List.getElem?_eq_none (by simp; omega)]; simp

theorem BS.Inv.next (F : Fld O El) {s : BS} (h : s.Inv El n) {v : List Int} (hv : Vc El n v) : (s.next O v).Inv El n := by
  refine ⟨h.ok.next F.cl hv, ?_, ?_⟩
  · unfold BS.next
    split
    · rename_i ht
      have hu : Vc El n (s.red O v) := Vc.redTo F h.ok hv _ (Nat.le_refl _)
      have hf : fnz (s.red O v) < (s.red O v).length := by simpa [BS.takes] using ht
      have hne := fnz_ne _ hf
      have hl := hu.1
      have hel := hu.at (i := fnz (s.red O v)) (by omega)
      intro i hi
      simp only [List.length_append, List.length_singleton] at hi
      simp only [nthR_push, nth_push, h.ok.len]
      by_cases e : i < s.rows.length
      · rw [if_pos e, if_pos e]; exact h.one i e
      · rw [if_neg e, if_neg e, if_pos (by omega), if_pos (by omega), Int.toNat_natCast, nth_scl O _ _ hf, F.mul_comm _ _ (F.cl.inv _ hel hne) hel, F.mul_inv _ hel hne]
    · exact h.one
  · unfold BS.next
    split
    · rename_i ht
      have hu : Vc El n (s.red O v) := Vc.redTo F h.ok hv _ (Nat.le_refl _)
      have hf : fnz (s.red O v) < (s.red O v).length := by simpa [BS.takes] using ht
      have hne := fnz_ne _ hf
      have hl := hu.1
      have hel := hu.at (i := fnz (s.red O v)) (by omega)
      intro j i hji hi
      simp only [List.length_append, List.length_singleton] at hi
      simp only [nthR_push, nth_push, h.ok.len]
      rw [if_pos (show j < s.rows.length by omega)]
      by_cases e : i < s.rows.length
      · rw [if_pos e]; exact h.zero j i hji e
      · have hpj := h.ok.pl (i := j) (by omega)
        rw [if_neg e, if_pos (by omega), nth_scl O _ _ (by omega), BS.red, h.place F hv _ (Nat.le_refl _) j (by omega)]
        exact F.mzero (F.cl.inv _ hel hne)
    · exact h.zero

/-- forms that are 0 on the vectors that were put in are those that are 0 on the basis -/
def Same (O : FOps) (El : Int → Prop) (n : Nat) (c : Nat → List Int) (l : List Nat) (s : BS) : Prop :=
  ∀ φ, Lin O El n φ → ((∀ y ∈ l, φ (c y) = 0) ↔ ∀ i, i < s.rows.length → φ (nthR s.rows i) = 0)
theorem Same.next (F : Fld O El) {c : Nat → List Int} (hc : ∀ i, Vc El n (c i)) {l : List Nat} {s : BS} (h : s.Inv El n) (hs : Same O El n c l s) (x : Nat) : Same O El n c (x :: l) (s.next O (c x)) := by
  intro φ hφ
  have key : (∀ i, i < s.rows.length → φ (nthR s.rows i) = 0) → ((φ (c x) = 0) ↔ ∀ i, i < (s.next O (c x)).rows.length → φ (nthR (s.next O (c x)).rows i) = 0) := by
    intro h0
    have hu : Vc El n (s.red O (c x)) := Vc.redTo F h.ok (hc x) _ (Nat.le_refl _)
    have hform := h.form F hφ h0 (hc x) _ (Nat.le_refl _)
    unfold BS.next
    split
    · rename_i ht
      have hf : fnz (s.red O (c x)) < (s.red O (c x)).length := by simpa [BS.takes] using ht
      have hne := fnz_ne _ hf
      have hl := hu.1
      have hel := hu.at (i := fnz (s.red O (c x))) (by omega)
      have hi := F.cl.inv _ hel hne
      have hscl := hφ.scl _ _ hu hi
      have hine : O.inv (nth (s.red O (c x)) (fnz (s.red O (c x)))) ≠ 0 := by
        intro e
        have := F.mul_inv _ hel hne
        rw [e, F.mzero hel] at this
        exact absurd this (by decide)
      constructor
      · intro hx i hi2
        simp only [List.length_append, List.length_singleton] at hi2
        simp only [nthR_push]
        by_cases e : i < s.rows.length
        · rw [if_pos e]; exact h0 i e
        · rw [if_neg e, if_pos (by omega), hscl]
          show O.mul _ (φ (redTo O s.rows s.place (c x) s.rows.length)) = 0
          rw [hform, hx, F.mzero hi]
      · intro hall
        have := hall s.rows.length (by simp)
        simp only [nthR_push] at this
        rw [if_neg (Nat.lt_irrefl _), if_pos trivial, hscl] at this
        rw [← hform]
        exact F.mul_ne hi (hφ.el _ hu) hine this
    · rename_i ht
      exact ⟨fun _ => h0, fun _ => (takes_false F h (hc x)).1 (by simpa using ht) φ hφ h0⟩
  constructor
  · intro hall
    have h1 : ∀ i, i < s.rows.length → φ (nthR s.rows i) = 0 := (hs φ hφ).1 fun y hy => hall y (List.mem_cons.2 (.inr hy))
    exact (key h1).1 (hall x (by simp))
  · intro hall
    have h1 : ∀ i, i < s.rows.length → φ (nthR s.rows i) = 0 := by
      intro i hi
      have hlen : s.rows.length ≤ (s.next O (c x)).rows.length := by unfold BS.next; split <;> simp
      have := hall i (by omega)
      unfold BS.next at this
      split at this
      · simp only [nthR_push] at this
        rw [if_pos hi] at this; exact this
      · exact this
    intro y hy
    rcases List.mem_cons.1 hy with rfl | hy
    · exact (key h1).2 hall
    · exact (hs φ hφ).2 h1 y hy

/-- the positions of the first k, the last ahead -/
def grL (Q : List Int) : Nat → List Nat
  | 0 => []
  | k + 1 => (nth Q k).toNat :: grL Q k
theorem mem_grL (Q : List Int) (x : Nat) : ∀ k, x ∈ grL Q k ↔ ∃ j, j < k ∧ (nth Q j).toNat = x
  | 0 => by simp [grL]
  | k + 1 => by
    rw [grL, List.mem_cons, mem_grL Q x k]
    constructor
    · rintro (h | ⟨j, hj, h⟩)
      · exact ⟨k, by omega, h.symm⟩
      · exact ⟨j, by omega, h⟩
    · rintro ⟨j, hj, h⟩
      by_cases e : j = k
      · subst e; exact .inl h.symm
      · exact .inr ⟨j, by omega, h⟩

theorem colS_vc {m : Nat} {L : List (List Int)} (h : Rws El m L) (h0 : El 0) (i : Nat) : Vc El L.length (colS L i) := by
  refine ⟨colS_length _ _, fun y hy => ?_⟩
  unfold colS at hy
  obtain ⟨r, hr, rfl⟩ := List.mem_map.1 hy
  by_cases hi : i < m
  · exact (h r hr).2 _ (nth_mem (by rw [(h r hr).1]; exact hi))
  · have : nth r i = 0 := by
      unfold nth
      rw [List.getD_eq_getElem?_getD, List.getElem?_eq_none (by rw [(h r hr).1]; omega)]; rfl
    rw [this]; exact h0
theorem gr_inv (F : Fld O El) {m : Nat} {L : List (List Int)} (hL : Rws El m L) (Q : List Int) : ∀ k, (grTo O L Q k).1.Inv El L.length ∧ Same O El L.length (colS L) (grL Q k) (grTo O L Q k).1 ∧
    Rk (clV O El L.length (colS L)) (grL Q k) (grTo O L Q k).2.length
  | 0 => ⟨⟨⟨fun r hr => by simp [grTo] at hr, rfl, fun i hi => by simp [grTo] at hi⟩, fun i hi => by simp [grTo] at hi, fun j i _ hi => by simp [grTo] at hi⟩, fun φ _ => ⟨fun _ i hi => by simp [grTo] at hi, fun _ y hy => by simp [grL] at hy⟩, .nil⟩
  | k + 1 => by
    obtain ⟨h1, h2, h3⟩ := gr_inv F hL Q k
    have hc := colS_vc hL F.zero
    refine ⟨h1.next F (hc _), h2.next F hc h1 _, ?_⟩
    have htk := takes_false F h1 (hc (nth Q k).toNat)
    have hcl : clV O El L.length (colS L) (grL Q k) (nth Q k).toNat ↔ (grTo O L Q k).1.takes O (colS L (nth Q k).toNat) = false := by
      rw [htk]
      exact ⟨fun h φ hφ h0 => h φ hφ ((h2 φ hφ).2 h0), fun h φ hφ h0 => h φ hφ ((h2 φ hφ).1 h0)⟩
    rw [grL, grTo]
    by_cases ht : (grTo O L Q k).1.takes O (colS L (nth Q k).toNat) = true
    · rw [if_pos ht]
      simp only [List.length_append, List.length_singleton]
      exact .ind _ (fun h => by rw [hcl.1 h] at ht; simp at ht) h3
    · rw [if_neg ht]
      exact .dep _ (hcl.2 (by simpa using ht)) h3
/-- the greedy choice counts the rank -/
theorem grS_rk (F : Fld O El) {m : Nat} {L : List (List Int)} (hL : Rws El m L) (Q : List Int) : Rk (clV O El L.length (colS L)) (grL Q Q.length) (grS O L Q).length := (gr_inv F hL Q Q.length).2.2
theorem col_clo (F : Fld O El) {m : Nat} {L : List (List Int)} (hL : Rws El m L) : Clo (clV O El L.length (colS L)) := clV_clo F (colS_vc hL F.zero)
end

/- Elimination over two sets of operations that agree on the elements. -/
section
structure Agr (O O' : FOps) (El : Int → Prop) : Prop where
  add : ∀ x y, El x → El y → O.add x y = O'.add x y
  mul : ∀ x y, El x → El y → O.mul x y = O'.mul x y
  neg : ∀ x, El x → O.neg x = O'.neg x
  inv : ∀ x, El x → x ≠ 0 → O.inv x = O'.inv x

variable {O O' : FOps} {El : Int → Prop}

theorem addRow_agr (h : Agr O O' El) (hO : FCl O El) : ∀ (v u : List Int) (s : Int), (∀ x ∈ v, El x) → (∀ x ∈ u, El x) → El s → addRow O v s u = addRow O' v s u
  | [], _, _, _, _, _ => by simp [addRow]
  | _ :: _, [], _, _, _, _ => by simp [addRow]
  | x :: v, y :: u, s, hv, hu, hs => by
    have ih := addRow_agr h hO v u s (fun z hz => hv z (by simp [hz])) (fun z hz => hu z (by simp [hz])) hs
    unfold addRow at ih ⊢
    have hx := hv x (by simp)
    have hy := hu y (by simp)
    simp only [List.zipWith_cons_cons, ih]
    rw [h.mul s y hs hy, h.add x _ hx (by rw [← h.mul s y hs hy]; exact hO.mul s y hs hy)]
theorem clearRow_agr (h : Agr O O' El) (hO : FCl O El) {pv r : List Int} {c m : Nat} (hc : c < m) (hp : pv.length = m ∧ ∀ x ∈ pv, El x) (hr : r.length = m ∧ ∀ x ∈ r, El x) : clearRow O pv c r = clearRow O' pv c r := by
  have hel : El (nth r c) := hr.2 _ (nth_mem (by omega))
  unfold clearRow
  rw [h.neg _ hel]
  split
  · rfl
  · exact addRow_agr h hO _ _ _ hr.2 hp.2 (by rw [← h.neg _ hel]; exact hO.neg _ hel)
theorem clearTo_agr (h : Agr O O' El) (hO : FCl O El) {m : Nat} {L : List (List Int)} (hL : Rws El m L) {t c : Nat} (ht : t < L.length) (hc : c < m) : ∀ i, i ≤ L.length → clearTo O t c L i = clearTo O' t c L i
  | 0, _ => rfl
  | i + 1, hi => by
    have ih := clearTo_agr h hO hL ht hc i (by omega)
    have hR := Rws.clear hO hL ht hc i (by omega)
    have hl := clearTo_length O t c L i
    unfold clearTo
    rw [← ih]
    split
    · rfl
    · rw [clearRow_agr h hO hc (hR.row (by omega)) (hR.row (by omega))]
theorem normRow_agr (h : Agr O O' El) (hO : FCl O El) {m : Nat} {L : List (List Int)} (hL : Rws El m L) {t c : Nat} (ht : t < L.length) (hc : c < m) (h0 : nth (nthR L t) c ≠ 0) : normRow O L t c = normRow O' L t c := by
  have hr := hL.row ht
  have hel : El (nth (nthR L t) c) := hr.2 _ (nth_mem (by omega))
  unfold normRow
  rw [h.inv _ hel h0]
  split
  · rfl
  · congr 1
    refine List.map_congr_left fun x hx => ?_
    exact h.mul _ _ (by rw [← h.inv _ hel h0]; exact hO.inv _ hel h0) (hr.2 x hx)
theorem pivotS_agr (h : Agr O O' El) (hO : FCl O El) {m : Nat} {L : List (List Int)} (hL : Rws El m L) {t k c : Nat} (ht : t < L.length) (hk : k < L.length) (hc : c < m) (h0 : nth (nthR L k) c ≠ 0) (htk : t ≤ k) :
    pivotS O L t k c = pivotS O' L t k c ∧ Rws El m (pivotS O L t k c) := by
  have hL1 : Rws El m (if k = t then L else swapRow L t k) := by split; exact hL; exact hL.swap ht hk
  have hl1 : (if k = t then L else swapRow L t k).length = L.length := by split; rfl; exact swapRow_length _ _ _
  have hn1 : nth (nthR (if k = t then L else swapRow L t k) t) c ≠ 0 := by
    split
    · rename_i e; subst e; exact h0
    · rename_i e
      have : nthR (swapRow L t k) t = nthR L k := by
        unfold swapRow
        rw [nthR_set _ _ _ _ (by simpa using hk), if_neg (by omega), nthR_set _ _ _ _ ht, if_pos rfl]
      rw [this]; exact h0
  rw [pivotS_eq, pivotS_eq, ← normRow_agr h hO hL1 (by omega) hc hn1]
  have hL2 := hL1.norm hO (t := t) (c := c) (by omega) hc hn1
  have hl2 : (normRow O (if k = t then L else swapRow L t k) t c).length = L.length := by rw [normRow_length, hl1]
  exact ⟨clearTo_agr h hO hL2 (by omega) hc _ (by omega), Rws.clear hO hL2 (by omega) hc _ (by omega)⟩
theorem elimTo_agr (h : Agr O O' El) (hO : FCl O El) {m : Nat} {L : List (List Int)} (hL : Rws El m L) : ∀ k, k ≤ m → elimTo O L k = elimTo O' L k ∧ Rws El m (elimTo O L k).1
  | 0, _ => ⟨rfl, hL⟩
  | k + 1, hk => by
    obtain ⟨h1, h2⟩ := elimTo_agr h hO hL k (by omega)
    obtain ⟨Lk, P, hLP⟩ : ∃ Lk P, elimTo O L k = (Lk, P) := ⟨_, _, rfl⟩
    rw [hLP] at h1 h2
    have hlen : Lk.length = L.length := by have := elimTo_length O L k; rw [hLP] at this; exact this
    by_cases hlt : P.length < Lk.length
    · rw [elimTo_next hLP.symm hlt, elimTo_next h1 hlt]
      by_cases hf : findRow Lk k P.length = Lk.length
      · rw [if_pos hf, if_pos hf]; exact ⟨rfl, h2⟩
      · rw [if_neg hf, if_neg hf]
        have hb := findRow_bd (L := Lk) (c := k) (k := P.length) (by omega)
        have hne : nth (nthR Lk (findRow Lk k P.length)) k ≠ 0 := findTo_stop Lk k (Lk.length - P.length) P.length (by
          have : findTo Lk k P.length (Lk.length - P.length) = findRow Lk k P.length := rfl
          omega)
        have hlt2 : findRow Lk k P.length < Lk.length := by omega
        have := pivotS_agr h hO (L := Lk) h2 (t := P.length) (k := findRow Lk k P.length) (c := k) hlt hlt2 (by omega) hne hb.1
        exact ⟨by rw [this.1], this.2⟩
    · have e : ∀ (O : FOps), elimTo O L k = (Lk, P) → elimTo O L (k + 1) = (Lk, P) := fun O he => by
        rw [elimTo]
        simp only [he]
        rw [if_neg hlt]
      rw [e O hLP, e O' h1.symm]
      exact ⟨rfl, h2⟩
end

end Go.Proofs.YtapjcccpokhhhaaGreat
