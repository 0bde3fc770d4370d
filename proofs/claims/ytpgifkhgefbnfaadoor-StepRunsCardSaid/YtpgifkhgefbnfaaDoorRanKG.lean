/-
  A round of the document's Ran, at instructions of the kinds [18, 19].
-/
import Derived.Test.YtpgifkhgefbnfaaDoorRanR
namespace Go.Proofs.YtpgifkhgefbnfaaDoor
open Go.RowKit BH
set_option maxHeartbeats 1000000000
set_option maxRecDepth 100000
theorem ran_roundG {m : Img} {inp : List Int} {w w1 wr : World} {mi : RunR} {R : Int × Nat × Mach} {F n rb ob e0 e1 e2 e3 e4 ei cd : Nat} {o0 o1 o2 o3 o4 oi ad : Option Addr} {LK : List Vl} {Post : Act → World → Prop} {cs : Nat → Value}
    (HB31 : Hid (Blk w1 w.heap.size (.cells #[.slice o0 m.Text.length e0, .slice o1 m.Funcs.length e1, .slice o2 m.Tables.length e2, .slice o3 m.Data.length e3, .slice o4 m.Lines.length e4, .int .i64 (n : Int)] 35))) (HB1 : Hid (Blk w1 (w.heap.size + 1) (.cells #[.slice none 0 0, .int .i64 0, .int .i64 0, .int .i64 0] 46))) (HK1 : Hid (Keeps w w1)) (HG : Hid (ImgGood m)) (HX0w : Hid (Bytes w1 (.slice o0 m.Text.length e0) m.Text)) (HX2w : Hid (Tabs w1 (.slice o2 m.Tables.length e2) m.Tables)) (HIw : Hid (Ints w1 (.slice oi inp.length ei) inp)) (HMI : Hid (mi = runR (F : Int) R)) (hl : m.Text.length ≤ 140737488355328) (hil : inp.length ≤ 100) (hF : F ≤ 100000) (hF2 : (F : Int) ≤ 100000)
    (HPOST : Hid (RanPost m inp w1 wr F w rb ob oi ei LK ad cd R cs Post))
    {k rd : Nat} {s : Mach} {vt : Value} {at2 : Int} {us : Nat → Value} (h13 : us 13 = .int .i64 s.pc) (h14 : us 14 = .int .i64 (rd : Int)) (hkF : k + 1 ≤ F) (hrd : rd ≤ inp.length) (HIN : Hid (s.inp = inp.drop rd)) (hm : RAt w1.heap.size w1 rb ob s (.slice ad LK.length cd) vt 0 ((F : Int) - ((k + 1 : Nat) : Int)) at2 wr) (hok : MachOk s) (htl : s.told.length + k + 1 ≤ F) (HR : Hid (runS m (k + 1) s = R)) {K D A Q N nn : Int} {Lg : Bool} (HDA : Hid (decAns m.Text s.pc = (⟨K, D, A, Q, N, Lg⟩, nn, 0))) (hK : K = 18 ∨ K = 19) :
    Code.wp Tryd.prog ranBody (Exit.then Post (Exit.inBlock 4 (bodyPost Tryd.prog Tryd.f16 (GivesN (fun v' w' => RunAt w.heap.size w' v' mi) 0 w)))) (ranAct inp F w rb ob oi ei LK ad cd cs us) wr := by
  have huse := And.intro HB31 <| And.intro HB1 <| And.intro HK1 <| And.intro HG <| And.intro HX0w <| And.intro HX2w <| And.intro HIw <| And.intro HMI <| And.intro hl <| And.intro hil <| And.intro hF <| And.intro hF2 <| And.intro HPOST <| And.intro hkF <| And.intro hrd <| And.intro HIN <| And.intro hm <| And.intro hok <| And.intro htl HR
  clear huse
  unfold ranAct
  rw [h13, h14]
  clear h13 h14
  conv => arg 2; whnf
  obtain ⟨st, hst⟩ : ∃ st : Int, st = (F : Int) - ((k + 1 : Nat) : Int) := ⟨_, rfl⟩
  rw [← hst] at hm
  obtain ⟨at1, ct1, et⟩ := own_form' hm.tld
  subst et
  have hst0 : 0 ≤ st := by omega
  have hst1 : st ≤ F := by omega
  have HST := Lib.hid hst
  have h8 := hok.regs
  have HOK := Lib.hid hok
  have HM := Lib.hid hm
  have o0 : wr.cell? ⟨ob, 0, none⟩ = some (.slice at1 s.told.length ct1) := (RAt.out hm).cell (j := 0) rfl
  have o1 : wr.cell? ⟨ob, 1, none⟩ = some (.int .i64 0) := (RAt.out hm).cell (j := 1) rfl
  have o2 : wr.cell? ⟨ob, 2, none⟩ = some (.int .i64 st) := (RAt.out hm).cell (j := 2) rfl
  have o3 : wr.cell? ⟨ob, 3, none⟩ = some (.int .i64 at2) := (RAt.out hm).cell (j := 3) rfl
  have p0 : wr.frozen? ⟨ob, 0, none⟩ = false := (RAt.out hm).thawed 0
  have p1 : wr.frozen? ⟨ob, 1, none⟩ = false := (RAt.out hm).thawed 1
  have p2 : wr.frozen? ⟨ob, 2, none⟩ = false := (RAt.out hm).thawed 2
  have p3 : wr.frozen? ⟨ob, 3, none⟩ = false := (RAt.out hm).thawed 3
  have hol := (RAt.out hm).lt
  have hrl := (RAt.reg hm).lt
  clear hm hok hst
  go_upto_region 23 with fail
  obtain ⟨wa, hwa⟩ : ∃ wa, wa = wr.setCell ⟨ob, 3, none⟩ (.int .i64 s.pc) := ⟨_, rfl⟩
  rw [← hwa]
  have hma : RAt w1.heap.size w1 rb ob s (.slice ad LK.length cd) (.slice at1 s.told.length ct1) 0 st s.pc wa := by rw [hwa]; exact HM.out.setAt s.pc
  have o0 : wa.cell? ⟨ob, 0, none⟩ = some (.slice at1 s.told.length ct1) := (RAt.out hma).cell (j := 0) rfl
  have o1 : wa.cell? ⟨ob, 1, none⟩ = some (.int .i64 0) := (RAt.out hma).cell (j := 1) rfl
  have o2 : wa.cell? ⟨ob, 2, none⟩ = some (.int .i64 st) := (RAt.out hma).cell (j := 2) rfl
  have o3 : wa.cell? ⟨ob, 3, none⟩ = some (.int .i64 s.pc) := (RAt.out hma).cell (j := 3) rfl
  have p0 : wa.frozen? ⟨ob, 0, none⟩ = false := (RAt.out hma).thawed 0
  have p1 : wa.frozen? ⟨ob, 1, none⟩ = false := (RAt.out hma).thawed 1
  have p2 : wa.frozen? ⟨ob, 2, none⟩ = false := (RAt.out hma).thawed 2
  have p3 : wa.frozen? ⟨ob, 3, none⟩ = false := (RAt.out hma).thawed 3
  have hol := (RAt.out hma).lt
  have hrl := (RAt.reg hma).lt
  have hka : Keeps w1 wa := hma.keep
  have g0 := (HB31.out.keep hka).cell (j := 0) rfl
  have g1 := (HB31.out.keep hka).cell (j := 1) rfl
  have g2 := (HB31.out.keep hka).cell (j := 2) rfl
  have g3 := (HB31.out.keep hka).cell (j := 3) rfl
  have g4 := (HB31.out.keep hka).cell (j := 4) rfl
  have g5 := (HB31.out.keep hka).cell (j := 5) rfl
  have hgl3 := (HB31.out.keep hka).lt
  have HMA := Lib.hid hma
  have HKA := Lib.hid hka
  clear hwa hma hka
  have tq : (st == (F : Int)) = false := by have := HST.out; simp; omega
  have hdec := fun w' (hk : Keeps w1 w') => instrAt_any _ m.Text s.pc w' (Arr.keep HX0w.out hk) hl
  rw [HDA.out] at hdec
  unfold DecAns Ins.v insV at hdec
  dsimp only at hdec
  have HDEC := Lib.hid hdec
  clear hdec
  go_wp2_with fail
  refine (HDEC.out _ HKA.out).mono ?_
  rintro e wb ⟨rfl, hkb⟩
  dsimp only
  have HMB := Lib.hid (HMA.out.keeps hkb)
  clear o0 p0 o1 p1 o2 p2 o3 p3 g0 g1 g2 g3 g4 g5 hol hrl
  go_upto_region 27 with fail
  obtain ⟨f, hf⟩ : ∃ f, f = wb.heap.size := ⟨_, rfl⟩
  obtain ⟨wi, hwi, hbi, hki⟩ : ∃ wi, wi = wb.alloc (.cells #[.int .i64 K, .int .i64 D, .int .i64 A, .int .i64 Q, .int .i64 N, .bool Lg] 24) ∧ Blk wi wb.heap.size (.cells #[.int .i64 K, .int .i64 D, .int .i64 A, .int .i64 Q, .int .i64 N, .bool Lg] 24) ∧ Keeps wb wi := ⟨_, rfl, Blk.top _ _, (Keeps.refl _).alloc _⟩
  have hrf : rb < f := by rw [hf]; exact HMB.out.reg.lt
  have hof : ob < f := by rw [hf]; exact HMB.out.out.lt
  rw [← hf] at hbi
  rw [← hf, ← hwi]
  have hmi := HMB.out.keeps hki
  have y0 := (hbi).cell (j := 0) rfl
  have y1 := (hbi).cell (j := 1) rfl
  have y2 := (hbi).cell (j := 2) rfl
  have y3 := (hbi).cell (j := 3) rfl
  have y4 := (hbi).cell (j := 4) rfl
  have y5 := (hbi).cell (j := 5) rfl
  have o0 : wi.cell? ⟨ob, 0, none⟩ = some (.slice at1 s.told.length ct1) := (RAt.out hmi).cell (j := 0) rfl
  have o1 : wi.cell? ⟨ob, 1, none⟩ = some (.int .i64 0) := (RAt.out hmi).cell (j := 1) rfl
  have o2 : wi.cell? ⟨ob, 2, none⟩ = some (.int .i64 st) := (RAt.out hmi).cell (j := 2) rfl
  have o3 : wi.cell? ⟨ob, 3, none⟩ = some (.int .i64 s.pc) := (RAt.out hmi).cell (j := 3) rfl
  have p0 : wi.frozen? ⟨ob, 0, none⟩ = false := (RAt.out hmi).thawed 0
  have p1 : wi.frozen? ⟨ob, 1, none⟩ = false := (RAt.out hmi).thawed 1
  have p2 : wi.frozen? ⟨ob, 2, none⟩ = false := (RAt.out hmi).thawed 2
  have p3 : wi.frozen? ⟨ob, 3, none⟩ = false := (RAt.out hmi).thawed 3
  have hol := (RAt.out hmi).lt
  have hrl := (RAt.reg hmi).lt
  have hfl := hbi.lt
  have hki1 : Keeps w1 wi := hmi.keep
  have g0 := (HB31.out.keep hki1).cell (j := 0) rfl
  have g1 := (HB31.out.keep hki1).cell (j := 1) rfl
  have g2 := (HB31.out.keep hki1).cell (j := 2) rfl
  have g3 := (HB31.out.keep hki1).cell (j := 3) rfl
  have g4 := (HB31.out.keep hki1).cell (j := 4) rfl
  have g5 := (HB31.out.keep hki1).cell (j := 5) rfl
  have HMI2 := Lib.hid hmi
  have HBI := Lib.hid hbi
  have HKI := Lib.hid hki1
  clear hwi hmi hbi hki hki1 hf hkb
  have hz := decAns_ok (l := m.Text) (x := s.pc) (by rw [HDA.out])
  rw [HDA.out] at hz
  have h3 : 3 ≤ K := by omega
  have hk1 : ¬ K = 1 := by omega
  have hk2 : ¬ K = 2 := by omega
  have t2 : (K == 2) = false := by simpa using hk2
  have t1 : (K == 1) = false := by simpa using hk1
  have hiok : InsOk ⟨K, D, A, Q, N, Lg⟩ := hz.2.2.1
  have hnb : -32768 ≤ N ∧ N ≤ 32767 := ⟨hz.2.2.2.1, hz.2.2.2.2.1⟩
  have htx := HG.out.text
  have hp0 : 0 ≤ s.pc := hz.1
  have hp1 : s.pc < 8000 := by have := hz.2.1; omega
  have hn0 : 0 ≤ nn := hz.2.2.2.2.2.1
  have hn1 : nn ≤ 5 := hz.2.2.2.2.2.2
  have HIO := Lib.hid hiok
  obtain ⟨d0, d1, a0, a1, b0, b1, -, k0, k1, h24⟩ := hiok
  dsimp only at d0 d1 a0 a1 b0 b1 k0 k1 h24
  obtain ⟨D, rfl⟩ : ∃ d : Nat, D = d := ⟨D.toNat, by omega⟩
  obtain ⟨A, rfl⟩ : ∃ d : Nat, A = d := ⟨A.toNat, by omega⟩
  obtain ⟨Q, rfl⟩ : ∃ d : Nat, Q = d := ⟨Q.toNat, by omega⟩
  have hD : D < 8 := by omega
  have hA : A < 8 := by omega
  have hQ : Q < 8 := by omega
  have hk1' : st + 1 = (F : Int) - k := by have := HST.out; omega
  have HKS := Lib.hid hk1'
  have hvA := (RAt.regc HMI2.out (r := A) (by omega))
  have hvQ := (RAt.regc HMI2.out (r := Q) (by omega))
  have hin1 := r_in HOK.out a0 a1
  have hin2 := r_in HOK.out b0 b1
  unfold Mach.r at hin1 hin2
  rw [Int.toNat_natCast] at hin1 hin2
  obtain ⟨xa, hxa⟩ : ∃ x, x = nth s.regs A := ⟨_, rfl⟩
  obtain ⟨xb, hxb⟩ : ∃ x, x = nth s.regs Q := ⟨_, rfl⟩
  rw [← hxa] at hvA hin1
  rw [← hxb] at hvQ hin2
  obtain ⟨aN, aC⟩ := xa
  obtain ⟨bN, bC⟩ := xb
  dsimp only at hin1 hin2
  obtain ⟨x0, x1⟩ := hvA
  obtain ⟨w0, w0'⟩ := hvQ
  have HXA := Lib.hid hxa
  have HXB := Lib.hid hxb
  clear hz hxa hxb hk1' d0 a0 b0
  go_upto_region 35 with fail
  obtain ⟨wj, hwj, hja, hjb, hkj⟩ : ∃ wj, wj = (wi.alloc (.cells #[.int .i64 aN, .bool aC] 100)).alloc (.cells #[.int .i64 bN, .bool bC] 100) ∧ Blk wj wi.heap.size (.cells #[.int .i64 aN, .bool aC] 100) ∧ Blk wj (wi.heap.size + 1) (.cells #[.int .i64 bN, .bool bC] 100) ∧ Keeps wi wj := ⟨_, rfl, (Blk.top _ _).keep ((Keeps.refl _).alloc _), Blk.top' _ _ (by rw [sz_alloc]), ((Keeps.refl _).alloc _).alloc _⟩
  obtain ⟨fa, hfa⟩ : ∃ fa, fa = wi.heap.size := ⟨_, rfl⟩
  have hffa : f < fa := by rw [hfa]; exact HBI.out.lt
  rw [← hfa] at hja hjb
  rw [← hfa, ← hwj]
  have hmj := HMI2.out.keeps hkj
  have hbj := HBI.out.keep hkj
  have y0 := (hbj).cell (j := 0) rfl
  have y1 := (hbj).cell (j := 1) rfl
  have y2 := (hbj).cell (j := 2) rfl
  have y3 := (hbj).cell (j := 3) rfl
  have y4 := (hbj).cell (j := 4) rfl
  have y5 := (hbj).cell (j := 5) rfl
  have o0 : wj.cell? ⟨ob, 0, none⟩ = some (.slice at1 s.told.length ct1) := (RAt.out hmj).cell (j := 0) rfl
  have o1 : wj.cell? ⟨ob, 1, none⟩ = some (.int .i64 0) := (RAt.out hmj).cell (j := 1) rfl
  have o2 : wj.cell? ⟨ob, 2, none⟩ = some (.int .i64 st) := (RAt.out hmj).cell (j := 2) rfl
  have o3 : wj.cell? ⟨ob, 3, none⟩ = some (.int .i64 s.pc) := (RAt.out hmj).cell (j := 3) rfl
  have p0 : wj.frozen? ⟨ob, 0, none⟩ = false := (RAt.out hmj).thawed 0
  have p1 : wj.frozen? ⟨ob, 1, none⟩ = false := (RAt.out hmj).thawed 1
  have p2 : wj.frozen? ⟨ob, 2, none⟩ = false := (RAt.out hmj).thawed 2
  have p3 : wj.frozen? ⟨ob, 3, none⟩ = false := (RAt.out hmj).thawed 3
  have hol := (RAt.out hmj).lt
  have hrl := (RAt.reg hmj).lt
  have z0 : wj.cell? ⟨rb, D * 2, none⟩ = some (.int .i64 (nth s.regs D).N) := (RAt.regc hmj (r := D) (by omega)).1
  have z1 : wj.cell? ⟨rb, D * 2 + 1, none⟩ = some (.bool (nth s.regs D).C) := (RAt.regc hmj (r := D) (by omega)).2
  have q0 : wj.frozen? ⟨rb, D * 2, none⟩ = false := (RAt.reg hmj).thawed (D * 2)
  have q1 : wj.frozen? ⟨rb, D * 2 + 1, none⟩ = false := (RAt.reg hmj).thawed (D * 2 + 1)
  have ac0 := hja.cell (j := 0) rfl
  have ac1 := hja.cell (j := 1) rfl
  have bc0 := hjb.cell (j := 0) rfl
  have bc1 := hjb.cell (j := 1) rfl
  have hal := hja.lt
  have hbl := hjb.lt
  have hfl := hbj.lt
  have hkj1 : Keeps w1 wj := hmj.keep
  have g0 := (HB31.out.keep hkj1).cell (j := 0) rfl
  have g1 := (HB31.out.keep hkj1).cell (j := 1) rfl
  have g2 := (HB31.out.keep hkj1).cell (j := 2) rfl
  have g3 := (HB31.out.keep hkj1).cell (j := 3) rfl
  have g4 := (HB31.out.keep hkj1).cell (j := 4) rfl
  have g5 := (HB31.out.keep hkj1).cell (j := 5) rfl
  have HMJ := Lib.hid hmj
  have HKJ := Lib.hid hkj1
  clear hwj hmj hbj hja hjb hkj hkj1 hfa x0 x1 w0 w0' HBI
  unfold InM at hin1 hin2
  have hro1 : ¬ (rb = ob) := HMJ.out.ro
  have hro2 : ¬ (ob = rb) := fun e => hro1 e.symm
  rcases hK with rfl | rfl
  · as_aux_lemma =>
      cases aC with
      | true =>
        have HRE : Hid (((4 : Int), k + 1, s) = R) := Lib.hid ((run_end (k := k) HDA.out (sbr_end (m := m) (n := nn) (D := D) (N := N) (Lg := Lg) (K := 18) (by decide) (by decide) HXA.out HXB.out (Or.inl rfl)) (by decide)).symm.trans HR.out)
        clear z0 z1 q0 q1
        go_upto_region 59 with fail
        obtain ⟨wq, hwq⟩ : ∃ wq, wq = (wj).setCell ⟨ob, 1, none⟩ (.int .i64 4) := ⟨_, rfl⟩
        rw [← hwq]
        have hmq : RAt w1.heap.size w1 rb ob s (.slice ad LK.length cd) (.slice at1 s.told.length ct1) 4 st s.pc wq := by rw [hwq]; exact (HMJ.out).setEnd 4
        have o0 : wq.cell? ⟨ob, 0, none⟩ = some (.slice at1 s.told.length ct1) := (RAt.out hmq).cell (j := 0) rfl
        have o1 : wq.cell? ⟨ob, 1, none⟩ = some (.int .i64 4) := (RAt.out hmq).cell (j := 1) rfl
        have o2 : wq.cell? ⟨ob, 2, none⟩ = some (.int .i64 st) := (RAt.out hmq).cell (j := 2) rfl
        have o3 : wq.cell? ⟨ob, 3, none⟩ = some (.int .i64 s.pc) := (RAt.out hmq).cell (j := 3) rfl
        have p0 : wq.frozen? ⟨ob, 0, none⟩ = false := (RAt.out hmq).thawed 0
        have p1 : wq.frozen? ⟨ob, 1, none⟩ = false := (RAt.out hmq).thawed 1
        have p2 : wq.frozen? ⟨ob, 2, none⟩ = false := (RAt.out hmq).thawed 2
        have p3 : wq.frozen? ⟨ob, 3, none⟩ = false := (RAt.out hmq).thawed 3
        have hol := (RAt.out hmq).lt
        have hrl := (RAt.reg hmq).lt
        have hkq : Keeps w1 wq := hmq.keep
        have hBz := HB1.out.keep hkq
        have d0 := (hBz).cell (j := 0) rfl
        have d1 := (hBz).cell (j := 1) rfl
        have d2 := (hBz).cell (j := 2) rfl
        have d3 := (hBz).cell (j := 3) rfl
        have u0 := (hBz).thawed 0
        have u1 := (hBz).thawed 1
        have u2 := (hBz).thawed 2
        have u3 := (hBz).thawed 3
        have hzs : w.heap.size + 1 < wq.heap.size := hBz.lt
        have HBZ := Lib.hid hBz
        have HMQ := Lib.hid hmq
        have HKQ := Lib.hid (HK1.out.trans hkq)
        clear hwq hmq hkq hBz
        go_wp2_with fail
        obtain ⟨wf, hwf⟩ : ∃ wf : World, wf = ((((((((wq).setCell ⟨w.heap.size + 1, 0, none⟩ (.slice at1 s.told.length ct1))).setCell ⟨w.heap.size + 1, 1, none⟩ (.int .i64 4))).setCell ⟨w.heap.size + 1, 2, none⟩ (.int .i64 st))).setCell ⟨w.heap.size + 1, 3, none⟩ (.int .i64 s.pc)) := ⟨_, rfl⟩
        rw [← hwf]
        obtain ⟨hBf, hgf⟩ := put4 (HBZ.out) _ _ _ _ hwf
        have HK := Lib.hid (keeps_put (HKQ.out) (Nat.le_succ _) hgf)
        have HGF := Lib.hid hgf
        have e0 := (hBf).cell (j := 0) rfl
        have e1 := (hBf).cell (j := 1) rfl
        have e2 := (hBf).cell (j := 2) rfl
        have e3 := (hBf).cell (j := 3) rfl
        clear hwf hBf hgf
        have ho := (HMQ.out.tld.keep (Keeps.refl _)).other HGF.out (fun b hb e => by injection e with e; subst e; have := HMQ.out.tld.row _ hb; have := HB1.out.lt; omega)
        have e := HMI.out
        rw [← HRE.out] at e
        subst e
        exact bodyPost_ret (v := .tuple #[.agg #[.slice at1 s.told.length ct1, .int .i64 4, .int .i64 st, .int .i64 s.pc], .int .i64 0]) (by simp [results, Tryd.results16, go_sem, e0, e1, e2, e3]) rfl ⟨_, rfl, ⟨_, by rw [show (runR (F : Int) (4, k + 1, s)).steps = st from HST.out.symm]; rfl, Own.ints ho, fun b hb => by have := HMQ.out.tld.row _ hb; have := HB1.out.lt; omega⟩, HK.out⟩
      | false =>
        cases bC with
        | true =>
          have HRE : Hid (((4 : Int), k + 1, s) = R) := Lib.hid ((run_end (k := k) HDA.out (sbr_end (m := m) (n := nn) (D := D) (N := N) (Lg := Lg) (K := 18) (by decide) (by decide) HXA.out HXB.out (Or.inr rfl)) (by decide)).symm.trans HR.out)
          clear z0 z1 q0 q1
          go_upto_region 59 with fail
          obtain ⟨wq, hwq⟩ : ∃ wq, wq = (wj).setCell ⟨ob, 1, none⟩ (.int .i64 4) := ⟨_, rfl⟩
          rw [← hwq]
          have hmq : RAt w1.heap.size w1 rb ob s (.slice ad LK.length cd) (.slice at1 s.told.length ct1) 4 st s.pc wq := by rw [hwq]; exact (HMJ.out).setEnd 4
          have o0 : wq.cell? ⟨ob, 0, none⟩ = some (.slice at1 s.told.length ct1) := (RAt.out hmq).cell (j := 0) rfl
          have o1 : wq.cell? ⟨ob, 1, none⟩ = some (.int .i64 4) := (RAt.out hmq).cell (j := 1) rfl
          have o2 : wq.cell? ⟨ob, 2, none⟩ = some (.int .i64 st) := (RAt.out hmq).cell (j := 2) rfl
          have o3 : wq.cell? ⟨ob, 3, none⟩ = some (.int .i64 s.pc) := (RAt.out hmq).cell (j := 3) rfl
          have p0 : wq.frozen? ⟨ob, 0, none⟩ = false := (RAt.out hmq).thawed 0
          have p1 : wq.frozen? ⟨ob, 1, none⟩ = false := (RAt.out hmq).thawed 1
          have p2 : wq.frozen? ⟨ob, 2, none⟩ = false := (RAt.out hmq).thawed 2
          have p3 : wq.frozen? ⟨ob, 3, none⟩ = false := (RAt.out hmq).thawed 3
          have hol := (RAt.out hmq).lt
          have hrl := (RAt.reg hmq).lt
          have hkq : Keeps w1 wq := hmq.keep
          have hBz := HB1.out.keep hkq
          have d0 := (hBz).cell (j := 0) rfl
          have d1 := (hBz).cell (j := 1) rfl
          have d2 := (hBz).cell (j := 2) rfl
          have d3 := (hBz).cell (j := 3) rfl
          have u0 := (hBz).thawed 0
          have u1 := (hBz).thawed 1
          have u2 := (hBz).thawed 2
          have u3 := (hBz).thawed 3
          have hzs : w.heap.size + 1 < wq.heap.size := hBz.lt
          have HBZ := Lib.hid hBz
          have HMQ := Lib.hid hmq
          have HKQ := Lib.hid (HK1.out.trans hkq)
          clear hwq hmq hkq hBz
          go_wp2_with fail
          obtain ⟨wf, hwf⟩ : ∃ wf : World, wf = ((((((((wq).setCell ⟨w.heap.size + 1, 0, none⟩ (.slice at1 s.told.length ct1))).setCell ⟨w.heap.size + 1, 1, none⟩ (.int .i64 4))).setCell ⟨w.heap.size + 1, 2, none⟩ (.int .i64 st))).setCell ⟨w.heap.size + 1, 3, none⟩ (.int .i64 s.pc)) := ⟨_, rfl⟩
          rw [← hwf]
          obtain ⟨hBf, hgf⟩ := put4 (HBZ.out) _ _ _ _ hwf
          have HK := Lib.hid (keeps_put (HKQ.out) (Nat.le_succ _) hgf)
          have HGF := Lib.hid hgf
          have e0 := (hBf).cell (j := 0) rfl
          have e1 := (hBf).cell (j := 1) rfl
          have e2 := (hBf).cell (j := 2) rfl
          have e3 := (hBf).cell (j := 3) rfl
          clear hwf hBf hgf
          have ho := (HMQ.out.tld.keep (Keeps.refl _)).other HGF.out (fun b hb e => by injection e with e; subst e; have := HMQ.out.tld.row _ hb; have := HB1.out.lt; omega)
          have e := HMI.out
          rw [← HRE.out] at e
          subst e
          exact bodyPost_ret (v := .tuple #[.agg #[.slice at1 s.told.length ct1, .int .i64 4, .int .i64 st, .int .i64 s.pc], .int .i64 0]) (by simp [results, Tryd.results16, go_sem, e0, e1, e2, e3]) rfl ⟨_, rfl, ⟨_, by rw [show (runR (F : Int) (4, k + 1, s)).steps = st from HST.out.symm]; rfl, Own.ints ho, fun b hb => by have := HMQ.out.tld.row _ hb; have := HB1.out.lt; omega⟩, HK.out⟩
        | false =>
          clear z0 z1 q0 q1
          by_cases hcmp : aN = bN
          · have tq : (aN == bN) = true := by simpa using hcmp
            have htk : takenN 18 aN bN = true := by unfold takenN; simp; omega
            have HTK := Lib.hid htk
            clear htk
            have hstep : stepS m s ⟨18, D, A, Q, N, Lg⟩ nn = (0, { s with pc := s.pc + N }) := sbr_go (by decide) (by decide) HXA.out HXB.out HTK.out
            have hrun := (run_step (k := k) HDA.out).symm.trans HR.out
            rw [hstep, if_pos rfl] at hrun
            have hok2 := stepS_ok HG.out (n := nn) HOK.out HIO.out hnb ⟨hp0, hp1⟩ ⟨hn0, hn1⟩
            rw [hstep] at hok2
            have HRUN := Lib.hid hrun
            have HOK2 := Lib.hid hok2
            clear hstep hrun hok2
            clear hcmp
            go_wp2_with fail
            go_quiet (fail)
            go_wp2_with fail
            refine HPOST.out.use ?rel ?measure
            case rel =>
              exact ⟨k, { s with pc := s.pc + N }, rd, (.slice at1 s.told.length ct1), s.pc, by omega, rfl, rfl, hrd, HIN, by rw [← HKS.out]; exact ((HMJ.out.keeps ((Keeps.refl wj).drewN nq)).pc' (s.pc + N)).setSteps (st + 1), HOK2.out, (by show s.told.length + k ≤ F; (try rw [List.length_append]); (try simp only [List.length_cons, List.length_nil]); omega), HRUN⟩
            case measure =>
              refine meas2_lt (s' := { s with pc := s.pc + N }) (vd' := (.slice ad LK.length cd)) (vt' := (.slice at1 s.told.length ct1)) (en' := 0) (at2' := s.pc) ?_ HM.out ⟨hst0, by omega⟩
              exact ((HMJ.out.keeps ((Keeps.refl wj).drewN nq)).pc' (s.pc + N)).setSteps (st + 1)
          · have tq : (aN == bN) = false := by simpa using hcmp
            have htk : takenN 18 aN bN = false := by unfold takenN; simp; omega
            have HTK := Lib.hid htk
            clear htk
            have hstep : stepS m s ⟨18, D, A, Q, N, Lg⟩ nn = (0, { s with pc := s.pc + nn }) := sbr_no (by decide) (by decide) HXA.out HXB.out HTK.out
            have hrun := (run_step (k := k) HDA.out).symm.trans HR.out
            rw [hstep, if_pos rfl] at hrun
            have hok2 := stepS_ok HG.out (n := nn) HOK.out HIO.out hnb ⟨hp0, hp1⟩ ⟨hn0, hn1⟩
            rw [hstep] at hok2
            have HRUN := Lib.hid hrun
            have HOK2 := Lib.hid hok2
            clear hstep hrun hok2
            clear hcmp
            go_wp2_with fail
            go_quiet (fail)
            go_wp2_with fail
            refine HPOST.out.use ?rel ?measure
            case rel =>
              exact ⟨k, { s with pc := s.pc + nn }, rd, (.slice at1 s.told.length ct1), s.pc, by omega, rfl, rfl, hrd, HIN, by rw [← HKS.out]; exact ((HMJ.out.keeps ((Keeps.refl wj).drewN nq)).pc' (s.pc + nn)).setSteps (st + 1), HOK2.out, (by show s.told.length + k ≤ F; (try rw [List.length_append]); (try simp only [List.length_cons, List.length_nil]); omega), HRUN⟩
            case measure =>
              refine meas2_lt (s' := { s with pc := s.pc + nn }) (vd' := (.slice ad LK.length cd)) (vt' := (.slice at1 s.told.length ct1)) (en' := 0) (at2' := s.pc) ?_ HM.out ⟨hst0, by omega⟩
              exact ((HMJ.out.keeps ((Keeps.refl wj).drewN nq)).pc' (s.pc + nn)).setSteps (st + 1)
  · as_aux_lemma =>
      cases aC with
      | true =>
        have HRE : Hid (((4 : Int), k + 1, s) = R) := Lib.hid ((run_end (k := k) HDA.out (sbr_end (m := m) (n := nn) (D := D) (N := N) (Lg := Lg) (K := 19) (by decide) (by decide) HXA.out HXB.out (Or.inl rfl)) (by decide)).symm.trans HR.out)
        clear z0 z1 q0 q1
        go_upto_region 59 with fail
        obtain ⟨wq, hwq⟩ : ∃ wq, wq = (wj).setCell ⟨ob, 1, none⟩ (.int .i64 4) := ⟨_, rfl⟩
        rw [← hwq]
        have hmq : RAt w1.heap.size w1 rb ob s (.slice ad LK.length cd) (.slice at1 s.told.length ct1) 4 st s.pc wq := by rw [hwq]; exact (HMJ.out).setEnd 4
        have o0 : wq.cell? ⟨ob, 0, none⟩ = some (.slice at1 s.told.length ct1) := (RAt.out hmq).cell (j := 0) rfl
        have o1 : wq.cell? ⟨ob, 1, none⟩ = some (.int .i64 4) := (RAt.out hmq).cell (j := 1) rfl
        have o2 : wq.cell? ⟨ob, 2, none⟩ = some (.int .i64 st) := (RAt.out hmq).cell (j := 2) rfl
        have o3 : wq.cell? ⟨ob, 3, none⟩ = some (.int .i64 s.pc) := (RAt.out hmq).cell (j := 3) rfl
        have p0 : wq.frozen? ⟨ob, 0, none⟩ = false := (RAt.out hmq).thawed 0
        have p1 : wq.frozen? ⟨ob, 1, none⟩ = false := (RAt.out hmq).thawed 1
        have p2 : wq.frozen? ⟨ob, 2, none⟩ = false := (RAt.out hmq).thawed 2
        have p3 : wq.frozen? ⟨ob, 3, none⟩ = false := (RAt.out hmq).thawed 3
        have hol := (RAt.out hmq).lt
        have hrl := (RAt.reg hmq).lt
        have hkq : Keeps w1 wq := hmq.keep
        have hBz := HB1.out.keep hkq
        have d0 := (hBz).cell (j := 0) rfl
        have d1 := (hBz).cell (j := 1) rfl
        have d2 := (hBz).cell (j := 2) rfl
        have d3 := (hBz).cell (j := 3) rfl
        have u0 := (hBz).thawed 0
        have u1 := (hBz).thawed 1
        have u2 := (hBz).thawed 2
        have u3 := (hBz).thawed 3
        have hzs : w.heap.size + 1 < wq.heap.size := hBz.lt
        have HBZ := Lib.hid hBz
        have HMQ := Lib.hid hmq
        have HKQ := Lib.hid (HK1.out.trans hkq)
        clear hwq hmq hkq hBz
        go_wp2_with fail
        obtain ⟨wf, hwf⟩ : ∃ wf : World, wf = ((((((((wq).setCell ⟨w.heap.size + 1, 0, none⟩ (.slice at1 s.told.length ct1))).setCell ⟨w.heap.size + 1, 1, none⟩ (.int .i64 4))).setCell ⟨w.heap.size + 1, 2, none⟩ (.int .i64 st))).setCell ⟨w.heap.size + 1, 3, none⟩ (.int .i64 s.pc)) := ⟨_, rfl⟩
        rw [← hwf]
        obtain ⟨hBf, hgf⟩ := put4 (HBZ.out) _ _ _ _ hwf
        have HK := Lib.hid (keeps_put (HKQ.out) (Nat.le_succ _) hgf)
        have HGF := Lib.hid hgf
        have e0 := (hBf).cell (j := 0) rfl
        have e1 := (hBf).cell (j := 1) rfl
        have e2 := (hBf).cell (j := 2) rfl
        have e3 := (hBf).cell (j := 3) rfl
        clear hwf hBf hgf
        have ho := (HMQ.out.tld.keep (Keeps.refl _)).other HGF.out (fun b hb e => by injection e with e; subst e; have := HMQ.out.tld.row _ hb; have := HB1.out.lt; omega)
        have e := HMI.out
        rw [← HRE.out] at e
        subst e
        exact bodyPost_ret (v := .tuple #[.agg #[.slice at1 s.told.length ct1, .int .i64 4, .int .i64 st, .int .i64 s.pc], .int .i64 0]) (by simp [results, Tryd.results16, go_sem, e0, e1, e2, e3]) rfl ⟨_, rfl, ⟨_, by rw [show (runR (F : Int) (4, k + 1, s)).steps = st from HST.out.symm]; rfl, Own.ints ho, fun b hb => by have := HMQ.out.tld.row _ hb; have := HB1.out.lt; omega⟩, HK.out⟩
      | false =>
        cases bC with
        | true =>
          have HRE : Hid (((4 : Int), k + 1, s) = R) := Lib.hid ((run_end (k := k) HDA.out (sbr_end (m := m) (n := nn) (D := D) (N := N) (Lg := Lg) (K := 19) (by decide) (by decide) HXA.out HXB.out (Or.inr rfl)) (by decide)).symm.trans HR.out)
          clear z0 z1 q0 q1
          go_upto_region 59 with fail
          obtain ⟨wq, hwq⟩ : ∃ wq, wq = (wj).setCell ⟨ob, 1, none⟩ (.int .i64 4) := ⟨_, rfl⟩
          rw [← hwq]
          have hmq : RAt w1.heap.size w1 rb ob s (.slice ad LK.length cd) (.slice at1 s.told.length ct1) 4 st s.pc wq := by rw [hwq]; exact (HMJ.out).setEnd 4
          have o0 : wq.cell? ⟨ob, 0, none⟩ = some (.slice at1 s.told.length ct1) := (RAt.out hmq).cell (j := 0) rfl
          have o1 : wq.cell? ⟨ob, 1, none⟩ = some (.int .i64 4) := (RAt.out hmq).cell (j := 1) rfl
          have o2 : wq.cell? ⟨ob, 2, none⟩ = some (.int .i64 st) := (RAt.out hmq).cell (j := 2) rfl
          have o3 : wq.cell? ⟨ob, 3, none⟩ = some (.int .i64 s.pc) := (RAt.out hmq).cell (j := 3) rfl
          have p0 : wq.frozen? ⟨ob, 0, none⟩ = false := (RAt.out hmq).thawed 0
          have p1 : wq.frozen? ⟨ob, 1, none⟩ = false := (RAt.out hmq).thawed 1
          have p2 : wq.frozen? ⟨ob, 2, none⟩ = false := (RAt.out hmq).thawed 2
          have p3 : wq.frozen? ⟨ob, 3, none⟩ = false := (RAt.out hmq).thawed 3
          have hol := (RAt.out hmq).lt
          have hrl := (RAt.reg hmq).lt
          have hkq : Keeps w1 wq := hmq.keep
          have hBz := HB1.out.keep hkq
          have d0 := (hBz).cell (j := 0) rfl
          have d1 := (hBz).cell (j := 1) rfl
          have d2 := (hBz).cell (j := 2) rfl
          have d3 := (hBz).cell (j := 3) rfl
          have u0 := (hBz).thawed 0
          have u1 := (hBz).thawed 1
          have u2 := (hBz).thawed 2
          have u3 := (hBz).thawed 3
          have hzs : w.heap.size + 1 < wq.heap.size := hBz.lt
          have HBZ := Lib.hid hBz
          have HMQ := Lib.hid hmq
          have HKQ := Lib.hid (HK1.out.trans hkq)
          clear hwq hmq hkq hBz
          go_wp2_with fail
          obtain ⟨wf, hwf⟩ : ∃ wf : World, wf = ((((((((wq).setCell ⟨w.heap.size + 1, 0, none⟩ (.slice at1 s.told.length ct1))).setCell ⟨w.heap.size + 1, 1, none⟩ (.int .i64 4))).setCell ⟨w.heap.size + 1, 2, none⟩ (.int .i64 st))).setCell ⟨w.heap.size + 1, 3, none⟩ (.int .i64 s.pc)) := ⟨_, rfl⟩
          rw [← hwf]
          obtain ⟨hBf, hgf⟩ := put4 (HBZ.out) _ _ _ _ hwf
          have HK := Lib.hid (keeps_put (HKQ.out) (Nat.le_succ _) hgf)
          have HGF := Lib.hid hgf
          have e0 := (hBf).cell (j := 0) rfl
          have e1 := (hBf).cell (j := 1) rfl
          have e2 := (hBf).cell (j := 2) rfl
          have e3 := (hBf).cell (j := 3) rfl
          clear hwf hBf hgf
          have ho := (HMQ.out.tld.keep (Keeps.refl _)).other HGF.out (fun b hb e => by injection e with e; subst e; have := HMQ.out.tld.row _ hb; have := HB1.out.lt; omega)
          have e := HMI.out
          rw [← HRE.out] at e
          subst e
          exact bodyPost_ret (v := .tuple #[.agg #[.slice at1 s.told.length ct1, .int .i64 4, .int .i64 st, .int .i64 s.pc], .int .i64 0]) (by simp [results, Tryd.results16, go_sem, e0, e1, e2, e3]) rfl ⟨_, rfl, ⟨_, by rw [show (runR (F : Int) (4, k + 1, s)).steps = st from HST.out.symm]; rfl, Own.ints ho, fun b hb => by have := HMQ.out.tld.row _ hb; have := HB1.out.lt; omega⟩, HK.out⟩
        | false =>
          clear z0 z1 q0 q1
          by_cases hcmp : ¬ (aN = bN)
          · have tq : (aN == bN) = false := by simpa using hcmp
            have htk : takenN 19 aN bN = true := by unfold takenN; simp; omega
            have HTK := Lib.hid htk
            clear htk
            have hstep : stepS m s ⟨19, D, A, Q, N, Lg⟩ nn = (0, { s with pc := s.pc + N }) := sbr_go (by decide) (by decide) HXA.out HXB.out HTK.out
            have hrun := (run_step (k := k) HDA.out).symm.trans HR.out
            rw [hstep, if_pos rfl] at hrun
            have hok2 := stepS_ok HG.out (n := nn) HOK.out HIO.out hnb ⟨hp0, hp1⟩ ⟨hn0, hn1⟩
            rw [hstep] at hok2
            have HRUN := Lib.hid hrun
            have HOK2 := Lib.hid hok2
            clear hstep hrun hok2
            clear hcmp
            go_wp2_with fail
            go_quiet (fail)
            go_wp2_with fail
            refine HPOST.out.use ?rel ?measure
            case rel =>
              exact ⟨k, { s with pc := s.pc + N }, rd, (.slice at1 s.told.length ct1), s.pc, by omega, rfl, rfl, hrd, HIN, by rw [← HKS.out]; exact ((HMJ.out.keeps ((Keeps.refl wj).drewN nq)).pc' (s.pc + N)).setSteps (st + 1), HOK2.out, (by show s.told.length + k ≤ F; (try rw [List.length_append]); (try simp only [List.length_cons, List.length_nil]); omega), HRUN⟩
            case measure =>
              refine meas2_lt (s' := { s with pc := s.pc + N }) (vd' := (.slice ad LK.length cd)) (vt' := (.slice at1 s.told.length ct1)) (en' := 0) (at2' := s.pc) ?_ HM.out ⟨hst0, by omega⟩
              exact ((HMJ.out.keeps ((Keeps.refl wj).drewN nq)).pc' (s.pc + N)).setSteps (st + 1)
          · have tq : (aN == bN) = true := by simpa using hcmp
            have htk : takenN 19 aN bN = false := by unfold takenN; simp; omega
            have HTK := Lib.hid htk
            clear htk
            have hstep : stepS m s ⟨19, D, A, Q, N, Lg⟩ nn = (0, { s with pc := s.pc + nn }) := sbr_no (by decide) (by decide) HXA.out HXB.out HTK.out
            have hrun := (run_step (k := k) HDA.out).symm.trans HR.out
            rw [hstep, if_pos rfl] at hrun
            have hok2 := stepS_ok HG.out (n := nn) HOK.out HIO.out hnb ⟨hp0, hp1⟩ ⟨hn0, hn1⟩
            rw [hstep] at hok2
            have HRUN := Lib.hid hrun
            have HOK2 := Lib.hid hok2
            clear hstep hrun hok2
            clear hcmp
            go_wp2_with fail
            go_quiet (fail)
            go_wp2_with fail
            refine HPOST.out.use ?rel ?measure
            case rel =>
              exact ⟨k, { s with pc := s.pc + nn }, rd, (.slice at1 s.told.length ct1), s.pc, by omega, rfl, rfl, hrd, HIN, by rw [← HKS.out]; exact ((HMJ.out.keeps ((Keeps.refl wj).drewN nq)).pc' (s.pc + nn)).setSteps (st + 1), HOK2.out, (by show s.told.length + k ≤ F; (try rw [List.length_append]); (try simp only [List.length_cons, List.length_nil]); omega), HRUN⟩
            case measure =>
              refine meas2_lt (s' := { s with pc := s.pc + nn }) (vd' := (.slice ad LK.length cd)) (vt' := (.slice at1 s.told.length ct1)) (en' := 0) (at2' := s.pc) ?_ HM.out ⟨hst0, by omega⟩
              exact ((HMJ.out.keeps ((Keeps.refl wj).drewN nq)).pc' (s.pc + nn)).setSteps (st + 1)
end Go.Proofs.YtpgifkhgefbnfaaDoor
