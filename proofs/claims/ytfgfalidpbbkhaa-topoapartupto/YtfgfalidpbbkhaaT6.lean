/- A part of the proof that a law of the edges and fans of faces answers true for every input of its bulk: own work, by an AI agent. -/
import Derived.Test.YtfgfalidpbbkhaaTTy
import Derived.Test.YtfgfalidpbbkhaaTSpec5
import Derived.Test.YtfgfalidpbbkhaaTKey
import Derived.KernelRfl
import Derived.Test.YtfgfalidpbbkhaaT5
import Derived.Test.YtfgfalidpbbkhaaTMine
namespace Go.Proofs.T
open Go Go.AH
set_option maxRecDepth 4000
set_option linter.unusedSimpArgs false
set_option linter.unusedVariables false
theorem c12 (fs : List (List Int)) (hfs : fs.length ≤ 1048576) (hfss : ∀ l ∈ fs, l.length ≤ 1048576) (n : Int) (hn : n ≤ 1000) (hsl : (sides fs).length ≤ 4000000000) : PC Try.prog 12 [.int .i64 n, .sl fs.length (fs.map eF)] (.tup [.agg [.sl ((buildT n fs).ed).length (((buildT n fs).ed).flatMap eE), .sl ((buildT n fs).fan).length (((buildT n fs).fan).map eF), .sl ((buildT n fs).rnd).length (((buildT n fs).rnd).map eBo)], .int .i64 (buildE n fs)]) := by
  intro H0
  refine ACalls.of_body' (n := 94) rfl rfl rfl rfl ?_
  have m0 := Mono.refl H0
  refine AWP.seq ?_
  refine AWP.region (l := [0, 1]) rfl ?_
  refine AOps.cons rfl rfl (AOp.alloc rfl tz_29 ?_)
  intro i1 H2 n3 h4 k5
  have z6 := Mono.free m0 n3
  have m7 := Mono.new m0 n3 k5
  refine AOps.cons rfl rfl (AOp.assign (.int .i64 0) rfl rfl ?_)
  refine AOps.nil ?_
  change AWP _ _ _ _ _ _
  refine AWP.seq ?_
  refine AWP.region (l := [0, 1, 2, 3, 4]) rfl ?_
  refine AOps.cons rfl rfl (AOp.move (.sl fs.length (fs.map eF)) rfl rfl ?_)
  refine AOps.cons rfl rfl (AOp.makeMap rfl ?_)
  intro i8 H9 n10 h11 k12
  have e13 := ne_new h4 n10
  have z14 := Mono.free m7 n10
  have h15 := keep k12 (ne_new h4 n10) h4
  have m16 := Mono.new m7 n10 k12
  refine AOps.cons rfl rfl (AOp.build (cells := [.sl fs.length (fs.map eF), .map i8]) rfl tz_54 pl_54 rfl rfl ?_)
  refine AOps.cons rfl rfl (AOp.box (.agg [.sl fs.length (fs.map eF), .map i8]) rfl rfl rfl ?_)
  intro i17 H18 n19 h20 k21
  have e22 := ne_new h15 n19
  have e23 := ne_new h11 n19
  have z24 := Mono.free m16 n19
  have h25 := keep k21 (ne_new h15 n19) h15
  have h26 := keep k21 (ne_new h11 n19) h11
  have m27 := Mono.new m16 n19 k21
  refine AOps.cons rfl rfl (AOp.assign (.ptr i17 0 0) rfl rfl ?_)
  refine AOps.nil ?_
  change AWP _ _ _ _ _ _
  refine AWP.seq ?_
  refine AWP.region (l := [0, 1]) rfl ?_
  refine AOps.cons rfl rfl (AOp.makeMap rfl ?_)
  intro i28 H29 n30 h31 k32
  have e33 := ne_new h25 n30
  have e34 := ne_new h26 n30
  have e35 := ne_new h20 n30
  have z36 := Mono.free m27 n30
  have h37 := keep k32 (ne_new h25 n30) h25
  have h38 := keep k32 (ne_new h26 n30) h26
  have h39 := keep k32 (ne_new h20 n30) h20
  have m40 := Mono.new m27 n30 k32
  refine AOps.cons rfl rfl (AOp.assign (.map i28) rfl rfl ?_)
  refine AOps.nil ?_
  change AWP _ _ _ _ _ _
  refine AWP.seq ?_
  refine AWP.seq ?_
  have oM : MO H0 H29 [] := MO.nil _ _
  refine AWP.region (l := [0, 1, 2]) rfl ?_
  refine AOps.cons rfl rfl (AOp.move (.sl fs.length (fs.map eF)) rfl rfl ?_)
  refine AOps.cons rfl rfl (AOp.len (m := fs.length) rfl rfl (.inr (.inl ⟨_, rfl⟩)) u_22 ?_)
  refine AOps.cons rfl rfl (AOp.move (.int .i64 0) rfl rfl ?_)
  refine AOps.nil ?_
  change AWP _ _ _ _ _ _
  refine AWP.block ?_
  refine AWP.loop (fun q41 fq Hq => ∃ (f : Int) (L : List ME), q41 = (((fs.length : Int) : Int) - f).toNat ∧ fq 24 = .int .i64 f ∧ fq 0 = .int .i64 n ∧ fq 4 = .ptr i1 0 0 ∧ fq 6 = .ptr i17 0 0 ∧ fq 7 = .map i28 ∧ fq 22 = .sl fs.length (fs.map eF) ∧ fq 23 = .int .i64 (fs.length : Int) ∧ MO H0 Hq L ∧ NotIdM L i1 ∧ NotIdM L i8 ∧ NotIdM L i17 ∧ NotIdM L i28 ∧ Hq i1 = some (.row 0 ([.snil, .snil, .snil])) ∧ Hq i8 = some (.map ((psides fs f 0).map eS)) ∧ Hq i17 = some (.row 0 ([.sl fs.length (fs.map eF), .map i8])) ∧ Hq i28 = some (.map (L.map eM)) ∧ Mono H0 Hq ∧ (0 ≤ f) ∧ (f ≤ (fs.length : Int)) ∧ (∀ g : Int, 0 ≤ g → g < f → addF n fs g) ∧ (Tells L fun x => mineU fs x f) ∧ ((L.map (·.1)).Nodup) ∧ (∀ e ∈ L, 0 ≤ e.1 ∧ e.1 < n)) (k := (((fs.length : Int) : Int) - 0).toNat) ?_ ?_
  ·
    exact ⟨0, ([] : List ME), rfl, rfl, rfl, rfl, rfl, rfl, rfl, rfl, oM, (NotIdM.nil _), (NotIdM.nil _), (NotIdM.nil _), (NotIdM.nil _), h37, h38, h39, h31, m40, by omega, by omega, by intro g; omega, by exact tells_nil fs, by exact .nil, by intro e h; cases h⟩
  ·
    rintro _ f43 H42 ⟨f, L, rfl, s44, s45, s46, s47, s48, s49, s50, o51, no52, no53, no54, no55, h56, h57, h58, h59, m60, hf0, hf1, hadd, htell, hkeys, hrng⟩
    refine AWP.seq ?_
    refine AWP.region (l := [0]) rfl ?_
    refine AOps.cons rfl rfl (AOp.bin (.bool (decide (f < (fs.length : Int)))) rfl s44 s50 rfl ?_)
    refine AOps.nil ?_
    change AWP _ _ _ _ _ _
    refine AWP.seq ?_
    by_cases b61 : f < (fs.length : Int)
    ·
      refine AWP.condT rfl (decide_eq_true b61) ?_
      refine AWP.skip ?_
      change AWP _ _ _ _ _ _
      refine AWP.seq ?_
      refine AWP.block ?_
      refine AWP.seq ?_
      refine AWP.region (l := [0, 1, 2, 3, 4]) rfl ?_
      refine AOps.cons rfl rfl (AOp.move (.int .i64 f) rfl s44 ?_)
      refine AOps.cons rfl rfl (AOp.indexAddrS rfl s49 s44 sl_22 (by omega) (by omega) ?_)
      refine AOps.cons rfl rfl (AOp.loadF (.sl (at_ fs f).length ((at_ fs f).map eI)) rfl rfl ty_35 (ld1 (by omega) (by omega)) ?_)
      refine AOps.cons rfl rfl (AOp.assign (.int .i64 f) rfl rfl ?_)
      refine AOps.cons rfl rfl (AOp.assign (.sl (at_ fs f).length ((at_ fs f).map eI)) rfl rfl ?_)
      refine AOps.nil ?_
      change AWP _ _ _ _ _ _
      refine AWP.seq ?_
      refine AWP.seq ?_
      refine AWP.region (l := [0, 1, 2, 3, 4]) rfl ?_
      refine AOps.cons rfl rfl (AOp.move (.ptr i17 0 0) rfl s47 ?_)
      refine AOps.cons rfl rfl (AOp.move (.int .i64 f) rfl rfl ?_)
      refine AOps.cons rfl rfl (AOp.move (.int .i64 n) rfl s45 ?_)
      refine AOps.cons rfl rfl (AOp.xcall («as» := [.ptr i17 0 0, .int .i64 f, .int .i64 n]) rfl rfl (rfl) tf_23 (c23 _ (by assumption) (by assumption) n f hn (by omega) hadd (Ne.symm e23) h58 h57) ?_)
      rintro rr H62 ⟨m63, L64, h65, hrr⟩
      rcases hrr with ⟨rfl, ha66, rfl⟩ | ⟨rfl, ha66⟩
      ·
        have h67 := m63 _ _ (hide_get e13 h56)
        have h68 := m63 _ _ (hide_get (Ne.symm e23) h58)
        have h69 := m63 _ _ (hide_get (Ne.symm e34) h59)
        have o70 := MO.hide_ o51 no53 m63
        have m71 := Mono.hide_ m60 z14 m63
        refine AOps.cons rfl rfl (AOp.not rfl rfl ?_)
        refine AOps.nil ?_
        change AWP _ _ _ _ _ _
        refine AWP.condF rfl rfl ?_
        refine AWP.skip ?_
        change AWP _ _ _ _ _ _
        refine AWP.seq ?_
        have hai := ha66
        have hap : Apart (at_ fs f) := hai.2.2.1
        have hq : (at_ fs f).length ≤ 1048576 := hfss _ (at_mem (by omega) (by omega))
        refine AWP.region (l := [0, 1, 2]) rfl ?_
        refine AOps.cons rfl rfl (AOp.move (.sl (at_ fs f).length ((at_ fs f).map eI)) rfl rfl ?_)
        refine AOps.cons rfl rfl (AOp.len (m := (at_ fs f).length) rfl rfl (.inr (.inl ⟨_, rfl⟩)) u_35 ?_)
        refine AOps.cons rfl rfl (AOp.move (.int .i64 0) rfl rfl ?_)
        refine AOps.nil ?_
        change AWP _ _ _ _ _ _
        refine AWP.block ?_
        refine AWP.loop (fun q72 fq Hq => ∃ (i : Int) (K : List ME), q72 = ((((at_ fs f).length : Int) : Int) - i).toNat ∧ fq 37 = .int .i64 i ∧ fq 24 = .int .i64 f ∧ fq 0 = .int .i64 n ∧ fq 4 = .ptr i1 0 0 ∧ fq 6 = .ptr i17 0 0 ∧ fq 7 = .map i28 ∧ fq 22 = .sl fs.length (fs.map eF) ∧ fq 23 = .int .i64 (fs.length : Int) ∧ fq 8 = .int .i64 f ∧ fq 35 = .sl (at_ fs f).length ((at_ fs f).map eI) ∧ fq 36 = .int .i64 (((at_ fs f).length) : Int) ∧ MO H0 Hq K ∧ NotIdM K i1 ∧ NotIdM K i17 ∧ NotIdM K i28 ∧ NotIdM K i8 ∧ Hq i1 = some (.row 0 ([.snil, .snil, .snil])) ∧ Hq i17 = some (.row 0 ([.sl fs.length (fs.map eF), .map i8])) ∧ Hq i28 = some (.map (K.map eM)) ∧ Hq i8 = some (.map ((psides fs (f + 1) 0).map eS)) ∧ Mono H0 Hq ∧ (0 ≤ i) ∧ (i ≤ ((at_ fs f).length : Int)) ∧ (Tells K (contM fs f i)) ∧ ((K.map (·.1)).Nodup) ∧ (∀ e ∈ K, 0 ≤ e.1 ∧ e.1 < n)) (k := ((((at_ fs f).length : Int) : Int) - 0).toNat) ?_ ?_
        ·
          exact ⟨0, L, rfl, rfl, s44, s45, s46, s47, s48, s49, s50, rfl, rfl, rfl, o70, no52, no54, no55, no53, h67, h68, h69, h65, m71, by omega, by omega, by exact Tells.same htell (fun y => cont_0 fs f y), by exact hkeys, by exact hrng⟩
        ·
          rintro _ f74 H73 ⟨i, K, rfl, s75, s76, s77, s78, s79, s80, s81, s82, s83, s84, s85, o86, no87, no88, no89, no90, h91, h92, h93, h94, m95, hi0, hi1, htk, hkeysK, hrngK⟩
          refine AWP.seq ?_
          refine AWP.region (l := [0]) rfl ?_
          refine AOps.cons rfl rfl (AOp.bin (.bool (decide (i < (((at_ fs f).length) : Int)))) rfl s75 s85 rfl ?_)
          refine AOps.nil ?_
          change AWP _ _ _ _ _ _
          refine AWP.seq ?_
          by_cases b96 : i < (((at_ fs f).length) : Int)
          ·
            refine AWP.condT rfl (decide_eq_true b96) ?_
            refine AWP.skip ?_
            change AWP _ _ _ _ _ _
            refine AWP.seq ?_
            refine AWP.block ?_
            refine AWP.seq ?_
            refine AWP.region (l := [0, 1, 2]) rfl ?_
            refine AOps.cons rfl rfl (AOp.indexAddrS rfl s84 s75 sl_35 (by omega) (by omega) ?_)
            refine AOps.cons rfl rfl (AOp.loadF (.int .i64 (at_ (at_ fs f) i)) rfl rfl ty_3 (ld1 (by omega) (by omega)) ?_)
            refine AOps.cons rfl rfl (AOp.assign (.int .i64 (at_ (at_ fs f) i)) rfl rfl ?_)
            refine AOps.nil ?_
            change AWP _ _ _ _ _ _
            have hxr := hai.2.1 i hi0 (by omega)
            have hrng := hrngK
            have hgl : ((getM K (at_ (at_ fs f) i)).2).length ≤ 1048577 := by rw [htk.get]; exact cont_len hf0 (by omega)
            refine AWP.region (l := [0, 1, 2, 3, 4, 5, 6, 7, 8]) rfl ?_
            refine AOps.cons rfl rfl (AOp.move (.map i28) rfl s80 ?_)
            refine AOps.cons rfl rfl (AOp.move (.int .i64 (at_ (at_ fs f) i)) rfl rfl ?_)
            refine AOps.cons rfl rfl (AOp.move (.map i28) rfl s80 ?_)
            refine AOps.cons rfl rfl (AOp.move (.int .i64 (at_ (at_ fs f) i)) rfl rfl ?_)
            obtain ⟨w97, hw98⟩ : ∃ w, w = (getM K (at_ (at_ fs f) i)).1 := ⟨_, rfl⟩
            obtain ⟨oA99, oB100, oC101⟩ := MO.take o86 (at_ (at_ fs f) i)
            rw [← hw98] at oA99 oC101
            have no102 := NotIdM.get no87 (at_ (at_ fs f) i)
            rw [← hw98] at no102
            have no103 := NotIdM.rest no87 (at_ (at_ fs f) i)
            have no104 := NotIdM.get no88 (at_ (at_ fs f) i)
            rw [← hw98] at no104
            have no105 := NotIdM.rest no88 (at_ (at_ fs f) i)
            have no106 := NotIdM.get no89 (at_ (at_ fs f) i)
            rw [← hw98] at no106
            have no107 := NotIdM.rest no89 (at_ (at_ fs f) i)
            have no108 := NotIdM.get no90 (at_ (at_ fs f) i)
            rw [← hw98] at no108
            have no109 := NotIdM.rest no90 (at_ (at_ fs f) i)
            refine AOps.cons rfl rfl (AOp.lookup' rfl rfl h93 rfl (kok3 ⟨by omega, by omega⟩) (kesM hrng hn) tm55 tzv_35 ((mgetM K (at_ (at_ fs f) i)).trans hw98.symm) ?_)
            refine AOps.cons rfl rfl (AOp.move (.int .i64 f) rfl s83 ?_)
            refine AOps.cons rfl rfl (AOp.buildSlice (cells := [.int .i64 f]) rfl u_35 ts_3 tz_3 rfl rfl rfl ?_)
            intro i110 H111 n112 h113 k114
            have e115 := ne_new h91 n112
            have e116 := ne_new h92 n112
            have e117 := ne_new h93 n112
            have e118 := ne_new h94 n112
            have z119 := Mono.free m95 n112
            have h120 := keep k114 (ne_new h91 n112) h91
            have h121 := keep k114 (ne_new h92 n112) h92
            have h122 := keep k114 (ne_new h93 n112) h93
            have h123 := keep k114 (ne_new h94 n112) h94
            have o124 := MO.keep oB100 k114 (MO.notnew oB100 n112)
            have no125 := MO.notnew oB100 n112
            have o126 := Own.keep oA99 k114 (Own.notnew oA99 n112)
            have no127 := Own.notnew oA99 n112
            have m128 := Mono.new m95 n112 k114
            refine AOps.cons rfl rfl (AOp.append_own (es := 1) (m := 1) (len := (((getM K (at_ (at_ fs f) i)).2).length)) (old := ((getM K (at_ (at_ fs f) i)).2).map eI) (cells := [.int .i64 f]) rfl u_35 ts_3 tzn_3 tb_3 (by decide) ni_35 rfl o126 m128 rfl (.slm h113 rfl) (one_of rfl) (by decide) (by first | omega | (simp; omega)) ?_)
            intro v129 H130 o131 m132 k133 j134
            have o135 := Own.snoc1 (xs := (((getM K (at_ (at_ fs f) i)).2) : List Int)) (y := f) (e := eI) (by simp) o131
            have h136 := (k133 _ no102 (by rw [h120]; simp)).trans h120
            have no137 := j134 _ no102 (by rw [h120]; simp)
            have h138 := (k133 _ no104 (by rw [h121]; simp)).trans h121
            have no139 := j134 _ no104 (by rw [h121]; simp)
            have h140 := (k133 _ no106 (by rw [h122]; simp)).trans h122
            have no141 := j134 _ no106 (by rw [h122]; simp)
            have h142 := (k133 _ no108 (by rw [h123]; simp)).trans h123
            have no143 := j134 _ no108 (by rw [h123]; simp)
            have sp145 := MO.sep o124 oC101 j134
            have o144 := MO.stay o124 oC101 k133
            refine AOps.cons rfl rfl (AOp.mapUpdate2 (es' := (putM K (at_ (at_ fs f) i) v129 (((getM K (at_ (at_ fs f) i)).2) ++ [f])).map eM) rfl h140 rfl (kok3 ⟨by omega, by omega⟩) (kesM hrng hn) tm55 rfl (mputM K (at_ (at_ fs f) i) v129 _) ?_)
            intro H146 h147 k148
            have h149 := keep k148 e33 h136
            have h150 := keep k148 e35 h138
            have h152 := keep k148 e34 h142
            have o153 := MO.keep o144 k148 no107
            have o154 := Own.keep o135 k148 no141
            have m155 := Mono.set m132 z36 k148
            have o156 := MO.put (L := K) o153 o154 sp145
            have no157 : NotIdM (putM K (at_ (at_ fs f) i) v129 (((getM K (at_ (at_ fs f) i)).2) ++ [f])) i1 := NotIdM.put no103 no137
            have no158 : NotIdM (putM K (at_ (at_ fs f) i) v129 (((getM K (at_ (at_ fs f) i)).2) ++ [f])) i17 := NotIdM.put no105 no139
            have no159 : NotIdM (putM K (at_ (at_ fs f) i) v129 (((getM K (at_ (at_ fs f) i)).2) ++ [f])) i8 := NotIdM.put no109 no143
            have no160 : NotIdM (putM K (at_ (at_ fs f) i) v129 (((getM K (at_ (at_ fs f) i)).2) ++ [f])) i28 := NotIdM.put no107 no141
            refine AOps.nil ?_
            change AWP _ _ _ _ _ _
            refine AWP.region (l := [0, 1]) rfl ?_
            refine AOps.cons rfl rfl (AOp.bin (.int .i64 (i + 1)) rfl s75 rfl (iadd (by omega)) ?_)
            refine AOps.cons rfl rfl (AOp.move (.int .i64 (i + 1)) rfl rfl ?_)
            refine AOps.nil ?_
            exact ⟨_, by omega, i + 1, (putM K (at_ (at_ fs f) i) v129 (((getM K (at_ (at_ fs f) i)).2) ++ [f])), rfl, rfl, s76, s77, s78, s79, s80, s81, s82, s83, s84, s85, o156, no157, no158, no160, no159, h149, h150, h147, h152, m155, by omega, by omega, by exact Tells.put htk (by rw [cont_hit hap hi0 (by omega), htk.get]) (by simp) (fun y hy => cont_miss hi0 (by omega) hy), by exact putM_keys hkeysK, by exact putM_rng hrngK (hai.2.1 i hi0 (by omega))⟩
          ·
            refine AWP.condF rfl (decide_eq_false b96) ?_
            refine AWP.exit ?_
            change AWP _ _ _ _ _ _
            refine AWP.region (l := [0, 1]) rfl ?_
            refine AOps.cons rfl rfl (AOp.bin (.int .i64 (f + 1)) rfl s76 rfl (iadd (by omega)) ?_)
            refine AOps.cons rfl rfl (AOp.move (.int .i64 (f + 1)) rfl rfl ?_)
            refine AOps.nil ?_
            exact ⟨_, by omega, f + 1, K, rfl, rfl, s77, s78, s79, s80, s81, s82, o86, no87, no90, no88, no89, h91, h94, h92, h93, m95, by omega, by omega, by exact fa_step hadd ha66, by exact Tells.same htk (fun y => (cont_end hf0 (by omega)).symm), by exact hkeysK, by exact hrngK⟩
      ·
        have h161 := m63 _ _ (hide_get e13 h56)
        have h162 := m63 _ _ (hide_get (Ne.symm e23) h58)
        have h163 := m63 _ _ (hide_get (Ne.symm e34) h59)
        have o164 := MO.hide_ o51 no53 m63
        have m165 := Mono.hide_ m60 z14 m63
        refine AOps.cons rfl rfl (AOp.not rfl rfl ?_)
        refine AOps.nil ?_
        change AWP _ _ _ _ _ _
        refine AWP.condT rfl rfl ?_
        refine AWP.seq ?_
        refine AWP.region (l := [0, 1, 2]) rfl ?_
        refine AOps.cons rfl rfl (AOp.build (cells := [.snil, .snil, .snil]) rfl tz_29 pl_29 rfl rfl ?_)
        refine AOps.cons rfl rfl (AOp.store' (cells' := [.snil, .snil, .snil]) (.agg [.snil, .snil, .snil]) s46 rfl ts_29 h161 rfl rfl rfl rfl ?_)
        intro H166 h167 k168
        have h170 := keep k168 (Ne.symm e22) h162
        have h171 := keep k168 (Ne.symm e33) h163
        have h172 := keep k168 (Ne.symm e13) h65
        have o173 := MO.keep o164 k168 no52
        have m174 := Mono.set m165 z6 k168
        refine AOps.cons rfl rfl (AOp.assign (.int .i64 14) rfl rfl ?_)
        refine AOps.nil ?_
        change AWP _ _ _ _ _ _
        refine AWP.ret ?_
        refine Fin.frzCell 0 (Own.nil H0 H166 1) h167 z6 rfl (NotId.nil _) m174 fun H175 h176 m177 k178 => ?_
        have h179 := (k178 _ (Ne.symm e22) (NotId.nil _)).trans h170
        have h180 := (k178 _ (Ne.symm e33) (NotId.nil _)).trans h171
        have h181 := (k178 _ (Ne.symm e13) (NotId.nil _)).trans h172
        have o182 := MO.stay2 o173 (SepM.nilR _) no52 k178
        have h183 : H175 i1 = some (.row 0 ([.sl 0 ([]), .snil, .snil])) := h176
        refine Fin.frzCell 1 (Own.nil H0 H175 1) h183 z6 rfl (NotId.nil _) m177 fun H184 h185 m186 k187 => ?_
        have h188 := (k187 _ (Ne.symm e22) (NotId.nil _)).trans h179
        have h189 := (k187 _ (Ne.symm e33) (NotId.nil _)).trans h180
        have h190 := (k187 _ (Ne.symm e13) (NotId.nil _)).trans h181
        have o191 := MO.stay2 o182 (SepM.nilR _) no52 k187
        have h192 : H184 i1 = some (.row 0 ([.sl 0 ([]), .sl 0 ([]), .snil])) := h185
        refine Fin.frzCell 2 (Own.nil H0 H184 1) h192 z6 rfl (NotId.nil _) m186 fun H193 h194 m195 k196 => ?_
        have h197 := (k196 _ (Ne.symm e22) (NotId.nil _)).trans h188
        have h198 := (k196 _ (Ne.symm e33) (NotId.nil _)).trans h189
        have h199 := (k196 _ (Ne.symm e13) (NotId.nil _)).trans h190
        have o200 := MO.stay2 o191 (SepM.nilR _) no52 k196
        have h201 : H193 i1 = some (.row 0 ([.sl 0 ([]), .sl 0 ([]), .sl 0 ([])])) := h194
        refine ⟨_, _, Ghost.refl, .inr rfl, _, Res.list rfl rfl (.cell (v := .agg [.sl 0 ([]), .sl 0 ([]), .sl 0 ([])]) s46 ty_29 h201 rfl (.tmp rfl (.nil))), ?_, m195⟩
        exact congrArg AV.tup (lc (congrArg AV.agg (lc (congrArg (fun l : List Ed => AV.sl l.length (l.flatMap eE)) (show ([] : List Ed) = (buildT n fs).ed from by rw [(build_no (fun h => ha66 (good_add.1 h.2.1 f hf0 (by omega)))).1])) (lc (congrArg (fun l : List (List Int) => AV.sl l.length (l.map eF)) (show ([] : List (List Int)) = (buildT n fs).fan from by rw [(build_no (fun h => ha66 (good_add.1 h.2.1 f hf0 (by omega)))).1])) (lc (congrArg (fun l : List Bool => AV.sl l.length (l.map eBo)) (show ([] : List Bool) = (buildT n fs).rnd from by rw [(build_no (fun h => ha66 (good_add.1 h.2.1 f hf0 (by omega)))).1])) rfl)))) (lc (congrArg (AV.int .i64) (show (14 : Int) = buildE n fs from by rw [(build_no (fun h => ha66 (good_add.1 h.2.1 f hf0 (by omega)))).2])) rfl))
    ·
      refine AWP.condF rfl (decide_eq_false b61) ?_
      refine AWP.exit ?_
      change AWP _ _ _ _ _ _
      refine AWP.seq ?_
      refine AWP.seq ?_
      refine AWP.region (l := [0, 1, 2, 3, 4, 5, 6, 7]) rfl ?_
      refine AOps.cons rfl rfl (AOp.move (.int .i64 n) rfl s45 ?_)
      refine AOps.cons rfl rfl (AOp.bin (.bool (decide (n < 0))) rfl rfl rfl rfl ?_)
      refine AOps.cons rfl rfl (AOp.move (.bool (decide (n < 0))) rfl rfl ?_)
      by_cases b202 : n < 0
      ·
        refine AOps.no rfl rfl rfl rfl rfl rfl rfl (ble_of (decide_eq_true b202) (by decide)) ?_
        refine AOps.no rfl rfl rfl rfl rfl rfl rfl (ble_of (decide_eq_true b202) (by decide)) ?_
        refine AOps.no rfl rfl rfl rfl rfl rfl rfl (ble_of (decide_eq_true b202) (by decide)) ?_
        refine AOps.no rfl rfl rfl rfl rfl rfl rfl (ble_of (decide_eq_true b202) (by decide)) ?_
        refine AOps.cons rfl rfl (AOp.pickT (.bool true) rfl rfl (decide_eq_true b202) rfl ?_)
        refine AOps.nil ?_
        change AWP _ _ _ _ _ _
        refine AWP.condT rfl rfl ?_
        refine AWP.seq ?_
        have hfe : f = fs.length := by omega
        skip
        refine AWP.region (l := [0, 1, 2]) rfl ?_
        refine AOps.cons rfl rfl (AOp.build (cells := [.snil, .snil, .snil]) rfl tz_29 pl_29 rfl rfl ?_)
        refine AOps.cons rfl rfl (AOp.store' (cells' := [.snil, .snil, .snil]) (.agg [.snil, .snil, .snil]) s46 rfl ts_29 h56 rfl rfl rfl rfl ?_)
        intro H203 h204 k205
        have h207 := keep k205 (Ne.symm e13) h57
        have h208 := keep k205 (Ne.symm e22) h58
        have h209 := keep k205 (Ne.symm e33) h59
        have o210 := MO.keep o51 k205 no52
        have m211 := Mono.set m60 z6 k205
        refine AOps.cons rfl rfl (AOp.assign (.int .i64 14) rfl rfl ?_)
        refine AOps.nil ?_
        change AWP _ _ _ _ _ _
        refine AWP.ret ?_
        refine Fin.frzCell 0 (Own.nil H0 H203 1) h204 z6 rfl (NotId.nil _) m211 fun H212 h213 m214 k215 => ?_
        have h216 := (k215 _ (Ne.symm e13) (NotId.nil _)).trans h207
        have h217 := (k215 _ (Ne.symm e22) (NotId.nil _)).trans h208
        have h218 := (k215 _ (Ne.symm e33) (NotId.nil _)).trans h209
        have o219 := MO.stay2 o210 (SepM.nilR _) no52 k215
        have h220 : H212 i1 = some (.row 0 ([.sl 0 ([]), .snil, .snil])) := h213
        refine Fin.frzCell 1 (Own.nil H0 H212 1) h220 z6 rfl (NotId.nil _) m214 fun H221 h222 m223 k224 => ?_
        have h225 := (k224 _ (Ne.symm e13) (NotId.nil _)).trans h216
        have h226 := (k224 _ (Ne.symm e22) (NotId.nil _)).trans h217
        have h227 := (k224 _ (Ne.symm e33) (NotId.nil _)).trans h218
        have o228 := MO.stay2 o219 (SepM.nilR _) no52 k224
        have h229 : H221 i1 = some (.row 0 ([.sl 0 ([]), .sl 0 ([]), .snil])) := h222
        refine Fin.frzCell 2 (Own.nil H0 H221 1) h229 z6 rfl (NotId.nil _) m223 fun H230 h231 m232 k233 => ?_
        have h234 := (k233 _ (Ne.symm e13) (NotId.nil _)).trans h225
        have h235 := (k233 _ (Ne.symm e22) (NotId.nil _)).trans h226
        have h236 := (k233 _ (Ne.symm e33) (NotId.nil _)).trans h227
        have o237 := MO.stay2 o228 (SepM.nilR _) no52 k233
        have h238 : H230 i1 = some (.row 0 ([.sl 0 ([]), .sl 0 ([]), .sl 0 ([])])) := h231
        refine ⟨_, _, Ghost.refl, .inr rfl, _, Res.list rfl rfl (.cell (v := .agg [.sl 0 ([]), .sl 0 ([]), .sl 0 ([])]) s46 ty_29 h238 rfl (.tmp rfl (.nil))), ?_, m232⟩
        exact congrArg AV.tup (lc (congrArg AV.agg (lc (congrArg (fun l : List Ed => AV.sl l.length (l.flatMap eE)) (show ([] : List Ed) = (buildT n fs).ed from by rw [(build_no (fun h => absurd h.1 (by omega))).1])) (lc (congrArg (fun l : List (List Int) => AV.sl l.length (l.map eF)) (show ([] : List (List Int)) = (buildT n fs).fan from by rw [(build_no (fun h => absurd h.1 (by omega))).1])) (lc (congrArg (fun l : List Bool => AV.sl l.length (l.map eBo)) (show ([] : List Bool) = (buildT n fs).rnd from by rw [(build_no (fun h => absurd h.1 (by omega))).1])) rfl)))) (lc (congrArg (AV.int .i64) (show (14 : Int) = buildE n fs from by rw [(build_no (fun h => absurd h.1 (by omega))).2])) rfl))
      ·
        refine AOps.yes rfl rfl rfl rfl rfl rfl rfl (decide_eq_false b202) (AOp.move (.map i28) rfl s48 ?_)
        refine AOps.yes rfl rfl rfl rfl rfl rfl rfl (decide_eq_false b202) (AOp.lenMap rfl rfl h59 u_55 ?_)
        refine AOps.yes rfl rfl rfl rfl rfl rfl rfl (decide_eq_false b202) (AOp.move (.int .i64 n) rfl s45 ?_)
        refine AOps.yes rfl rfl rfl rfl rfl rfl rfl (decide_eq_false b202) (AOp.bin (.bool (!decide ((((L.map eM).length) : Int) = n))) rfl rfl rfl ine ?_)
        refine AOps.cons rfl rfl (AOp.pickF (.bool (!decide ((((L.map eM).length) : Int) = n))) rfl rfl (decide_eq_false b202) rfl ?_)
        refine AOps.nil ?_
        change AWP _ _ _ _ _ _
        by_cases b239 : (((L.map eM).length) : Int) = n
        ·
          refine AWP.condF rfl (nb (decide_eq_true b239)) ?_
          refine AWP.skip ?_
          change AWP _ _ _ _ _ _
          refine AWP.seq ?_
          rw [psides_0, take_all (by omega)] at h57
          have hfe : f = fs.length := by omega
          have hg : goodS n fs := good_add.2 (fun g h0 h1 => hadd g h0 (by omega))
          rw [hfe] at htell
          refine AWP.region (l := [0, 1, 2, 3, 4]) rfl ?_
          refine AOps.cons rfl rfl (AOp.move (.ptr i17 0 0) rfl s47 ?_)
          refine AOps.cons rfl rfl (AOp.pcallH («as» := [.ptr i17 0 0]) rfl rfl (rfl) tf_24 (c24 _ (by assumption) (by assumption) _ (by omega) (by assumption) (by assumption) h58 h57) ?_)
          intro H240 m241
          have h242 := m241 _ _ h56
          have h243 := m241 _ _ h57
          have h244 := m241 _ _ h58
          have h245 := m241 _ _ h59
          have o246 := MO.mono o51 m241
          have m247 := m60.trans m241
          refine AOps.cons rfl rfl (AOp.build (cells := [.sl (eOut fs n n).length ((eOut fs n n).flatMap eE), .snil, .snil]) rfl tz_29 pl_29 rfl rfl ?_)
          refine AOps.cons rfl rfl (AOp.alloc rfl tz_29 ?_)
          intro i248 H249 n250 h251 k252
          have e253 := ne_new h242 n250
          have e254 := ne_new h243 n250
          have e255 := ne_new h244 n250
          have e256 := ne_new h245 n250
          have z257 := Mono.free m247 n250
          have h258 := keep k252 (ne_new h242 n250) h242
          have h259 := keep k252 (ne_new h243 n250) h243
          have h260 := keep k252 (ne_new h244 n250) h244
          have h261 := keep k252 (ne_new h245 n250) h245
          have o262 := MO.keep o246 k252 (MO.notnew o246 n250)
          have no263 := MO.notnew o246 n250
          have m264 := Mono.new m247 n250 k252
          refine AOps.cons rfl rfl (AOp.store' (cells' := [.sl (eOut fs n n).length ((eOut fs n n).flatMap eE), .snil, .snil]) (.agg [.sl (eOut fs n n).length ((eOut fs n n).flatMap eE), .snil, .snil]) rfl rfl ts_29 h251 rfl rfl rfl rfl ?_)
          intro H265 h266 k267
          have h268 := keep k267 e253 h258
          have h269 := keep k267 e254 h259
          have h270 := keep k267 e255 h260
          have h271 := keep k267 e256 h261
          have o273 := MO.keep o262 k267 no263
          have m274 := Mono.set m264 z257 k267
          refine AOps.nil ?_
          change AWP _ _ _ _ _ _
          refine AWP.seq ?_
          refine AWP.seq ?_
          refine AWP.region (l := [0, 1]) rfl ?_
          refine AOps.cons rfl rfl (AOp.move (.int .i64 n) rfl s45 ?_)
          refine AOps.cons rfl rfl (AOp.move (.int .i64 0) rfl rfl ?_)
          refine AOps.nil ?_
          change AWP _ _ _ _ _ _
          refine AWP.block ?_
          refine AWP.loop (fun q275 fq Hq => ∃ (c : Int) (w12_1 : AV) (w12_2 : AV), q275 = (n - c).toNat ∧ fq 64 = .int .i64 c ∧ fq 4 = .ptr i1 0 0 ∧ fq 6 = .ptr i17 0 0 ∧ fq 7 = .map i28 ∧ fq 12 = .ptr i248 0 0 ∧ fq 63 = .int .i64 n ∧ Own H0 Hq 1 w12_1 (fansU fs c).length ((fansU fs c).map eF) ∧ Own H0 Hq 1 w12_2 (rndU fs c).length ((rndU fs c).map eBo) ∧ NotId w12_1 i1 ∧ NotId w12_1 i8 ∧ NotId w12_1 i17 ∧ NotId w12_1 i28 ∧ NotId w12_1 i248 ∧ NotId w12_2 i1 ∧ NotId w12_2 i8 ∧ NotId w12_2 i17 ∧ NotId w12_2 i28 ∧ NotId w12_2 i248 ∧ Sep w12_1 w12_2 ∧ MO H0 Hq (L.filter (fun e => decide (c ≤ e.1))) ∧ NotIdM (L.filter (fun e => decide (c ≤ e.1))) i1 ∧ NotIdM (L.filter (fun e => decide (c ≤ e.1))) i8 ∧ NotIdM (L.filter (fun e => decide (c ≤ e.1))) i17 ∧ NotIdM (L.filter (fun e => decide (c ≤ e.1))) i28 ∧ NotIdM (L.filter (fun e => decide (c ≤ e.1))) i248 ∧ SepM (L.filter (fun e => decide (c ≤ e.1))) w12_1 ∧ SepM (L.filter (fun e => decide (c ≤ e.1))) w12_2 ∧ Hq i1 = some (.row 0 ([.snil, .snil, .snil])) ∧ Hq i8 = some (.map ((sides fs).map eS)) ∧ Hq i17 = some (.row 0 ([.sl fs.length (fs.map eF), .map i8])) ∧ Hq i28 = some (.map (L.map eM)) ∧ Hq i248 = some (.row 0 ([.sl (eOut fs n n).length ((eOut fs n n).flatMap eE), w12_1, w12_2])) ∧ Mono H0 Hq ∧ (0 ≤ c) ∧ (c ≤ n) ∧ (∀ j : Int, 0 ≤ j → j < c → fanOK fs j = true)) (k := (n - 0).toNat) ?_ ?_
          ·
            exact ⟨0, .snil, .snil, rfl, rfl, s46, s47, s48, rfl, rfl, Own.nil _ _ _, Own.nil _ _ _, (NotId.nil _), (NotId.nil _), (NotId.nil _), (NotId.nil _), (NotId.nil _), (NotId.nil _), (NotId.nil _), (NotId.nil _), (NotId.nil _), (NotId.nil _), (Sep.nilL _), ((filter_start (fun e he => (hrng e he).1)) ▸ o273), ((filter_start (fun e he => (hrng e he).1)) ▸ no52), ((filter_start (fun e he => (hrng e he).1)) ▸ no53), ((filter_start (fun e he => (hrng e he).1)) ▸ no54), ((filter_start (fun e he => (hrng e he).1)) ▸ no55), ((filter_start (fun e he => (hrng e he).1)) ▸ no263), ((filter_start (fun e he => (hrng e he).1)) ▸ (SepM.nilR _)), ((filter_start (fun e he => (hrng e he).1)) ▸ (SepM.nilR _)), h268, h269, h270, h271, h266, m274, by omega, by omega, by intro j; omega⟩
          ·
            rintro _ f277 H276 ⟨c, w12_1, w12_2, rfl, s278, s279, s280, s281, s282, s283, o284, o285, no286, no287, no288, no289, no290, no291, no292, no293, no294, no295, sp296, o297, no298, no299, no300, no301, no302, sp303, sp304, h305, h306, h307, h308, h309, m310, hc0, hc1, hf⟩
            refine AWP.seq ?_
            refine AWP.region (l := [0]) rfl ?_
            refine AOps.cons rfl rfl (AOp.bin (.bool (decide (c < n))) rfl s278 s283 rfl ?_)
            refine AOps.nil ?_
            change AWP _ _ _ _ _ _
            refine AWP.seq ?_
            by_cases b311 : c < n
            ·
              refine AWP.condT rfl (decide_eq_true b311) ?_
              refine AWP.skip ?_
              change AWP _ _ _ _ _ _
              refine AWP.seq ?_
              refine AWP.block ?_
              refine AWP.seq ?_
              refine AWP.region (l := [0, 1]) rfl ?_
              refine AOps.cons rfl rfl (AOp.move (.int .i64 c) rfl s278 ?_)
              refine AOps.cons rfl rfl (AOp.assign (.int .i64 c) rfl rfl ?_)
              refine AOps.nil ?_
              change AWP _ _ _ _ _ _
              refine AWP.seq ?_
              refine AWP.region (l := [0, 1, 2, 3, 4, 5, 6, 7, 8, 9, 10, 11, 12]) rfl ?_
              refine AOps.cons rfl rfl (AOp.move (.ptr i17 0 0) rfl s280 ?_)
              refine AOps.cons rfl rfl (AOp.move (.int .i64 c) rfl rfl ?_)
              refine AOps.cons rfl rfl (AOp.move (.map i28) rfl s281 ?_)
              refine AOps.cons rfl rfl (AOp.move (.int .i64 c) rfl rfl ?_)
              obtain ⟨w312, hw313⟩ : ∃ w, w = (getM L c).1 := ⟨_, rfl⟩
              obtain ⟨oA314, oB315, oC316⟩ := MO.take_at o297 (htell.get c)
              rw [← hw313] at oA314 oC316
              have no317 := NotIdM.get no298 c
              rw [getM_filter, ← hw313] at no317
              have no318 := NotIdM.rest no298 c
              have no319 := NotIdM.get no299 c
              rw [getM_filter, ← hw313] at no319
              have no320 := NotIdM.rest no299 c
              have no321 := NotIdM.get no300 c
              rw [getM_filter, ← hw313] at no321
              have no322 := NotIdM.rest no300 c
              have no323 := NotIdM.get no301 c
              rw [getM_filter, ← hw313] at no323
              have no324 := NotIdM.rest no301 c
              have no325 := NotIdM.get no302 c
              rw [getM_filter, ← hw313] at no325
              have no326 := NotIdM.rest no302 c
              have sp327 := SepM.get sp303 c
              rw [getM_filter, ← hw313] at sp327
              have sp328 := SepM.rest sp303 c
              have sp329 := SepM.get sp304 c
              rw [getM_filter, ← hw313] at sp329
              have sp330 := SepM.rest sp304 c
              refine AOps.cons rfl rfl (AOp.lookup' rfl rfl h308 rfl (kok3 ⟨by omega, by omega⟩) (kesM hrng hn) tm55 tzv_35 ((mgetM L c).trans hw313.symm) ?_)
              refine AOps.cons rfl rfl ?_
              refine AOp.frz 72 oA314 rfl m310 fun H331 m332 k333 => ?_
              have h334 := (k333 _ no317).trans h305
              have h335 := (k333 _ no319).trans h306
              have h336 := (k333 _ no321).trans h307
              have h337 := (k333 _ no323).trans h308
              have h338 := (k333 _ no325).trans h309
              have o339 := Own.stay o284 (Sep.symm sp327) (fun i hi _ => k333 i hi)
              have o340 := Own.stay o285 (Sep.symm sp329) (fun i hi _ => k333 i hi)
              have o341 := MO.stay oB315 oC316 (fun i hi _ => k333 i hi)
              refine AOp.pcallH («as» := [.ptr i17 0 0, .int .i64 c, .sl (mineU fs c fs.length).length ((mineU fs c fs.length).map eI)]) rfl rfl (rfl) tf_25 (c25 _ (by assumption) (by assumption) _ _ (by omega) (by omega) (by assumption) h336 h335) ?_
              intro H342 m343
              have h344 := m343 _ _ h334
              have h345 := m343 _ _ h335
              have h346 := m343 _ _ h336
              have h347 := m343 _ _ h337
              have h348 := m343 _ _ h338
              have o349 := Own.mono o339 m343
              have o350 := Own.mono o340 m343
              have o351 := MO.mono o341 m343
              have m352 := m332.trans m343
              refine AOps.cons rfl rfl (AOp.move (.tup [.sl (fanL fs c).length ((fanL fs c).map eI), .bool (fanR fs c), .bool (fanOK fs c)]) rfl rfl ?_)
              refine AOps.cons rfl rfl (AOp.extract (.sl (fanL fs c).length ((fanL fs c).map eI)) rfl rfl rfl ?_)
              refine AOps.cons rfl rfl (AOp.extract (.bool (fanR fs c)) rfl rfl rfl ?_)
              refine AOps.cons rfl rfl (AOp.extract (.bool (fanOK fs c)) rfl rfl rfl ?_)
              refine AOps.cons rfl rfl (AOp.assign (.sl (fanL fs c).length ((fanL fs c).map eI)) rfl rfl ?_)
              refine AOps.cons rfl rfl (AOp.assign (.bool (fanR fs c)) rfl rfl ?_)
              refine AOps.cons rfl rfl (AOp.assign (.bool (fanOK fs c)) rfl rfl ?_)
              refine AOps.nil ?_
              change AWP _ _ _ _ _ _
              refine AWP.seq ?_
              refine AWP.seq ?_
              refine AWP.region (l := [0, 1]) rfl ?_
              refine AOps.cons rfl rfl (AOp.move (.bool (fanOK fs c)) rfl rfl ?_)
              refine AOps.cons rfl rfl (AOp.not rfl rfl ?_)
              refine AOps.nil ?_
              change AWP _ _ _ _ _ _
              rcases Bool.eq_false_or_eq_true (fanOK fs c) with b353 | b353
              ·
                refine AWP.condF rfl (nb b353) ?_
                refine AWP.skip ?_
                change AWP _ _ _ _ _ _
                refine AWP.seq ?_
                have hl3 : (fansU fs c).length ≤ 1000 := by simp [fansU]; omega
                have hl4 : (rndU fs c).length ≤ 1000 := by simp [rndU]; omega
                refine AWP.region (l := [0, 1, 2, 3, 4, 5, 6]) rfl ?_
                refine AOps.cons rfl rfl (AOp.fieldAddr rfl s282 fl_29_1 ?_ (hid := ⟨_, h348⟩))
                refine AOps.cons rfl rfl (AOp.load (w12_1) rfl rfl ty_22 h348 rfl ?_)
                refine AOps.cons rfl rfl (AOp.move (.sl (fanL fs c).length ((fanL fs c).map eI)) rfl rfl ?_)
                refine AOps.cons rfl rfl (AOp.buildSlice (cells := [.sl (fanL fs c).length ((fanL fs c).map eI)]) rfl u_22 ts_35 tz_35 rfl rfl rfl ?_)
                intro i354 H355 n356 h357 k358
                have e359 := ne_new h344 n356
                have e360 := ne_new h345 n356
                have e361 := ne_new h346 n356
                have e362 := ne_new h347 n356
                have e363 := ne_new h348 n356
                have z364 := Mono.free m352 n356
                have h365 := keep k358 (ne_new h344 n356) h344
                have h366 := keep k358 (ne_new h345 n356) h345
                have h367 := keep k358 (ne_new h346 n356) h346
                have h368 := keep k358 (ne_new h347 n356) h347
                have h369 := keep k358 (ne_new h348 n356) h348
                have o370 := Own.keep o349 k358 (Own.notnew o349 n356)
                have no371 := Own.notnew o349 n356
                have o372 := Own.keep o350 k358 (Own.notnew o350 n356)
                have no373 := Own.notnew o350 n356
                have o374 := MO.keep o351 k358 (MO.notnew o351 n356)
                have no375 := MO.notnew o351 n356
                have m376 := Mono.new m352 n356 k358
                refine AOps.cons rfl rfl (AOp.append_own (es := 1) (m := 1) (len := ((fansU fs c).length)) (old := (fansU fs c).map eF) (cells := [.sl (fanL fs c).length ((fanL fs c).map eI)]) rfl u_22 ts_35 tzn_35 tb_35 (by decide) ni_22 rfl o370 m376 rfl (.slm h357 rfl) (one_of rfl) (by decide) (by first | omega | (simp; omega)) ?_)
                intro v377 H378 o379 m380 k381 j382
                have o383 := Own.snoc1 (xs := ((fansU fs c) : List (List Int))) (y := fanL fs c) (e := eF) (by simp) o379
                have h384 := (k381 _ no286 (by rw [h365]; simp)).trans h365
                have no385 := j382 _ no286 (by rw [h365]; simp)
                have h386 := (k381 _ no287 (by rw [h366]; simp)).trans h366
                have no387 := j382 _ no287 (by rw [h366]; simp)
                have h388 := (k381 _ no288 (by rw [h367]; simp)).trans h367
                have no389 := j382 _ no288 (by rw [h367]; simp)
                have h390 := (k381 _ no289 (by rw [h368]; simp)).trans h368
                have no391 := j382 _ no289 (by rw [h368]; simp)
                have h392 := (k381 _ no290 (by rw [h369]; simp)).trans h369
                have no393 := j382 _ no290 (by rw [h369]; simp)
                have sp395 := Own.sep o372 (Sep.symm sp296) j382
                have o394 := Own.stay o372 (Sep.symm sp296) k381
                have sp397 := MO.sep o374 sp328 j382
                have o396 := MO.stay o374 sp328 k381
                refine AOps.cons rfl rfl (AOp.fieldAddr rfl s282 fl_29_1 ?_ (hid := ⟨_, h392⟩))
                refine AOps.cons rfl rfl (AOp.storeO (cells' := [.sl (eOut fs n n).length ((eOut fs n n).flatMap eE), v377, w12_2]) rfl rfl o383 ts_22 h392 rfl rfl ?_)
                intro H398 h399 k400
                have h401 := keep k400 e253 h384
                have h402 := keep k400 e254 h386
                have h403 := keep k400 e255 h388
                have h404 := keep k400 e256 h390
                have o406 := Own.keep o394 k400 no295
                have o407 := MO.keep o396 k400 no326
                have o408 := Own.keep o383 k400 no393
                have m409 := Mono.set m380 z257 k400
                refine AOps.nil ?_
                change AWP _ _ _ _ _ _
                refine AWP.region (l := [0, 1, 2, 3, 4, 5, 6]) rfl ?_
                refine AOps.cons rfl rfl (AOp.fieldAddr rfl s282 fl_29_2 ?_ (hid := ⟨_, h399⟩))
                refine AOps.cons rfl rfl (AOp.load (w12_2) rfl rfl ty_27 h399 rfl ?_)
                refine AOps.cons rfl rfl (AOp.move (.bool (fanR fs c)) rfl rfl ?_)
                refine AOps.cons rfl rfl (AOp.buildSlice (cells := [.bool (fanR fs c)]) rfl u_27 ts_4 tz_4 rfl rfl rfl ?_)
                intro i410 H411 n412 h413 k414
                have e415 := ne_new h401 n412
                have e416 := ne_new h402 n412
                have e417 := ne_new h403 n412
                have e418 := ne_new h404 n412
                have e419 := ne_new h399 n412
                have z420 := Mono.free m409 n412
                have h421 := keep k414 (ne_new h401 n412) h401
                have h422 := keep k414 (ne_new h402 n412) h402
                have h423 := keep k414 (ne_new h403 n412) h403
                have h424 := keep k414 (ne_new h404 n412) h404
                have h425 := keep k414 (ne_new h399 n412) h399
                have o426 := Own.keep o406 k414 (Own.notnew o406 n412)
                have no427 := Own.notnew o406 n412
                have o428 := MO.keep o407 k414 (MO.notnew o407 n412)
                have no429 := MO.notnew o407 n412
                have o430 := Own.keep o408 k414 (Own.notnew o408 n412)
                have no431 := Own.notnew o408 n412
                have m432 := Mono.new m409 n412 k414
                refine AOps.cons rfl rfl (AOp.append_own (es := 1) (m := 1) (len := ((rndU fs c).length)) (old := (rndU fs c).map eBo) (cells := [.bool (fanR fs c)]) rfl u_27 ts_4 tzn_4 tb_4 (by decide) ni_27 rfl o426 m432 rfl (.slm h413 rfl) (one_of rfl) (by decide) (by first | omega | (simp; omega)) ?_)
                intro v433 H434 o435 m436 k437 j438
                have o439 := Own.snoc1 (xs := ((rndU fs c) : List Bool)) (y := fanR fs c) (e := eBo) (by simp) o435
                have h440 := (k437 _ no291 (by rw [h421]; simp)).trans h421
                have no441 := j438 _ no291 (by rw [h421]; simp)
                have h442 := (k437 _ no292 (by rw [h422]; simp)).trans h422
                have no443 := j438 _ no292 (by rw [h422]; simp)
                have h444 := (k437 _ no293 (by rw [h423]; simp)).trans h423
                have no445 := j438 _ no293 (by rw [h423]; simp)
                have h446 := (k437 _ no294 (by rw [h424]; simp)).trans h424
                have no447 := j438 _ no294 (by rw [h424]; simp)
                have h448 := (k437 _ no295 (by rw [h425]; simp)).trans h425
                have no449 := j438 _ no295 (by rw [h425]; simp)
                have sp451 := MO.sep o428 sp330 j438
                have o450 := MO.stay o428 sp330 k437
                have sp453 := Own.sep o430 (Sep.symm sp395) j438
                have o452 := Own.stay o430 (Sep.symm sp395) k437
                refine AOps.cons rfl rfl (AOp.fieldAddr rfl s282 fl_29_2 ?_ (hid := ⟨_, h448⟩))
                refine AOps.cons rfl rfl (AOp.storeO (cells' := [.sl (eOut fs n n).length ((eOut fs n n).flatMap eE), v377, v433]) rfl rfl o439 ts_27 h448 rfl rfl ?_)
                intro H454 h455 k456
                have h457 := keep k456 e253 h440
                have h458 := keep k456 e254 h442
                have h459 := keep k456 e255 h444
                have h460 := keep k456 e256 h446
                have o462 := MO.keep o450 k456 no326
                have o463 := Own.keep o452 k456 no393
                have o464 := Own.keep o439 k456 no449
                have m465 := Mono.set m436 z257 k456
                refine AOps.nil ?_
                change AWP _ _ _ _ _ _
                refine AWP.region (l := [0, 1]) rfl ?_
                refine AOps.cons rfl rfl (AOp.bin (.int .i64 (c + 1)) rfl s278 rfl (iadd (by omega)) ?_)
                refine AOps.cons rfl rfl (AOp.move (.int .i64 (c + 1)) rfl rfl ?_)
                refine AOps.nil ?_
                exact ⟨_, by omega, c + 1, v377, v433, rfl, rfl, s279, s280, s281, s282, s283, (have hx : (((fansU fs c) ++ [fanL fs c]) : List (List Int)) = fansU fs (c + 1) := (by rw [fansU_step hc0]); Own.re o463 (congrArg List.length hx) (congrArg (fun l : List (List Int) => l.map eF) hx)), (have hx : (((rndU fs c) ++ [fanR fs c]) : List Bool) = rndU fs (c + 1) := (by rw [rndU_step hc0]); Own.re o464 (congrArg List.length hx) (congrArg (fun l : List Bool => l.map eBo) hx)), no385, no387, no389, no391, no393, no441, no443, no445, no447, no449, sp453, (filter_step ▸ o462), (filter_step ▸ no318), (filter_step ▸ no320), (filter_step ▸ no322), (filter_step ▸ no324), (filter_step ▸ no326), (filter_step ▸ sp397), (filter_step ▸ sp451), h457, h458, h459, h460, h455, m465, by omega, by omega, by exact fa_step hf b353⟩
              ·
                refine AWP.condT rfl (nb b353) ?_
                refine AWP.seq ?_
                refine AWP.region (l := [0, 1, 2]) rfl ?_
                refine AOps.cons rfl rfl (AOp.build (cells := [.snil, .snil, .snil]) rfl tz_29 pl_29 rfl rfl ?_)
                refine AOps.cons rfl rfl (AOp.store' (cells' := [.snil, .snil, .snil]) (.agg [.snil, .snil, .snil]) s279 rfl ts_29 h344 rfl rfl rfl rfl ?_)
                intro H466 h467 k468
                have h470 := keep k468 (Ne.symm e13) h345
                have h471 := keep k468 (Ne.symm e22) h346
                have h472 := keep k468 (Ne.symm e33) h347
                have h473 := keep k468 (Ne.symm e253) h348
                have o474 := Own.keep o349 k468 no286
                have o475 := Own.keep o350 k468 no291
                have o476 := MO.keep o351 k468 no318
                have m477 := Mono.set m352 z6 k468
                refine AOps.cons rfl rfl (AOp.assign (.int .i64 14) rfl rfl ?_)
                refine AOps.nil ?_
                change AWP _ _ _ _ _ _
                refine AWP.ret ?_
                refine Fin.frzCell 0 (Own.nil H0 H466 1) h467 z6 rfl (NotId.nil _) m477 fun H478 h479 m480 k481 => ?_
                have h482 := (k481 _ (Ne.symm e13) (NotId.nil _)).trans h470
                have h483 := (k481 _ (Ne.symm e22) (NotId.nil _)).trans h471
                have h484 := (k481 _ (Ne.symm e33) (NotId.nil _)).trans h472
                have h485 := (k481 _ (Ne.symm e253) (NotId.nil _)).trans h473
                have o486 := Own.stay2 o474 (Sep.nilR _) no286 k481
                have o487 := Own.stay2 o475 (Sep.nilR _) no291 k481
                have o488 := MO.stay2 o476 (SepM.nilR _) no318 k481
                have h489 : H478 i1 = some (.row 0 ([.sl 0 ([]), .snil, .snil])) := h479
                refine Fin.frzCell 1 (Own.nil H0 H478 1) h489 z6 rfl (NotId.nil _) m480 fun H490 h491 m492 k493 => ?_
                have h494 := (k493 _ (Ne.symm e13) (NotId.nil _)).trans h482
                have h495 := (k493 _ (Ne.symm e22) (NotId.nil _)).trans h483
                have h496 := (k493 _ (Ne.symm e33) (NotId.nil _)).trans h484
                have h497 := (k493 _ (Ne.symm e253) (NotId.nil _)).trans h485
                have o498 := Own.stay2 o486 (Sep.nilR _) no286 k493
                have o499 := Own.stay2 o487 (Sep.nilR _) no291 k493
                have o500 := MO.stay2 o488 (SepM.nilR _) no318 k493
                have h501 : H490 i1 = some (.row 0 ([.sl 0 ([]), .sl 0 ([]), .snil])) := h491
                refine Fin.frzCell 2 (Own.nil H0 H490 1) h501 z6 rfl (NotId.nil _) m492 fun H502 h503 m504 k505 => ?_
                have h506 := (k505 _ (Ne.symm e13) (NotId.nil _)).trans h494
                have h507 := (k505 _ (Ne.symm e22) (NotId.nil _)).trans h495
                have h508 := (k505 _ (Ne.symm e33) (NotId.nil _)).trans h496
                have h509 := (k505 _ (Ne.symm e253) (NotId.nil _)).trans h497
                have o510 := Own.stay2 o498 (Sep.nilR _) no286 k505
                have o511 := Own.stay2 o499 (Sep.nilR _) no291 k505
                have o512 := MO.stay2 o500 (SepM.nilR _) no318 k505
                have h513 : H502 i1 = some (.row 0 ([.sl 0 ([]), .sl 0 ([]), .sl 0 ([])])) := h503
                refine ⟨_, _, Ghost.refl, .inr rfl, _, Res.list rfl rfl (.cell (v := .agg [.sl 0 ([]), .sl 0 ([]), .sl 0 ([])]) s279 ty_29 h513 rfl (.tmp rfl (.nil))), ?_, m504⟩
                exact congrArg AV.tup (lc (congrArg AV.agg (lc (congrArg (fun l : List Ed => AV.sl l.length (l.flatMap eE)) (show ([] : List Ed) = (buildT n fs).ed from by rw [(build_no (fun h => absurd (h.2.2 c hc0 (by omega)) (by simp [b353]))).1])) (lc (congrArg (fun l : List (List Int) => AV.sl l.length (l.map eF)) (show ([] : List (List Int)) = (buildT n fs).fan from by rw [(build_no (fun h => absurd (h.2.2 c hc0 (by omega)) (by simp [b353]))).1])) (lc (congrArg (fun l : List Bool => AV.sl l.length (l.map eBo)) (show ([] : List Bool) = (buildT n fs).rnd from by rw [(build_no (fun h => absurd (h.2.2 c hc0 (by omega)) (by simp [b353]))).1])) rfl)))) (lc (congrArg (AV.int .i64) (show (14 : Int) = buildE n fs from by rw [(build_no (fun h => absurd (h.2.2 c hc0 (by omega)) (by simp [b353]))).2])) rfl))
            ·
              refine AWP.condF rfl (decide_eq_false b311) ?_
              refine AWP.exit ?_
              change AWP _ _ _ _ _ _
              refine AWP.seq ?_
              have hcn : c = n := by omega
              have hok : okS n fs := ⟨by omega, hg, fun j h1 h2 => hf j h1 (by omega)⟩
              refine AWP.region (l := [0, 1, 2]) rfl ?_
              refine AOps.cons rfl rfl (AOp.load (.agg [.sl (eOut fs n n).length ((eOut fs n n).flatMap eE), w12_1, w12_2]) rfl s282 ty_29 h309 rfl ?_)
              refine AOps.cons rfl rfl (AOp.store' (cells' := [.sl (eOut fs n n).length ((eOut fs n n).flatMap eE), w12_1, w12_2]) (.agg [.sl (eOut fs n n).length ((eOut fs n n).flatMap eE), w12_1, w12_2]) s279 rfl ts_29 h305 (by simp only [AV.cells, List.all_cons, List.all_nil, Own.one_ o284, Own.one_ o285]; rfl) rfl rfl rfl ?_)
              intro H514 h515 k516
              have h518 := keep k516 (Ne.symm e13) h306
              have h519 := keep k516 (Ne.symm e22) h307
              have h520 := keep k516 (Ne.symm e33) h308
              have h521 := keep k516 (Ne.symm e253) h309
              have o522 := Own.keep o284 k516 no286
              have o523 := Own.keep o285 k516 no291
              have o524 := MO.keep o297 k516 no298
              have m525 := Mono.set m310 z6 k516
              refine AOps.cons rfl rfl (AOp.assign (.int .i64 0) rfl rfl ?_)
              refine AOps.nil ?_
              change AWP _ _ _ _ _ _
              refine AWP.ret ?_
              refine Fin.frzCell 1 o522 h515 z6 rfl no286 m525 fun H526 h527 m528 k529 => ?_
              have h530 := (k529 _ (Ne.symm e13) no287).trans h518
              have h531 := (k529 _ (Ne.symm e22) no288).trans h519
              have h532 := (k529 _ (Ne.symm e33) no289).trans h520
              have h533 := (k529 _ (Ne.symm e253) no290).trans h521
              have o534 := Own.stay2 o523 (Sep.symm sp296) no291 k529
              have o535 := MO.stay2 o524 sp303 no298 k529
              have h536 : H526 i1 = some (.row 0 ([.sl (eOut fs n n).length ((eOut fs n n).flatMap eE), .sl (fansU fs c).length ((fansU fs c).map eF), w12_2])) := h527
              refine Fin.frzCell 2 o534 h536 z6 rfl no291 m528 fun H537 h538 m539 k540 => ?_
              have h541 := (k540 _ (Ne.symm e13) no292).trans h530
              have h542 := (k540 _ (Ne.symm e22) no293).trans h531
              have h543 := (k540 _ (Ne.symm e33) no294).trans h532
              have h544 := (k540 _ (Ne.symm e253) no295).trans h533
              have o545 := MO.stay2 o535 sp304 no298 k540
              have h546 : H537 i1 = some (.row 0 ([.sl (eOut fs n n).length ((eOut fs n n).flatMap eE), .sl (fansU fs c).length ((fansU fs c).map eF), .sl (rndU fs c).length ((rndU fs c).map eBo)])) := h538
              refine ⟨_, _, Ghost.refl, .inr rfl, _, Res.list rfl rfl (.cell (v := .agg [.sl (eOut fs n n).length ((eOut fs n n).flatMap eE), .sl (fansU fs c).length ((fansU fs c).map eF), .sl (rndU fs c).length ((rndU fs c).map eBo)]) s279 ty_29 h546 rfl (.tmp rfl (.nil))), ?_, m539⟩
              exact congrArg AV.tup (lc (congrArg AV.agg (lc (congrArg (fun l : List Ed => AV.sl l.length (l.flatMap eE)) (show (eOut fs n n : List Ed) = (buildT n fs).ed from by simp only [(build_ok hok).1, hcn])) (lc (congrArg (fun l : List (List Int) => AV.sl l.length (l.map eF)) (show ((fansU fs c) : List (List Int)) = (buildT n fs).fan from by simp only [(build_ok hok).1, hcn])) (lc (congrArg (fun l : List Bool => AV.sl l.length (l.map eBo)) (show ((rndU fs c) : List Bool) = (buildT n fs).rnd from by simp only [(build_ok hok).1, hcn])) rfl)))) (lc (congrArg (AV.int .i64) (show (0 : Int) = buildE n fs from by simp only [(build_ok hok).2, hcn])) rfl))
        ·
          refine AWP.condT rfl (nb (decide_eq_false b239)) ?_
          refine AWP.seq ?_
          have hfe : f = fs.length := by omega
          have hcnt : ¬ (∀ x : Int, 0 ≤ x → x < n → ∃ e ∈ L, e.1 = x) := fun h => by have := (keys_count hkeys hrng (by omega)).2 h; simp only [List.length_map] at *; omega
          refine AWP.region (l := [0, 1, 2]) rfl ?_
          refine AOps.cons rfl rfl (AOp.build (cells := [.snil, .snil, .snil]) rfl tz_29 pl_29 rfl rfl ?_)
          refine AOps.cons rfl rfl (AOp.store' (cells' := [.snil, .snil, .snil]) (.agg [.snil, .snil, .snil]) s46 rfl ts_29 h56 rfl rfl rfl rfl ?_)
          intro H547 h548 k549
          have h551 := keep k549 (Ne.symm e13) h57
          have h552 := keep k549 (Ne.symm e22) h58
          have h553 := keep k549 (Ne.symm e33) h59
          have o554 := MO.keep o51 k549 no52
          have m555 := Mono.set m60 z6 k549
          refine AOps.cons rfl rfl (AOp.assign (.int .i64 14) rfl rfl ?_)
          refine AOps.nil ?_
          change AWP _ _ _ _ _ _
          refine AWP.ret ?_
          refine Fin.frzCell 0 (Own.nil H0 H547 1) h548 z6 rfl (NotId.nil _) m555 fun H556 h557 m558 k559 => ?_
          have h560 := (k559 _ (Ne.symm e13) (NotId.nil _)).trans h551
          have h561 := (k559 _ (Ne.symm e22) (NotId.nil _)).trans h552
          have h562 := (k559 _ (Ne.symm e33) (NotId.nil _)).trans h553
          have o563 := MO.stay2 o554 (SepM.nilR _) no52 k559
          have h564 : H556 i1 = some (.row 0 ([.sl 0 ([]), .snil, .snil])) := h557
          refine Fin.frzCell 1 (Own.nil H0 H556 1) h564 z6 rfl (NotId.nil _) m558 fun H565 h566 m567 k568 => ?_
          have h569 := (k568 _ (Ne.symm e13) (NotId.nil _)).trans h560
          have h570 := (k568 _ (Ne.symm e22) (NotId.nil _)).trans h561
          have h571 := (k568 _ (Ne.symm e33) (NotId.nil _)).trans h562
          have o572 := MO.stay2 o563 (SepM.nilR _) no52 k568
          have h573 : H565 i1 = some (.row 0 ([.sl 0 ([]), .sl 0 ([]), .snil])) := h566
          refine Fin.frzCell 2 (Own.nil H0 H565 1) h573 z6 rfl (NotId.nil _) m567 fun H574 h575 m576 k577 => ?_
          have h578 := (k577 _ (Ne.symm e13) (NotId.nil _)).trans h569
          have h579 := (k577 _ (Ne.symm e22) (NotId.nil _)).trans h570
          have h580 := (k577 _ (Ne.symm e33) (NotId.nil _)).trans h571
          have o581 := MO.stay2 o572 (SepM.nilR _) no52 k577
          have h582 : H574 i1 = some (.row 0 ([.sl 0 ([]), .sl 0 ([]), .sl 0 ([])])) := h575
          refine ⟨_, _, Ghost.refl, .inr rfl, _, Res.list rfl rfl (.cell (v := .agg [.sl 0 ([]), .sl 0 ([]), .sl 0 ([])]) s46 ty_29 h582 rfl (.tmp rfl (.nil))), ?_, m576⟩
          exact congrArg AV.tup (lc (congrArg AV.agg (lc (congrArg (fun l : List Ed => AV.sl l.length (l.flatMap eE)) (show ([] : List Ed) = (buildT n fs).ed from by rw [(build_no (fun h => hcnt (ok_full h (by rw [← hfe]; exact htell)))).1])) (lc (congrArg (fun l : List (List Int) => AV.sl l.length (l.map eF)) (show ([] : List (List Int)) = (buildT n fs).fan from by rw [(build_no (fun h => hcnt (ok_full h (by rw [← hfe]; exact htell)))).1])) (lc (congrArg (fun l : List Bool => AV.sl l.length (l.map eBo)) (show ([] : List Bool) = (buildT n fs).rnd from by rw [(build_no (fun h => hcnt (ok_full h (by rw [← hfe]; exact htell)))).1])) rfl)))) (lc (congrArg (AV.int .i64) (show (14 : Int) = buildE n fs from by rw [(build_no (fun h => hcnt (ok_full h (by rw [← hfe]; exact htell)))).2])) rfl))
end Go.Proofs.T
