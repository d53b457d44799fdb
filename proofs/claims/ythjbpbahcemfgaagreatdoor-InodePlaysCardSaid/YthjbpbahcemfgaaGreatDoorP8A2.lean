/- InodePlays: an arm of its walk (2). -/
import Derived.Test.YthjbpbahcemfgaaGreatDoorP8B
namespace Go.Proofs.YthjbpbahcemfgaaGreatDoor
set_option linter.unusedVariables false
set_option linter.unusedSimpArgs false
open Go.RowKit
set_option maxHeartbeats 40000000
set_option maxRecDepth 20000
theorem plays8_arm2 : TA2 plays8_base := by
  unfold TA2
  intro w a len cap hlen hcap q nbl hn1 hn59 q3 He y1 w1 bt bx bc bj bm bd F w2 y2 y3 w3 bq gk wr u4 u10 u11 u12 u13 u14 u15 u16 u17 u18 u19 u20 u21 u22 u23 u24 u25 u26 u27 u28 u29 u46 u47 u48 u49 u50 u51 u52 u53 u54 u55 y4 y5 y6 y7 y8 y9 y10 y11 y12 y13 y14 y15 y16 y17 y18 y19 y20 y21 y22 y23 y24 y25 y26 y27 y28 y29 y30 y31 y32 y33 y34 y35 y36 y37 y38 y39 y40 y41 y42 y43 y44 y45 y46 y47 y48 y49 y50 y51 y52 y53 y54 y55 y56 y57 y58 y59 y60 y61 y62 y63 y64 y65 y66 y67 y68 y69 y70 y71 y72 y73 y74 y75 y76 y77 y78 y79 y80 y81 y82 y83 y84 y85 y86 y87 y88 y89 y90 y91 y92 y93 y94 y95 y96 y97 y98 y99 y100 y101 y102 y103 y104 y105 y106 y107 y108 y109 y110 y111 y112 y113 y114 y115 y116 y117 y118 y119 y120 y121 y122 y123 y124 y125 y126 y127 y128 y129 y130 y131 y132 y133 y134 y135 y136 y137 y138 y139 y140 y141 y142 y143 y144 y145 y146 y147 y148 y149 y150 y151 y152 y153 y154 y155 y156 y157 y158 y159 y160 y161 y162 y163 y164 y165 y166 y167 y168 y169 y170 y171 y172 y173 y174 y175 y176 y177 y178 y179 y180 y181 y182 y183 y184 y185 y186 y187 y188 y189 y190 y191 y192 y193 y194 y195 y196 y197 y198 y199 y200 y201 y202 y203 y204 y205 y206 y207 y208 y209 y210 y211 y212 y213 y214 y215 y216 y217 y218 y219 y220 y221 y222 y223 y224 y225 y226 y227 y228 y229 y230 y231 y232 y233 y234 y235 y236 y237 y238 y239 y240 y241 y242 y243 y244 y245 y246 y247 y248 y249 y250 y251 y252 y253 y254 y255 y256 y257 y258 y259 y260 y261 y262 y263 y264 y265 y266 y267 y268 y269 y270 y271 y272 y273 y274 y275 y276 y277 y278 y279 y280 y281 y282 y283 y284 y285 y286 y287 y288 y289 y290 y291 y292 y293 y294 y295 y296 y297 y298 y299 y300 y301 y302 y303 y304 y305 y306 y307 y308 y309 y310 y311 y312 y313 y314 y315 y316 y317 y318 y319 y320 y321 y322 y323 y324 y325 y326 y327 y328 y329 y330 y331 y332 y333 y334 y335 y336 y337 y338 y339 y340 y341 y342 y343 y344 y345 y346 y347 y348 y349 y350 y351 y352 y353 i R F1 hgk hi hl Hok h1 h1i hi0 h2 h2i ad HA y354 z1 z2 z3 z4 y355 y356 b HFb Hbne inb wc u56 u57 u58 u59 u60 u61 u62 u63 u64 u65 u66 u67 u68 u69 u70 u71 u72 u73 u74 u75 u76 u77 u78 u79 u80 u81 u82 u83 u84 u85 u86 u87 u88 u89 u90 u91 u92 u93 u94 u95 u96 u97 u98 u99 u100 u101 u102 u103 u104 u105 u106 u107 u108 u109 u110 u111 u112 u113 u114 u115 u116 u117 u118 u119 u120 u121 u122 u123 u124 u125 u126 u127 u128 u129 u130 u131 u132 u133 u134 u135 u136 u137 u138 u139 u140 u141 u142 u143 u144 u145 u146 u147 u148 u149 u150 u151 u152 u153 u154 u155 u156 u157 u158 u159 u160 u161 u162 u163 u164 u165 u166 u167 u168 u169 u170 u171 u172 u173 u174 u175 u176 u177 u178 u179 u180 u181 u182 u183 u184 u185 u186 u187 u188 u189 u190 u191 u192 u193 u194 u195 u196 u197 u198 u199 u200 u201 u202 u203 u204 u205 u206 u207 u208 u209 u210 u211 u212 u213 u214 u215 u216 u217 u218 u219 u220 u221 u222 u223 u224 u225 u226 u227 u228 u229 u230 u231 u232 u233 u234 u235 u236 u237 u238 u239 u240 u241 u242 u243 u244 u245 u246 u247 u248 u249 u250 u251 u252 u253 u254 u255 u256 u257 u258 u259 u260 u261 u262 u263 u264 u265 u266 u267 u268 u269 u270 u271 u272 u273 u274 u275 u276 u277 u278 u279 u280 u281 u282 u283 u284 u285 u286 u287 u288 u289 u290 u291 u292 u293 u294 u295 u296 u297 u298 u299 u300 u301 u302 u303 u304 u305 u306 u307 u308 u309 u310 u311 u312 u313 u314 u315 u316 u317 u318 u319 u320 u321 u322 u323 u324 u325 u326 u327 u328 u329 u330 u331 u332 u333 u334 u335 u336 u337 u338 u339 u340 u341 u342 u343 u344 u345 u346 u347 u348 u349 u350 u351 u352 u353 u354 u355 u356 u357 u358 u359 u360 u361 u362 u363 u364 u365 u366 u367 u368 u369 u370 u371 u372 u373 u374 u375 u376 u377 u378 u379 u380 u381 u382 u383 u384 u385 u386 u387 u388 u389 u390 u391 u392 u393 u394 u395 u396 u397 u398 u399 u400 u401 u402 Hinb lq lg hl43 hb1 wb wd HPd x1 x2 x3 x4 us Hus free Hfree nm Hnm y357 y358 y359 y360 hJ0 hK0 Hbnd Hod x0 k0 kb0 k1 kb1
  have hb2 : -9223372036854775808 ≤ z2 ∧ z2 ≤ 9223372036854775807 := ⟨Hbnd.out.2.2.2.2.1, Hbnd.out.2.2.2.2.2.1⟩
  obtain ⟨tx, htx⟩ : ∃ tx, tx = str (textZ z4 lg) := ⟨_, rfl⟩
  have HT := Lib.hid (show ∀ W : World, Calls Tryz.prog 24 #[.int .i64 z4, .int .i64 lg] W fun e w' => e = .returned (.string tx) ∧ Kp (fun _ => False) W w' by rw [htx]; exact fun W => textZ_ok z4 lg (by omega))
  have Hcb := Lib.hid (fun W : World => bytes_run tx (textZ z4 lg) lg htx (textZ_length _ _) (textZ_byt _ _) (by omega) W)
  have Htx := Lib.hid htx
  clear htx
  by_cases hin : 1 ≤ z1 ∧ z1 ≤ 6
  · obtain rfl : inb = true := by rw [Hinb.out]; exact decide_eq_true hin
    obtain ⟨id, hid⟩ : ∃ id : Nat, z1 = (id : Int) := ⟨z1.toNat, by omega⟩
    subst hid
    have hi1 : 1 ≤ id := by omega
    have hi6 : id ≤ 6 := by omega
    have hlt7 : (id : Int) < 7 := by omega
    have hid0 : (0 : Int) ≤ (id : Int) := by omega
    have yk := HPd.out.kind hi6
    have yd := HPd.out.data hi6
    clear Hinb hin
    by_cases hp : z2 < 0
    · have d2 : decide (z2 < 0) = true := decide_eq_true hp
      have HH := Lib.hid (fun (W : World) (hk : Kp (fun _ => False) wd W) => it_hadArg (HPd.out.it.kp0 hk) (ino := (id : Int)) (good := decide (0 ≤ z2)) (.inr (decide_eq_false (by omega))) hb1.1 hb1.2)
      clear Hfree Hus yk yd hp
      as_aux_lemma =>
        have Hl1 := Lib.hid (show ∀ W : World, Kp F1 wd W → W.cell? ⟨b, 1, none⟩ = some (.int .i64 (id : Nat)) from fun W hk => (Hod.out.kp hk HFb.out).cells.2.1)
        have Hl2 := Lib.hid (show ∀ W : World, Kp F1 wd W → W.cell? ⟨b, 2, none⟩ = some (.int .i64 z2) from fun W hk => (Hod.out.kp hk HFb.out).cells.2.2.1)
        have Hl4 := Lib.hid (show ∀ W : World, Kp F1 wd W → W.cell? ⟨b, 4, none⟩ = some (.int .i64 z4) from fun W hk => (Hod.out.kp hk HFb.out).cells.2.2.2.2)
        go_upto_region 73 with (first | (go_at_call 22; refine (HGr.out _).mono ?_; rintro e _ ⟨rfl, rfl⟩))
        clear x0 x1 x2 x3 x4
        refine wp_region_held_drew (S := fun W => Kp F1 wd W) (by kernel_rfl) ((Kp.refl _ wd).drew) (fun hHeld => ?_)
        apply wpAnyH_take (i := 0) (v := .pointer (some ⟨bt, 0, none⟩))
        case hi => (simp only [List.getElem?_toArray, List.getElem?_cons_zero, List.getElem?_cons_succ]; rfl)
        case hs => kernel_rfl
        case hf => kernel_rfl
        case hr => kernel_rfl
        case hQ => exact fun _ _ _ h => h
        case hS => exact hHeld
        case hy =>
          refine Or.inl ⟨rfl, ?_⟩
          intro w hSw
          go_simp
        try simp only [Act.put, List.setIfInBounds_toArray, List.set_cons_zero, List.set_cons_succ]
        apply wpAnyH_take (i := 1) (v := .pointer (some ⟨b, 1, none⟩))
        case hi => (simp only [List.getElem?_toArray, List.getElem?_cons_zero, List.getElem?_cons_succ]; rfl)
        case hs => kernel_rfl
        case hf => kernel_rfl
        case hr => kernel_rfl
        case hQ => exact fun _ _ _ h => h
        case hS => exact hHeld
        case hy =>
          refine Or.inl ⟨rfl, ?_⟩
          intro w hSw
          go_simp
        try simp only [Act.put, List.setIfInBounds_toArray, List.set_cons_zero, List.set_cons_succ]
        apply wpAnyH_take (i := 2) (v := .int .i64 (id : Nat))
        case hi => (simp only [List.getElem?_toArray, List.getElem?_cons_zero, List.getElem?_cons_succ]; rfl)
        case hs => kernel_rfl
        case hf => kernel_rfl
        case hr => kernel_rfl
        case hQ => exact fun _ _ _ h => h
        case hS => exact hHeld
        case hy =>
          refine Or.inl ⟨rfl, ?_⟩
          intro w hSw
          have hcw := Hl1.out w hSw
          go_simp
        try simp only [Act.put, List.setIfInBounds_toArray, List.set_cons_zero, List.set_cons_succ]
        apply wpAnyH_take (i := 3) (v := .pointer (some ⟨b, 2, none⟩))
        case hi => (simp only [List.getElem?_toArray, List.getElem?_cons_zero, List.getElem?_cons_succ]; rfl)
        case hs => kernel_rfl
        case hf => kernel_rfl
        case hr => kernel_rfl
        case hQ => exact fun _ _ _ h => h
        case hS => exact hHeld
        case hy =>
          refine Or.inl ⟨rfl, ?_⟩
          intro w hSw
          go_simp
        try simp only [Act.put, List.setIfInBounds_toArray, List.set_cons_zero, List.set_cons_succ]
        apply wpAnyH_take (i := 4) (v := .int .i64 z2)
        case hi => (simp only [List.getElem?_toArray, List.getElem?_cons_zero, List.getElem?_cons_succ]; rfl)
        case hs => kernel_rfl
        case hf => kernel_rfl
        case hr => kernel_rfl
        case hQ => exact fun _ _ _ h => h
        case hS => exact hHeld
        case hy =>
          refine Or.inl ⟨rfl, ?_⟩
          intro w hSw
          have hcw := Hl2.out w hSw
          go_simp
        try simp only [Act.put, List.setIfInBounds_toArray, List.set_cons_zero, List.set_cons_succ]
        apply wpAnyH_take (i := 5) (v := .pointer (some ⟨b, 4, none⟩))
        case hi => (simp only [List.getElem?_toArray, List.getElem?_cons_zero, List.getElem?_cons_succ]; rfl)
        case hs => kernel_rfl
        case hf => kernel_rfl
        case hr => kernel_rfl
        case hQ => exact fun _ _ _ h => h
        case hS => exact hHeld
        case hy =>
          refine Or.inl ⟨rfl, ?_⟩
          intro w hSw
          go_simp
        try simp only [Act.put, List.setIfInBounds_toArray, List.set_cons_zero, List.set_cons_succ]
        apply wpAnyH_take (i := 6) (v := .int .i64 z4)
        case hi => (simp only [List.getElem?_toArray, List.getElem?_cons_zero, List.getElem?_cons_succ]; rfl)
        case hs => kernel_rfl
        case hf => kernel_rfl
        case hr => kernel_rfl
        case hQ => exact fun _ _ _ h => h
        case hS => exact hHeld
        case hy =>
          refine Or.inl ⟨rfl, ?_⟩
          intro w hSw
          have hcw := Hl4.out w hSw
          go_simp
        try simp only [Act.put, List.setIfInBounds_toArray, List.set_cons_zero, List.set_cons_succ]
        apply wpAnyH_take (i := 7) (v := .int .i64 lg)
        case hi => (simp only [List.getElem?_toArray, List.getElem?_cons_zero, List.getElem?_cons_succ]; rfl)
        case hs => kernel_rfl
        case hf => kernel_rfl
        case hr => kernel_rfl
        case hQ => exact fun _ _ _ h => h
        case hS => exact hHeld
        case hy =>
          refine Or.inl ⟨rfl, ?_⟩
          intro w hSw
          go_simp
        try simp only [Act.put, List.setIfInBounds_toArray, List.set_cons_zero, List.set_cons_succ]
        refine wpAnyH_ready (rs := [8]) (by kernel_rfl) (by simp) ?_
        refine AllReadyH.cons rfl (fun K hK => ?_) AllReadyH.nil
        go_simp
        refine (HT.out _).mono ?_
        rintro e w5 ⟨rfl, hk5⟩
        have hk5n : Kp (fun _ => False) wd w5 := ((Kp.refl (fun _ => False) wd).drew).trans hk5 (Gr.refl _ _)
        clear hk5
        refine hK.out _ _ ?_ (fun hHeld => ?_)
        · exact hk5n.mono (fun _ h => h.elim)
        clear hK K
        try simp only [Act.put, List.setIfInBounds_toArray, List.set_cons_zero, List.set_cons_succ]
        refine wpAnyH_ready (rs := [9]) (by kernel_rfl) (by simp) ?_
        refine AllReadyH.cons rfl (fun K hK => ?_) AllReadyH.nil
        obtain ⟨cc, hcb, hsb⟩ := Hcb.out w5
        have Hsb := Lib.hid hsb
        clear hsb
        go_simp
        refine hK.out _ _ ?_ (fun hHeld => ?_)
        · exact (bytes_kp hk5n).mono (fun _ h => h.elim)
        clear hK K
        try simp only [Act.put, List.setIfInBounds_toArray, List.set_cons_zero, List.set_cons_succ]
        have hk5b := bytes_kp (tx := tx) hk5n
        refine wpAnyH_ready (rs := [10]) (by kernel_rfl) (by simp) ?_
        refine AllReadyH.cons rfl (fun K hK => ?_) AllReadyH.nil
        go_simp
        refine (inode_Write_err _ rfl (HH.out _ hk5b)).mono ?_
        rintro e w6 ⟨v6, rfl, hv6, hk6⟩
        obtain ⟨t6, y6, rfl⟩ := hv6.iface
        have hk6n := hk5b.trans hk6 (Gr.refl _ _)
        have hk6F : Kp F1 wd w6 := hk6n.mono (fun _ h => h.elim)
        have HPe := Lib.hid (HPd.out.kp0 hk6n)
        have Hv := Lib.hid hv6
        rw [← Hnm.out] at Hv
        have Hoe := Lib.hid (Hod.out.kp hk6n (fun h => h))
        clear hv6 hk6 hk6n
        refine hK.out _ _ ?_ (fun hHeld => ?_)
        · exact hk6F
        clear hK K
        try simp only [Act.put, List.setIfInBounds_toArray, List.set_cons_zero, List.set_cons_succ]
        apply wpAnyH_take (i := 11) (v := .iface t6 y6)
        case hi => (simp only [List.getElem?_toArray, List.getElem?_cons_zero, List.getElem?_cons_succ]; rfl)
        case hs => kernel_rfl
        case hf => kernel_rfl
        case hr => kernel_rfl
        case hQ => exact fun _ _ _ h => h
        case hS => exact hHeld
        case hy =>
          refine Or.inl ⟨rfl, ?_⟩
          intro w hSw
          go_simp
        try simp only [Act.put, List.setIfInBounds_toArray, List.set_cons_zero, List.set_cons_succ]
        refine wpAnyH_done (by kernel_rfl) ?_ _
        obtain ⟨x0', x1', x2', x3', x4'⟩ := Hoe.out.cells
        clear Hl1 Hl2 Hl4 HT Hcb
        go_wp2_with fail
        refine (law_Is Hv.out (by decide) (He.out.kp HPe.out.it.kp Hi.none)).mono ?_
        rintro e wf ⟨rfl, hkf⟩
        clear x0' x1' x2' x3' x4'
        have HPf := Lib.hid (HPe.out.kp0 hkf)
        obtain ⟨x0', x1', x2', x3', x4'⟩ := (Hoe.out.kp hkf (fun h => h)).cells
        clear hkf HPe Hv
        go_wp2_with fail
        go_meet
        exact ⟨R, F1, HPf.out, Hok.out⟩
    · have d2 : decide (z2 < 0) = false := decide_eq_false hp
      obtain ⟨p, hpe⟩ : ∃ p : Nat, z2 = (p : Int) := ⟨z2.toNat, by omega⟩
      subst hpe
      clear hp
      by_cases hk : (R id).1 = 0
      · have HH := Lib.hid (fun (W : World) (hk' : Kp (fun _ => False) wd W) => it_hadNone (HPd.out.it.kp0 hk') hi1 hi6 hk)
        rw [hk] at yk
        clear Hfree Hus yd hk
        as_aux_lemma =>
          have Hl1 := Lib.hid (show ∀ W : World, Kp F1 wd W → W.cell? ⟨b, 1, none⟩ = some (.int .i64 (id : Nat)) from fun W hk => (Hod.out.kp hk HFb.out).cells.2.1)
          have Hl2 := Lib.hid (show ∀ W : World, Kp F1 wd W → W.cell? ⟨b, 2, none⟩ = some (.int .i64 (p : Nat)) from fun W hk => (Hod.out.kp hk HFb.out).cells.2.2.1)
          have Hl4 := Lib.hid (show ∀ W : World, Kp F1 wd W → W.cell? ⟨b, 4, none⟩ = some (.int .i64 z4) from fun W hk => (Hod.out.kp hk HFb.out).cells.2.2.2.2)
          go_upto_region 73 with (first | (go_at_call 22; refine (HGr.out _).mono ?_; rintro e _ ⟨rfl, rfl⟩))
          clear x0 x1 x2 x3 x4
          refine wp_region_held_drew (S := fun W => Kp F1 wd W) (by kernel_rfl) ((Kp.refl _ wd).drew) (fun hHeld => ?_)
          apply wpAnyH_take (i := 0) (v := .pointer (some ⟨bt, 0, none⟩))
          case hi => (simp only [List.getElem?_toArray, List.getElem?_cons_zero, List.getElem?_cons_succ]; rfl)
          case hs => kernel_rfl
          case hf => kernel_rfl
          case hr => kernel_rfl
          case hQ => exact fun _ _ _ h => h
          case hS => exact hHeld
          case hy =>
            refine Or.inl ⟨rfl, ?_⟩
            intro w hSw
            go_simp
          try simp only [Act.put, List.setIfInBounds_toArray, List.set_cons_zero, List.set_cons_succ]
          apply wpAnyH_take (i := 1) (v := .pointer (some ⟨b, 1, none⟩))
          case hi => (simp only [List.getElem?_toArray, List.getElem?_cons_zero, List.getElem?_cons_succ]; rfl)
          case hs => kernel_rfl
          case hf => kernel_rfl
          case hr => kernel_rfl
          case hQ => exact fun _ _ _ h => h
          case hS => exact hHeld
          case hy =>
            refine Or.inl ⟨rfl, ?_⟩
            intro w hSw
            go_simp
          try simp only [Act.put, List.setIfInBounds_toArray, List.set_cons_zero, List.set_cons_succ]
          apply wpAnyH_take (i := 2) (v := .int .i64 (id : Nat))
          case hi => (simp only [List.getElem?_toArray, List.getElem?_cons_zero, List.getElem?_cons_succ]; rfl)
          case hs => kernel_rfl
          case hf => kernel_rfl
          case hr => kernel_rfl
          case hQ => exact fun _ _ _ h => h
          case hS => exact hHeld
          case hy =>
            refine Or.inl ⟨rfl, ?_⟩
            intro w hSw
            have hcw := Hl1.out w hSw
            go_simp
          try simp only [Act.put, List.setIfInBounds_toArray, List.set_cons_zero, List.set_cons_succ]
          apply wpAnyH_take (i := 3) (v := .pointer (some ⟨b, 2, none⟩))
          case hi => (simp only [List.getElem?_toArray, List.getElem?_cons_zero, List.getElem?_cons_succ]; rfl)
          case hs => kernel_rfl
          case hf => kernel_rfl
          case hr => kernel_rfl
          case hQ => exact fun _ _ _ h => h
          case hS => exact hHeld
          case hy =>
            refine Or.inl ⟨rfl, ?_⟩
            intro w hSw
            go_simp
          try simp only [Act.put, List.setIfInBounds_toArray, List.set_cons_zero, List.set_cons_succ]
          apply wpAnyH_take (i := 4) (v := .int .i64 (p : Nat))
          case hi => (simp only [List.getElem?_toArray, List.getElem?_cons_zero, List.getElem?_cons_succ]; rfl)
          case hs => kernel_rfl
          case hf => kernel_rfl
          case hr => kernel_rfl
          case hQ => exact fun _ _ _ h => h
          case hS => exact hHeld
          case hy =>
            refine Or.inl ⟨rfl, ?_⟩
            intro w hSw
            have hcw := Hl2.out w hSw
            go_simp
          try simp only [Act.put, List.setIfInBounds_toArray, List.set_cons_zero, List.set_cons_succ]
          apply wpAnyH_take (i := 5) (v := .pointer (some ⟨b, 4, none⟩))
          case hi => (simp only [List.getElem?_toArray, List.getElem?_cons_zero, List.getElem?_cons_succ]; rfl)
          case hs => kernel_rfl
          case hf => kernel_rfl
          case hr => kernel_rfl
          case hQ => exact fun _ _ _ h => h
          case hS => exact hHeld
          case hy =>
            refine Or.inl ⟨rfl, ?_⟩
            intro w hSw
            go_simp
          try simp only [Act.put, List.setIfInBounds_toArray, List.set_cons_zero, List.set_cons_succ]
          apply wpAnyH_take (i := 6) (v := .int .i64 z4)
          case hi => (simp only [List.getElem?_toArray, List.getElem?_cons_zero, List.getElem?_cons_succ]; rfl)
          case hs => kernel_rfl
          case hf => kernel_rfl
          case hr => kernel_rfl
          case hQ => exact fun _ _ _ h => h
          case hS => exact hHeld
          case hy =>
            refine Or.inl ⟨rfl, ?_⟩
            intro w hSw
            have hcw := Hl4.out w hSw
            go_simp
          try simp only [Act.put, List.setIfInBounds_toArray, List.set_cons_zero, List.set_cons_succ]
          apply wpAnyH_take (i := 7) (v := .int .i64 lg)
          case hi => (simp only [List.getElem?_toArray, List.getElem?_cons_zero, List.getElem?_cons_succ]; rfl)
          case hs => kernel_rfl
          case hf => kernel_rfl
          case hr => kernel_rfl
          case hQ => exact fun _ _ _ h => h
          case hS => exact hHeld
          case hy =>
            refine Or.inl ⟨rfl, ?_⟩
            intro w hSw
            go_simp
          try simp only [Act.put, List.setIfInBounds_toArray, List.set_cons_zero, List.set_cons_succ]
          refine wpAnyH_ready (rs := [8]) (by kernel_rfl) (by simp) ?_
          refine AllReadyH.cons rfl (fun K hK => ?_) AllReadyH.nil
          go_simp
          refine (HT.out _).mono ?_
          rintro e w5 ⟨rfl, hk5⟩
          have hk5n : Kp (fun _ => False) wd w5 := ((Kp.refl (fun _ => False) wd).drew).trans hk5 (Gr.refl _ _)
          clear hk5
          refine hK.out _ _ ?_ (fun hHeld => ?_)
          · exact hk5n.mono (fun _ h => h.elim)
          clear hK K
          try simp only [Act.put, List.setIfInBounds_toArray, List.set_cons_zero, List.set_cons_succ]
          refine wpAnyH_ready (rs := [9]) (by kernel_rfl) (by simp) ?_
          refine AllReadyH.cons rfl (fun K hK => ?_) AllReadyH.nil
          obtain ⟨cc, hcb, hsb⟩ := Hcb.out w5
          have Hsb := Lib.hid hsb
          clear hsb
          go_simp
          refine hK.out _ _ ?_ (fun hHeld => ?_)
          · exact (bytes_kp hk5n).mono (fun _ h => h.elim)
          clear hK K
          try simp only [Act.put, List.setIfInBounds_toArray, List.set_cons_zero, List.set_cons_succ]
          have hk5b := bytes_kp (tx := tx) hk5n
          refine wpAnyH_ready (rs := [10]) (by kernel_rfl) (by simp) ?_
          refine AllReadyH.cons rfl (fun K hK => ?_) AllReadyH.nil
          go_simp
          refine (inode_Write_err _ (decide_eq_true (by omega)) (HH.out _ hk5b)).mono ?_
          rintro e w6 ⟨v6, rfl, hv6, hk6⟩
          obtain ⟨t6, y6, rfl⟩ := hv6.iface
          have hk6n := hk5b.trans hk6 (Gr.refl _ _)
          have hk6F : Kp F1 wd w6 := hk6n.mono (fun _ h => h.elim)
          have HPe := Lib.hid (HPd.out.kp0 hk6n)
          have Hv := Lib.hid hv6
          rw [← Hnm.out] at Hv
          have Hoe := Lib.hid (Hod.out.kp hk6n (fun h => h))
          clear hv6 hk6 hk6n
          refine hK.out _ _ ?_ (fun hHeld => ?_)
          · exact hk6F
          clear hK K
          try simp only [Act.put, List.setIfInBounds_toArray, List.set_cons_zero, List.set_cons_succ]
          apply wpAnyH_take (i := 11) (v := .iface t6 y6)
          case hi => (simp only [List.getElem?_toArray, List.getElem?_cons_zero, List.getElem?_cons_succ]; rfl)
          case hs => kernel_rfl
          case hf => kernel_rfl
          case hr => kernel_rfl
          case hQ => exact fun _ _ _ h => h
          case hS => exact hHeld
          case hy =>
            refine Or.inl ⟨rfl, ?_⟩
            intro w hSw
            go_simp
          try simp only [Act.put, List.setIfInBounds_toArray, List.set_cons_zero, List.set_cons_succ]
          refine wpAnyH_done (by kernel_rfl) ?_ _
          obtain ⟨x0', x1', x2', x3', x4'⟩ := Hoe.out.cells
          clear Hl1 Hl2 Hl4 HT Hcb
          go_wp2_with fail
          refine (law_Is Hv.out (by decide) (He.out.kp HPe.out.it.kp Hi.none)).mono ?_
          rintro e wf ⟨rfl, hkf⟩
          clear x0' x1' x2' x3' x4'
          have HPf := Lib.hid (HPe.out.kp0 hkf)
          obtain ⟨x0', x1', x2', x3', x4'⟩ := (Hoe.out.kp hkf (fun h => h)).cells
          clear hkf HPe Hv
          go_wp2_with fail
          go_meet
          exact ⟨R, F1, HPf.out, Hok.out⟩
      · have hkb : (((R id).1 : Int) == 0) = false := by simpa using hk
        by_cases h4 : 4000 < p + lg
        · by_cases h5 : 4000 < p
          · have d5 : (4000 : Int) < (p : Int) := by omega
            clear Hfree Hus yd h4
            as_aux_lemma =>
              have Hl1 := Lib.hid (show ∀ W : World, Kp F1 wd W → W.cell? ⟨b, 1, none⟩ = some (.int .i64 (id : Nat)) from fun W hk => (Hod.out.kp hk HFb.out).cells.2.1)
              have Hl2 := Lib.hid (show ∀ W : World, Kp F1 wd W → W.cell? ⟨b, 2, none⟩ = some (.int .i64 (p : Nat)) from fun W hk => (Hod.out.kp hk HFb.out).cells.2.2.1)
              have Hl4 := Lib.hid (show ∀ W : World, Kp F1 wd W → W.cell? ⟨b, 4, none⟩ = some (.int .i64 z4) from fun W hk => (Hod.out.kp hk HFb.out).cells.2.2.2.2)
              go_upto_region 73 with (first | (go_at_call 22; refine (HGr.out _).mono ?_; rintro e _ ⟨rfl, rfl⟩))
              clear x0 x1 x2 x3 x4
              refine wp_region_held_drew (S := fun W => Kp F1 wd W) (by kernel_rfl) ((Kp.refl _ wd).drew) (fun hHeld => ?_)
              apply wpAnyH_take (i := 0) (v := .pointer (some ⟨bt, 0, none⟩))
              case hi => (simp only [List.getElem?_toArray, List.getElem?_cons_zero, List.getElem?_cons_succ]; rfl)
              case hs => kernel_rfl
              case hf => kernel_rfl
              case hr => kernel_rfl
              case hQ => exact fun _ _ _ h => h
              case hS => exact hHeld
              case hy =>
                refine Or.inl ⟨rfl, ?_⟩
                intro w hSw
                go_simp
              try simp only [Act.put, List.setIfInBounds_toArray, List.set_cons_zero, List.set_cons_succ]
              apply wpAnyH_take (i := 1) (v := .pointer (some ⟨b, 1, none⟩))
              case hi => (simp only [List.getElem?_toArray, List.getElem?_cons_zero, List.getElem?_cons_succ]; rfl)
              case hs => kernel_rfl
              case hf => kernel_rfl
              case hr => kernel_rfl
              case hQ => exact fun _ _ _ h => h
              case hS => exact hHeld
              case hy =>
                refine Or.inl ⟨rfl, ?_⟩
                intro w hSw
                go_simp
              try simp only [Act.put, List.setIfInBounds_toArray, List.set_cons_zero, List.set_cons_succ]
              apply wpAnyH_take (i := 2) (v := .int .i64 (id : Nat))
              case hi => (simp only [List.getElem?_toArray, List.getElem?_cons_zero, List.getElem?_cons_succ]; rfl)
              case hs => kernel_rfl
              case hf => kernel_rfl
              case hr => kernel_rfl
              case hQ => exact fun _ _ _ h => h
              case hS => exact hHeld
              case hy =>
                refine Or.inl ⟨rfl, ?_⟩
                intro w hSw
                have hcw := Hl1.out w hSw
                go_simp
              try simp only [Act.put, List.setIfInBounds_toArray, List.set_cons_zero, List.set_cons_succ]
              apply wpAnyH_take (i := 3) (v := .pointer (some ⟨b, 2, none⟩))
              case hi => (simp only [List.getElem?_toArray, List.getElem?_cons_zero, List.getElem?_cons_succ]; rfl)
              case hs => kernel_rfl
              case hf => kernel_rfl
              case hr => kernel_rfl
              case hQ => exact fun _ _ _ h => h
              case hS => exact hHeld
              case hy =>
                refine Or.inl ⟨rfl, ?_⟩
                intro w hSw
                go_simp
              try simp only [Act.put, List.setIfInBounds_toArray, List.set_cons_zero, List.set_cons_succ]
              apply wpAnyH_take (i := 4) (v := .int .i64 (p : Nat))
              case hi => (simp only [List.getElem?_toArray, List.getElem?_cons_zero, List.getElem?_cons_succ]; rfl)
              case hs => kernel_rfl
              case hf => kernel_rfl
              case hr => kernel_rfl
              case hQ => exact fun _ _ _ h => h
              case hS => exact hHeld
              case hy =>
                refine Or.inl ⟨rfl, ?_⟩
                intro w hSw
                have hcw := Hl2.out w hSw
                go_simp
              try simp only [Act.put, List.setIfInBounds_toArray, List.set_cons_zero, List.set_cons_succ]
              apply wpAnyH_take (i := 5) (v := .pointer (some ⟨b, 4, none⟩))
              case hi => (simp only [List.getElem?_toArray, List.getElem?_cons_zero, List.getElem?_cons_succ]; rfl)
              case hs => kernel_rfl
              case hf => kernel_rfl
              case hr => kernel_rfl
              case hQ => exact fun _ _ _ h => h
              case hS => exact hHeld
              case hy =>
                refine Or.inl ⟨rfl, ?_⟩
                intro w hSw
                go_simp
              try simp only [Act.put, List.setIfInBounds_toArray, List.set_cons_zero, List.set_cons_succ]
              apply wpAnyH_take (i := 6) (v := .int .i64 z4)
              case hi => (simp only [List.getElem?_toArray, List.getElem?_cons_zero, List.getElem?_cons_succ]; rfl)
              case hs => kernel_rfl
              case hf => kernel_rfl
              case hr => kernel_rfl
              case hQ => exact fun _ _ _ h => h
              case hS => exact hHeld
              case hy =>
                refine Or.inl ⟨rfl, ?_⟩
                intro w hSw
                have hcw := Hl4.out w hSw
                go_simp
              try simp only [Act.put, List.setIfInBounds_toArray, List.set_cons_zero, List.set_cons_succ]
              apply wpAnyH_take (i := 7) (v := .int .i64 lg)
              case hi => (simp only [List.getElem?_toArray, List.getElem?_cons_zero, List.getElem?_cons_succ]; rfl)
              case hs => kernel_rfl
              case hf => kernel_rfl
              case hr => kernel_rfl
              case hQ => exact fun _ _ _ h => h
              case hS => exact hHeld
              case hy =>
                refine Or.inl ⟨rfl, ?_⟩
                intro w hSw
                go_simp
              try simp only [Act.put, List.setIfInBounds_toArray, List.set_cons_zero, List.set_cons_succ]
              refine wpAnyH_ready (rs := [8]) (by kernel_rfl) (by simp) ?_
              refine AllReadyH.cons rfl (fun K hK => ?_) AllReadyH.nil
              go_simp
              refine (HT.out _).mono ?_
              rintro e w5 ⟨rfl, hk5⟩
              have hk5n : Kp (fun _ => False) wd w5 := ((Kp.refl (fun _ => False) wd).drew).trans hk5 (Gr.refl _ _)
              clear hk5
              refine hK.out _ _ ?_ (fun hHeld => ?_)
              · exact hk5n.mono (fun _ h => h.elim)
              clear hK K
              try simp only [Act.put, List.setIfInBounds_toArray, List.set_cons_zero, List.set_cons_succ]
              refine wpAnyH_ready (rs := [9]) (by kernel_rfl) (by simp) ?_
              refine AllReadyH.cons rfl (fun K hK => ?_) AllReadyH.nil
              obtain ⟨cc, hcb, hsb⟩ := Hcb.out w5
              have Hsb := Lib.hid hsb
              clear hsb
              go_simp
              refine hK.out _ _ ?_ (fun hHeld => ?_)
              · exact (bytes_kp hk5n).mono (fun _ h => h.elim)
              clear hK K
              try simp only [Act.put, List.setIfInBounds_toArray, List.set_cons_zero, List.set_cons_succ]
              have hk5b := bytes_kp (tx := tx) hk5n
              refine wpAnyH_ready (rs := [10]) (by kernel_rfl) (by simp) ?_
              refine AllReadyH.cons rfl (fun K hK => ?_) AllReadyH.nil
              go_simp
              refine (it_writeBig (HPd.out.it.kp0 hk5b) hi1 hi6 hk _ _ (by omega) hb2.2).mono ?_
              rintro e w6 ⟨v6, rfl, hv6, hk6⟩
              obtain ⟨t6, y6, rfl⟩ := hv6.iface
              have hk6n := hk5b.trans hk6 (Gr.refl _ _)
              have hk6F : Kp F1 wd w6 := hk6n.mono (fun _ h => h.elim)
              have HPe := Lib.hid (HPd.out.kp0 hk6n)
              have Hv := Lib.hid hv6
              rw [← Hnm.out] at Hv
              have Hoe := Lib.hid (Hod.out.kp hk6n (fun h => h))
              clear hv6 hk6 hk6n
              refine hK.out _ _ ?_ (fun hHeld => ?_)
              · exact hk6F
              clear hK K
              try simp only [Act.put, List.setIfInBounds_toArray, List.set_cons_zero, List.set_cons_succ]
              apply wpAnyH_take (i := 11) (v := .iface t6 y6)
              case hi => (simp only [List.getElem?_toArray, List.getElem?_cons_zero, List.getElem?_cons_succ]; rfl)
              case hs => kernel_rfl
              case hf => kernel_rfl
              case hr => kernel_rfl
              case hQ => exact fun _ _ _ h => h
              case hS => exact hHeld
              case hy =>
                refine Or.inl ⟨rfl, ?_⟩
                intro w hSw
                go_simp
              try simp only [Act.put, List.setIfInBounds_toArray, List.set_cons_zero, List.set_cons_succ]
              refine wpAnyH_done (by kernel_rfl) ?_ _
              obtain ⟨x0', x1', x2', x3', x4'⟩ := Hoe.out.cells
              clear Hl1 Hl2 Hl4 HT Hcb
              go_wp2_with fail
              refine (law_Is Hv.out (by decide) (He.out.kp HPe.out.it.kp Hi.none)).mono ?_
              rintro e wf ⟨rfl, hkf⟩
              clear x0' x1' x2' x3' x4'
              have HPf := Lib.hid (HPe.out.kp0 hkf)
              obtain ⟨x0', x1', x2', x3', x4'⟩ := (Hoe.out.kp hkf (fun h => h)).cells
              clear hkf HPe Hv
              go_wp2_with fail
              go_meet
              exact ⟨R, F1, HPf.out, Hok.out⟩
          · have d5 : ¬ (4000 : Int) < (p : Int) := by omega
            have d6 : (4000 : Int) - (p : Int) < (lg : Int) := by omega
            clear Hfree Hus yd h5
            as_aux_lemma =>
              have Hl1 := Lib.hid (show ∀ W : World, Kp F1 wd W → W.cell? ⟨b, 1, none⟩ = some (.int .i64 (id : Nat)) from fun W hk => (Hod.out.kp hk HFb.out).cells.2.1)
              have Hl2 := Lib.hid (show ∀ W : World, Kp F1 wd W → W.cell? ⟨b, 2, none⟩ = some (.int .i64 (p : Nat)) from fun W hk => (Hod.out.kp hk HFb.out).cells.2.2.1)
              have Hl4 := Lib.hid (show ∀ W : World, Kp F1 wd W → W.cell? ⟨b, 4, none⟩ = some (.int .i64 z4) from fun W hk => (Hod.out.kp hk HFb.out).cells.2.2.2.2)
              go_upto_region 73 with (first | (go_at_call 22; refine (HGr.out _).mono ?_; rintro e _ ⟨rfl, rfl⟩))
              clear x0 x1 x2 x3 x4
              refine wp_region_held_drew (S := fun W => Kp F1 wd W) (by kernel_rfl) ((Kp.refl _ wd).drew) (fun hHeld => ?_)
              apply wpAnyH_take (i := 0) (v := .pointer (some ⟨bt, 0, none⟩))
              case hi => (simp only [List.getElem?_toArray, List.getElem?_cons_zero, List.getElem?_cons_succ]; rfl)
              case hs => kernel_rfl
              case hf => kernel_rfl
              case hr => kernel_rfl
              case hQ => exact fun _ _ _ h => h
              case hS => exact hHeld
              case hy =>
                refine Or.inl ⟨rfl, ?_⟩
                intro w hSw
                go_simp
              try simp only [Act.put, List.setIfInBounds_toArray, List.set_cons_zero, List.set_cons_succ]
              apply wpAnyH_take (i := 1) (v := .pointer (some ⟨b, 1, none⟩))
              case hi => (simp only [List.getElem?_toArray, List.getElem?_cons_zero, List.getElem?_cons_succ]; rfl)
              case hs => kernel_rfl
              case hf => kernel_rfl
              case hr => kernel_rfl
              case hQ => exact fun _ _ _ h => h
              case hS => exact hHeld
              case hy =>
                refine Or.inl ⟨rfl, ?_⟩
                intro w hSw
                go_simp
              try simp only [Act.put, List.setIfInBounds_toArray, List.set_cons_zero, List.set_cons_succ]
              apply wpAnyH_take (i := 2) (v := .int .i64 (id : Nat))
              case hi => (simp only [List.getElem?_toArray, List.getElem?_cons_zero, List.getElem?_cons_succ]; rfl)
              case hs => kernel_rfl
              case hf => kernel_rfl
              case hr => kernel_rfl
              case hQ => exact fun _ _ _ h => h
              case hS => exact hHeld
              case hy =>
                refine Or.inl ⟨rfl, ?_⟩
                intro w hSw
                have hcw := Hl1.out w hSw
                go_simp
              try simp only [Act.put, List.setIfInBounds_toArray, List.set_cons_zero, List.set_cons_succ]
              apply wpAnyH_take (i := 3) (v := .pointer (some ⟨b, 2, none⟩))
              case hi => (simp only [List.getElem?_toArray, List.getElem?_cons_zero, List.getElem?_cons_succ]; rfl)
              case hs => kernel_rfl
              case hf => kernel_rfl
              case hr => kernel_rfl
              case hQ => exact fun _ _ _ h => h
              case hS => exact hHeld
              case hy =>
                refine Or.inl ⟨rfl, ?_⟩
                intro w hSw
                go_simp
              try simp only [Act.put, List.setIfInBounds_toArray, List.set_cons_zero, List.set_cons_succ]
              apply wpAnyH_take (i := 4) (v := .int .i64 (p : Nat))
              case hi => (simp only [List.getElem?_toArray, List.getElem?_cons_zero, List.getElem?_cons_succ]; rfl)
              case hs => kernel_rfl
              case hf => kernel_rfl
              case hr => kernel_rfl
              case hQ => exact fun _ _ _ h => h
              case hS => exact hHeld
              case hy =>
                refine Or.inl ⟨rfl, ?_⟩
                intro w hSw
                have hcw := Hl2.out w hSw
                go_simp
              try simp only [Act.put, List.setIfInBounds_toArray, List.set_cons_zero, List.set_cons_succ]
              apply wpAnyH_take (i := 5) (v := .pointer (some ⟨b, 4, none⟩))
              case hi => (simp only [List.getElem?_toArray, List.getElem?_cons_zero, List.getElem?_cons_succ]; rfl)
              case hs => kernel_rfl
              case hf => kernel_rfl
              case hr => kernel_rfl
              case hQ => exact fun _ _ _ h => h
              case hS => exact hHeld
              case hy =>
                refine Or.inl ⟨rfl, ?_⟩
                intro w hSw
                go_simp
              try simp only [Act.put, List.setIfInBounds_toArray, List.set_cons_zero, List.set_cons_succ]
              apply wpAnyH_take (i := 6) (v := .int .i64 z4)
              case hi => (simp only [List.getElem?_toArray, List.getElem?_cons_zero, List.getElem?_cons_succ]; rfl)
              case hs => kernel_rfl
              case hf => kernel_rfl
              case hr => kernel_rfl
              case hQ => exact fun _ _ _ h => h
              case hS => exact hHeld
              case hy =>
                refine Or.inl ⟨rfl, ?_⟩
                intro w hSw
                have hcw := Hl4.out w hSw
                go_simp
              try simp only [Act.put, List.setIfInBounds_toArray, List.set_cons_zero, List.set_cons_succ]
              apply wpAnyH_take (i := 7) (v := .int .i64 lg)
              case hi => (simp only [List.getElem?_toArray, List.getElem?_cons_zero, List.getElem?_cons_succ]; rfl)
              case hs => kernel_rfl
              case hf => kernel_rfl
              case hr => kernel_rfl
              case hQ => exact fun _ _ _ h => h
              case hS => exact hHeld
              case hy =>
                refine Or.inl ⟨rfl, ?_⟩
                intro w hSw
                go_simp
              try simp only [Act.put, List.setIfInBounds_toArray, List.set_cons_zero, List.set_cons_succ]
              refine wpAnyH_ready (rs := [8]) (by kernel_rfl) (by simp) ?_
              refine AllReadyH.cons rfl (fun K hK => ?_) AllReadyH.nil
              go_simp
              refine (HT.out _).mono ?_
              rintro e w5 ⟨rfl, hk5⟩
              have hk5n : Kp (fun _ => False) wd w5 := ((Kp.refl (fun _ => False) wd).drew).trans hk5 (Gr.refl _ _)
              clear hk5
              refine hK.out _ _ ?_ (fun hHeld => ?_)
              · exact hk5n.mono (fun _ h => h.elim)
              clear hK K
              try simp only [Act.put, List.setIfInBounds_toArray, List.set_cons_zero, List.set_cons_succ]
              refine wpAnyH_ready (rs := [9]) (by kernel_rfl) (by simp) ?_
              refine AllReadyH.cons rfl (fun K hK => ?_) AllReadyH.nil
              obtain ⟨cc, hcb, hsb⟩ := Hcb.out w5
              have Hsb := Lib.hid hsb
              clear hsb
              go_simp
              refine hK.out _ _ ?_ (fun hHeld => ?_)
              · exact (bytes_kp hk5n).mono (fun _ h => h.elim)
              clear hK K
              try simp only [Act.put, List.setIfInBounds_toArray, List.set_cons_zero, List.set_cons_succ]
              have hk5b := bytes_kp (tx := tx) hk5n
              refine wpAnyH_ready (rs := [10]) (by kernel_rfl) (by simp) ?_
              refine AllReadyH.cons rfl (fun K hK => ?_) AllReadyH.nil
              go_simp
              refine (it_writeBig (HPd.out.it.kp0 hk5b) hi1 hi6 hk _ _ (by omega) hb2.2).mono ?_
              rintro e w6 ⟨v6, rfl, hv6, hk6⟩
              obtain ⟨t6, y6, rfl⟩ := hv6.iface
              have hk6n := hk5b.trans hk6 (Gr.refl _ _)
              have hk6F : Kp F1 wd w6 := hk6n.mono (fun _ h => h.elim)
              have HPe := Lib.hid (HPd.out.kp0 hk6n)
              have Hv := Lib.hid hv6
              rw [← Hnm.out] at Hv
              have Hoe := Lib.hid (Hod.out.kp hk6n (fun h => h))
              clear hv6 hk6 hk6n
              refine hK.out _ _ ?_ (fun hHeld => ?_)
              · exact hk6F
              clear hK K
              try simp only [Act.put, List.setIfInBounds_toArray, List.set_cons_zero, List.set_cons_succ]
              apply wpAnyH_take (i := 11) (v := .iface t6 y6)
              case hi => (simp only [List.getElem?_toArray, List.getElem?_cons_zero, List.getElem?_cons_succ]; rfl)
              case hs => kernel_rfl
              case hf => kernel_rfl
              case hr => kernel_rfl
              case hQ => exact fun _ _ _ h => h
              case hS => exact hHeld
              case hy =>
                refine Or.inl ⟨rfl, ?_⟩
                intro w hSw
                go_simp
              try simp only [Act.put, List.setIfInBounds_toArray, List.set_cons_zero, List.set_cons_succ]
              refine wpAnyH_done (by kernel_rfl) ?_ _
              obtain ⟨x0', x1', x2', x3', x4'⟩ := Hoe.out.cells
              clear Hl1 Hl2 Hl4 HT Hcb
              go_wp2_with fail
              refine (law_Is Hv.out (by decide) (He.out.kp HPe.out.it.kp Hi.none)).mono ?_
              rintro e wf ⟨rfl, hkf⟩
              clear x0' x1' x2' x3' x4'
              have HPf := Lib.hid (HPe.out.kp0 hkf)
              obtain ⟨x0', x1', x2', x3', x4'⟩ := (Hoe.out.kp hkf (fun h => h)).cells
              clear hkf HPe Hv
              go_wp2_with fail
              go_meet
              exact ⟨R, F1, HPf.out, Hok.out⟩
        · have d5 : ¬ (4000 : Int) < (p : Int) := by omega
          have d6 : ¬ (4000 : Int) - (p : Int) < (lg : Int) := by omega
          obtain ⟨d, hd⟩ : ∃ d, d = (R id).2 := ⟨_, rfl⟩
          have hdl : d.length ≤ 4000 := by rw [hd]; exact (Hok.out id).2.1
          rw [← hd] at yd
          have hzs := str_size d
          obtain ⟨dl, hdl'⟩ : ∃ dl, dl = d.length := ⟨_, rfl⟩
          rw [← hdl'] at hdl hzs
          have Hd := Lib.hid hd
          have Hdl := Lib.hid hdl'
          obtain ⟨sd, hsd⟩ : ∃ sd, sd = str d := ⟨_, rfl⟩
          rw [← hsd] at yd hzs
          have Hsd := Lib.hid hsd
          clear hd hdl' hsd
          by_cases hl0 : lg = 0
          · have hmx : max (dl : Int) (p : Int) = ((max dl p : Nat) : Int) := by omega
            have HGr := Lib.hid (fun W : World => ref_Grow (w := W) dl dl hdl hdl)
            rw [show bks dl - bks dl = 0 by omega] at HGr
            subst hl0
            have hl0' : (0 : Int) ≤ (free : Int) := by omega
            as_aux_lemma =>
              have Hl1 := Lib.hid (show ∀ W : World, Kp F1 wd W → W.cell? ⟨b, 1, none⟩ = some (.int .i64 (id : Nat)) from fun W hk => (Hod.out.kp hk HFb.out).cells.2.1)
              have Hl2 := Lib.hid (show ∀ W : World, Kp F1 wd W → W.cell? ⟨b, 2, none⟩ = some (.int .i64 (p : Nat)) from fun W hk => (Hod.out.kp hk HFb.out).cells.2.2.1)
              have Hl4 := Lib.hid (show ∀ W : World, Kp F1 wd W → W.cell? ⟨b, 4, none⟩ = some (.int .i64 z4) from fun W hk => (Hod.out.kp hk HFb.out).cells.2.2.2.2)
              go_upto_region 73 with (first | (go_at_call 22; refine (HGr.out _).mono ?_; rintro e _ ⟨rfl, rfl⟩))
              clear x0 x1 x2 x3 x4
              refine wp_region_held_drew (S := fun W => Kp F1 wd W) (by kernel_rfl) ((Kp.refl _ wd).drew) (fun hHeld => ?_)
              apply wpAnyH_take (i := 0) (v := .pointer (some ⟨bt, 0, none⟩))
              case hi => (simp only [List.getElem?_toArray, List.getElem?_cons_zero, List.getElem?_cons_succ]; rfl)
              case hs => kernel_rfl
              case hf => kernel_rfl
              case hr => kernel_rfl
              case hQ => exact fun _ _ _ h => h
              case hS => exact hHeld
              case hy =>
                refine Or.inl ⟨rfl, ?_⟩
                intro w hSw
                go_simp
              try simp only [Act.put, List.setIfInBounds_toArray, List.set_cons_zero, List.set_cons_succ]
              apply wpAnyH_take (i := 1) (v := .pointer (some ⟨b, 1, none⟩))
              case hi => (simp only [List.getElem?_toArray, List.getElem?_cons_zero, List.getElem?_cons_succ]; rfl)
              case hs => kernel_rfl
              case hf => kernel_rfl
              case hr => kernel_rfl
              case hQ => exact fun _ _ _ h => h
              case hS => exact hHeld
              case hy =>
                refine Or.inl ⟨rfl, ?_⟩
                intro w hSw
                go_simp
              try simp only [Act.put, List.setIfInBounds_toArray, List.set_cons_zero, List.set_cons_succ]
              apply wpAnyH_take (i := 2) (v := .int .i64 (id : Nat))
              case hi => (simp only [List.getElem?_toArray, List.getElem?_cons_zero, List.getElem?_cons_succ]; rfl)
              case hs => kernel_rfl
              case hf => kernel_rfl
              case hr => kernel_rfl
              case hQ => exact fun _ _ _ h => h
              case hS => exact hHeld
              case hy =>
                refine Or.inl ⟨rfl, ?_⟩
                intro w hSw
                have hcw := Hl1.out w hSw
                go_simp
              try simp only [Act.put, List.setIfInBounds_toArray, List.set_cons_zero, List.set_cons_succ]
              apply wpAnyH_take (i := 3) (v := .pointer (some ⟨b, 2, none⟩))
              case hi => (simp only [List.getElem?_toArray, List.getElem?_cons_zero, List.getElem?_cons_succ]; rfl)
              case hs => kernel_rfl
              case hf => kernel_rfl
              case hr => kernel_rfl
              case hQ => exact fun _ _ _ h => h
              case hS => exact hHeld
              case hy =>
                refine Or.inl ⟨rfl, ?_⟩
                intro w hSw
                go_simp
              try simp only [Act.put, List.setIfInBounds_toArray, List.set_cons_zero, List.set_cons_succ]
              apply wpAnyH_take (i := 4) (v := .int .i64 (p : Nat))
              case hi => (simp only [List.getElem?_toArray, List.getElem?_cons_zero, List.getElem?_cons_succ]; rfl)
              case hs => kernel_rfl
              case hf => kernel_rfl
              case hr => kernel_rfl
              case hQ => exact fun _ _ _ h => h
              case hS => exact hHeld
              case hy =>
                refine Or.inl ⟨rfl, ?_⟩
                intro w hSw
                have hcw := Hl2.out w hSw
                go_simp
              try simp only [Act.put, List.setIfInBounds_toArray, List.set_cons_zero, List.set_cons_succ]
              apply wpAnyH_take (i := 5) (v := .pointer (some ⟨b, 4, none⟩))
              case hi => (simp only [List.getElem?_toArray, List.getElem?_cons_zero, List.getElem?_cons_succ]; rfl)
              case hs => kernel_rfl
              case hf => kernel_rfl
              case hr => kernel_rfl
              case hQ => exact fun _ _ _ h => h
              case hS => exact hHeld
              case hy =>
                refine Or.inl ⟨rfl, ?_⟩
                intro w hSw
                go_simp
              try simp only [Act.put, List.setIfInBounds_toArray, List.set_cons_zero, List.set_cons_succ]
              apply wpAnyH_take (i := 6) (v := .int .i64 z4)
              case hi => (simp only [List.getElem?_toArray, List.getElem?_cons_zero, List.getElem?_cons_succ]; rfl)
              case hs => kernel_rfl
              case hf => kernel_rfl
              case hr => kernel_rfl
              case hQ => exact fun _ _ _ h => h
              case hS => exact hHeld
              case hy =>
                refine Or.inl ⟨rfl, ?_⟩
                intro w hSw
                have hcw := Hl4.out w hSw
                go_simp
              try simp only [Act.put, List.setIfInBounds_toArray, List.set_cons_zero, List.set_cons_succ]
              apply wpAnyH_take (i := 7) (v := .int .i64 0)
              case hi => (simp only [List.getElem?_toArray, List.getElem?_cons_zero, List.getElem?_cons_succ]; rfl)
              case hs => kernel_rfl
              case hf => kernel_rfl
              case hr => kernel_rfl
              case hQ => exact fun _ _ _ h => h
              case hS => exact hHeld
              case hy =>
                refine Or.inl ⟨rfl, ?_⟩
                intro w hSw
                go_simp
              try simp only [Act.put, List.setIfInBounds_toArray, List.set_cons_zero, List.set_cons_succ]
              refine wpAnyH_ready (rs := [8]) (by kernel_rfl) (by simp) ?_
              refine AllReadyH.cons rfl (fun K hK => ?_) AllReadyH.nil
              go_simp
              refine (HT.out _).mono ?_
              rintro e w5 ⟨rfl, hk5⟩
              have hk5n : Kp (fun _ => False) wd w5 := ((Kp.refl (fun _ => False) wd).drew).trans hk5 (Gr.refl _ _)
              clear hk5
              refine hK.out _ _ ?_ (fun hHeld => ?_)
              · exact hk5n.mono (fun _ h => h.elim)
              clear hK K
              try simp only [Act.put, List.setIfInBounds_toArray, List.set_cons_zero, List.set_cons_succ]
              refine wpAnyH_ready (rs := [9]) (by kernel_rfl) (by simp) ?_
              refine AllReadyH.cons rfl (fun K hK => ?_) AllReadyH.nil
              obtain ⟨cc, hcb, hsb⟩ := Hcb.out w5
              have Hsb := Lib.hid hsb
              clear hsb
              go_simp
              refine hK.out _ _ ?_ (fun hHeld => ?_)
              · exact (bytes_kp hk5n).mono (fun _ h => h.elim)
              clear hK K
              try simp only [Act.put, List.setIfInBounds_toArray, List.set_cons_zero, List.set_cons_succ]
              have hk5b := bytes_kp (tx := tx) hk5n
              refine wpAnyH_ready (rs := [10]) (by kernel_rfl) (by simp) ?_
              refine AllReadyH.cons rfl (fun K hK => ?_) AllReadyH.nil
              go_simp
              refine (it_write0 (HPd.out.it.kp0 hk5b) (ino := id) (p := p) hi1 hi6 hk _ Hsb.out (by omega)).mono ?_
              rintro e w6 ⟨rfl, hk6⟩
              have hk6n := hk5b.trans hk6 (Gr.refl _ _)
              have hk6F : Kp F1 wd w6 := hk6n.mono (fun _ h => h.elim)
              have HPe := Lib.hid (HPd.out.kp0 hk6n)
              have Hoe := Lib.hid (Hod.out.kp hk6n (fun h => h))
              clear hk6 hk6n
              refine hK.out _ _ ?_ (fun hHeld => ?_)
              · exact hk6F
              clear hK K
              try simp only [Act.put, List.setIfInBounds_toArray, List.set_cons_zero, List.set_cons_succ]
              apply wpAnyH_take (i := 11) (v := .nilIface)
              case hi => (simp only [List.getElem?_toArray, List.getElem?_cons_zero, List.getElem?_cons_succ]; rfl)
              case hs => kernel_rfl
              case hf => kernel_rfl
              case hr => kernel_rfl
              case hQ => exact fun _ _ _ h => h
              case hS => exact hHeld
              case hy =>
                refine Or.inl ⟨rfl, ?_⟩
                intro w hSw
                go_simp
              try simp only [Act.put, List.setIfInBounds_toArray, List.set_cons_zero, List.set_cons_succ]
              refine wpAnyH_done (by kernel_rfl) ?_ _
              obtain ⟨x0', x1', x2', x3', x4'⟩ := Hoe.out.cells
              clear Hl1 Hl2 Hl4 HT Hcb
              go_wp2_with fail
              refine (law_Is_nil _ _ _ _).mono ?_
              rintro e wf ⟨rfl, rfl⟩
              go_wp2_with fail
              go_meet
              exact ⟨R, F1, HPe.out, Hok.out⟩
          · have hl0' : (0 : Int) < (lg : Int) := by omega
            have hl0b : ((lg : Int) == 0) = false := by simp; omega
            have hused : us ≤ nbl := by
              rw [Hus.out]
              obtain ⟨⟨C, T, ht, hR, _⟩, _⟩ := HPd.out.it
              have := it_used ht hR
              omega
            obtain ⟨tt, htt⟩ : ∃ tt, tt = max dl (p + lg) := ⟨_, rfl⟩
            have hmx : max (dl : Int) ((p : Int) + (lg : Int)) = (tt : Int) := by omega
            have HGr := Lib.hid (fun W : World => ref_Grow (w := W) dl tt hdl (by omega))
            obtain ⟨gg, hgg⟩ : ∃ gg, gg = bks tt - bks dl := ⟨_, rfl⟩
            rw [← hgg] at HGr
            have Hgg := Lib.hid hgg
            have Htt := Lib.hid htt
            have ht4 : tt ≤ 4000 := by omega
            have Hmx := Lib.hid (show max (R id).2.length (p + (textZ z4 lg).length) = tt by rw [← Hd.out, ← Hdl.out, textZ_length, htt])
            have Hrl := Lib.hid (show (R id).2.length = dl by rw [← Hd.out, ← Hdl.out])
            have hne : textZ z4 lg ≠ [] := by intro h; have := congrArg List.length h; rw [textZ_length] at this; exact hl0 this
            have Hne := Lib.hid hne
            clear hgg htt hne
            by_cases hfu : free < gg
            · have hfi : (free : Int) < (gg : Int) := by omega
              have Hfl := Lib.hid (show nbl + bks (R id).2.length < usedR R 6 + bks (max (R id).2.length (p + (textZ z4 lg).length)) by
                rw [Hmx.out, Hrl.out, ← Hus.out]; have := Hgg.out; have := Hfree.out; omega)
              clear hused
              as_aux_lemma =>
                have Hl1 := Lib.hid (show ∀ W : World, Kp F1 wd W → W.cell? ⟨b, 1, none⟩ = some (.int .i64 (id : Nat)) from fun W hk => (Hod.out.kp hk HFb.out).cells.2.1)
                have Hl2 := Lib.hid (show ∀ W : World, Kp F1 wd W → W.cell? ⟨b, 2, none⟩ = some (.int .i64 (p : Nat)) from fun W hk => (Hod.out.kp hk HFb.out).cells.2.2.1)
                have Hl4 := Lib.hid (show ∀ W : World, Kp F1 wd W → W.cell? ⟨b, 4, none⟩ = some (.int .i64 z4) from fun W hk => (Hod.out.kp hk HFb.out).cells.2.2.2.2)
                go_upto_region 73 with (first | (go_at_call 22; refine (HGr.out _).mono ?_; rintro e _ ⟨rfl, rfl⟩))
                clear x0 x1 x2 x3 x4
                refine wp_region_held_drew (S := fun W => Kp F1 wd W) (by kernel_rfl) ((Kp.refl _ wd).drew) (fun hHeld => ?_)
                apply wpAnyH_take (i := 0) (v := .pointer (some ⟨bt, 0, none⟩))
                case hi => (simp only [List.getElem?_toArray, List.getElem?_cons_zero, List.getElem?_cons_succ]; rfl)
                case hs => kernel_rfl
                case hf => kernel_rfl
                case hr => kernel_rfl
                case hQ => exact fun _ _ _ h => h
                case hS => exact hHeld
                case hy =>
                  refine Or.inl ⟨rfl, ?_⟩
                  intro w hSw
                  go_simp
                try simp only [Act.put, List.setIfInBounds_toArray, List.set_cons_zero, List.set_cons_succ]
                apply wpAnyH_take (i := 1) (v := .pointer (some ⟨b, 1, none⟩))
                case hi => (simp only [List.getElem?_toArray, List.getElem?_cons_zero, List.getElem?_cons_succ]; rfl)
                case hs => kernel_rfl
                case hf => kernel_rfl
                case hr => kernel_rfl
                case hQ => exact fun _ _ _ h => h
                case hS => exact hHeld
                case hy =>
                  refine Or.inl ⟨rfl, ?_⟩
                  intro w hSw
                  go_simp
                try simp only [Act.put, List.setIfInBounds_toArray, List.set_cons_zero, List.set_cons_succ]
                apply wpAnyH_take (i := 2) (v := .int .i64 (id : Nat))
                case hi => (simp only [List.getElem?_toArray, List.getElem?_cons_zero, List.getElem?_cons_succ]; rfl)
                case hs => kernel_rfl
                case hf => kernel_rfl
                case hr => kernel_rfl
                case hQ => exact fun _ _ _ h => h
                case hS => exact hHeld
                case hy =>
                  refine Or.inl ⟨rfl, ?_⟩
                  intro w hSw
                  have hcw := Hl1.out w hSw
                  go_simp
                try simp only [Act.put, List.setIfInBounds_toArray, List.set_cons_zero, List.set_cons_succ]
                apply wpAnyH_take (i := 3) (v := .pointer (some ⟨b, 2, none⟩))
                case hi => (simp only [List.getElem?_toArray, List.getElem?_cons_zero, List.getElem?_cons_succ]; rfl)
                case hs => kernel_rfl
                case hf => kernel_rfl
                case hr => kernel_rfl
                case hQ => exact fun _ _ _ h => h
                case hS => exact hHeld
                case hy =>
                  refine Or.inl ⟨rfl, ?_⟩
                  intro w hSw
                  go_simp
                try simp only [Act.put, List.setIfInBounds_toArray, List.set_cons_zero, List.set_cons_succ]
                apply wpAnyH_take (i := 4) (v := .int .i64 (p : Nat))
                case hi => (simp only [List.getElem?_toArray, List.getElem?_cons_zero, List.getElem?_cons_succ]; rfl)
                case hs => kernel_rfl
                case hf => kernel_rfl
                case hr => kernel_rfl
                case hQ => exact fun _ _ _ h => h
                case hS => exact hHeld
                case hy =>
                  refine Or.inl ⟨rfl, ?_⟩
                  intro w hSw
                  have hcw := Hl2.out w hSw
                  go_simp
                try simp only [Act.put, List.setIfInBounds_toArray, List.set_cons_zero, List.set_cons_succ]
                apply wpAnyH_take (i := 5) (v := .pointer (some ⟨b, 4, none⟩))
                case hi => (simp only [List.getElem?_toArray, List.getElem?_cons_zero, List.getElem?_cons_succ]; rfl)
                case hs => kernel_rfl
                case hf => kernel_rfl
                case hr => kernel_rfl
                case hQ => exact fun _ _ _ h => h
                case hS => exact hHeld
                case hy =>
                  refine Or.inl ⟨rfl, ?_⟩
                  intro w hSw
                  go_simp
                try simp only [Act.put, List.setIfInBounds_toArray, List.set_cons_zero, List.set_cons_succ]
                apply wpAnyH_take (i := 6) (v := .int .i64 z4)
                case hi => (simp only [List.getElem?_toArray, List.getElem?_cons_zero, List.getElem?_cons_succ]; rfl)
                case hs => kernel_rfl
                case hf => kernel_rfl
                case hr => kernel_rfl
                case hQ => exact fun _ _ _ h => h
                case hS => exact hHeld
                case hy =>
                  refine Or.inl ⟨rfl, ?_⟩
                  intro w hSw
                  have hcw := Hl4.out w hSw
                  go_simp
                try simp only [Act.put, List.setIfInBounds_toArray, List.set_cons_zero, List.set_cons_succ]
                apply wpAnyH_take (i := 7) (v := .int .i64 lg)
                case hi => (simp only [List.getElem?_toArray, List.getElem?_cons_zero, List.getElem?_cons_succ]; rfl)
                case hs => kernel_rfl
                case hf => kernel_rfl
                case hr => kernel_rfl
                case hQ => exact fun _ _ _ h => h
                case hS => exact hHeld
                case hy =>
                  refine Or.inl ⟨rfl, ?_⟩
                  intro w hSw
                  go_simp
                try simp only [Act.put, List.setIfInBounds_toArray, List.set_cons_zero, List.set_cons_succ]
                refine wpAnyH_ready (rs := [8]) (by kernel_rfl) (by simp) ?_
                refine AllReadyH.cons rfl (fun K hK => ?_) AllReadyH.nil
                go_simp
                refine (HT.out _).mono ?_
                rintro e w5 ⟨rfl, hk5⟩
                have hk5n : Kp (fun _ => False) wd w5 := ((Kp.refl (fun _ => False) wd).drew).trans hk5 (Gr.refl _ _)
                clear hk5
                refine hK.out _ _ ?_ (fun hHeld => ?_)
                · exact hk5n.mono (fun _ h => h.elim)
                clear hK K
                try simp only [Act.put, List.setIfInBounds_toArray, List.set_cons_zero, List.set_cons_succ]
                refine wpAnyH_ready (rs := [9]) (by kernel_rfl) (by simp) ?_
                refine AllReadyH.cons rfl (fun K hK => ?_) AllReadyH.nil
                obtain ⟨cc, hcb, hsb⟩ := Hcb.out w5
                have Hsb := Lib.hid hsb
                clear hsb
                go_simp
                refine hK.out _ _ ?_ (fun hHeld => ?_)
                · exact (bytes_kp hk5n).mono (fun _ h => h.elim)
                clear hK K
                try simp only [Act.put, List.setIfInBounds_toArray, List.set_cons_zero, List.set_cons_succ]
                have hk5b := bytes_kp (tx := tx) hk5n
                refine wpAnyH_ready (rs := [10]) (by kernel_rfl) (by simp) ?_
                refine AllReadyH.cons rfl (fun K hK => ?_) AllReadyH.nil
                go_simp
                refine (it_writeFull (HPd.out.it.kp0 hk5b) (ino := id) (p := p) hi1 hi6 hk _ (textZ z4 lg) Hsb.out (textZ_byt _ _) Hne.out (by rw [textZ_length]; omega) Hfl.out).mono ?_
                rintro e w6 ⟨v6, rfl, hv6, hk6⟩
                obtain ⟨t6, y6, rfl⟩ := hv6.iface
                have hk6n := hk5b.trans hk6 (Gr.refl _ _)
                have hk6F : Kp F1 wd w6 := hk6n.mono (fun _ h => h.elim)
                have HPe := Lib.hid (HPd.out.kp0 hk6n)
                have Hv := Lib.hid hv6
                rw [← Hnm.out] at Hv
                have Hoe := Lib.hid (Hod.out.kp hk6n (fun h => h))
                clear hv6 hk6 hk6n
                refine hK.out _ _ ?_ (fun hHeld => ?_)
                · exact hk6F
                clear hK K
                try simp only [Act.put, List.setIfInBounds_toArray, List.set_cons_zero, List.set_cons_succ]
                apply wpAnyH_take (i := 11) (v := .iface t6 y6)
                case hi => (simp only [List.getElem?_toArray, List.getElem?_cons_zero, List.getElem?_cons_succ]; rfl)
                case hs => kernel_rfl
                case hf => kernel_rfl
                case hr => kernel_rfl
                case hQ => exact fun _ _ _ h => h
                case hS => exact hHeld
                case hy =>
                  refine Or.inl ⟨rfl, ?_⟩
                  intro w hSw
                  go_simp
                try simp only [Act.put, List.setIfInBounds_toArray, List.set_cons_zero, List.set_cons_succ]
                refine wpAnyH_done (by kernel_rfl) ?_ _
                obtain ⟨x0', x1', x2', x3', x4'⟩ := Hoe.out.cells
                clear Hl1 Hl2 Hl4 HT Hcb
                go_wp2_with fail
                refine (law_Is Hv.out (by decide) (He.out.kp HPe.out.it.kp Hi.none)).mono ?_
                rintro e wf ⟨rfl, hkf⟩
                clear x0' x1' x2' x3' x4'
                have HPf := Lib.hid (HPe.out.kp0 hkf)
                obtain ⟨x0', x1', x2', x3', x4'⟩ := (Hoe.out.kp hkf (fun h => h)).cells
                clear hkf HPe Hv
                go_wp2_with fail
                go_meet
                exact ⟨R, F1, HPf.out, Hok.out⟩
            · have hfi : ¬ (free : Int) < (gg : Int) := by omega
              have Hfl := Lib.hid (show usedR R 6 + bks (max (R id).2.length (p + (textZ z4 lg).length)) ≤ nbl + bks (R id).2.length by
                rw [Hmx.out, Hrl.out, ← Hus.out]; have := Hgg.out; have := Hfree.out; omega)
              clear hused
              as_aux_lemma =>
                have Hl1 := Lib.hid (show ∀ W : World, Kp F1 wd W → W.cell? ⟨b, 1, none⟩ = some (.int .i64 (id : Nat)) from fun W hk => (Hod.out.kp hk HFb.out).cells.2.1)
                have Hl2 := Lib.hid (show ∀ W : World, Kp F1 wd W → W.cell? ⟨b, 2, none⟩ = some (.int .i64 (p : Nat)) from fun W hk => (Hod.out.kp hk HFb.out).cells.2.2.1)
                have Hl4 := Lib.hid (show ∀ W : World, Kp F1 wd W → W.cell? ⟨b, 4, none⟩ = some (.int .i64 z4) from fun W hk => (Hod.out.kp hk HFb.out).cells.2.2.2.2)
                go_upto_region 73 with (first | (go_at_call 22; refine (HGr.out _).mono ?_; rintro e _ ⟨rfl, rfl⟩))
                clear x0 x1 x2 x3 x4
                refine wp_region_held_drew (S := fun W => Kp F1 wd W) (by kernel_rfl) ((Kp.refl _ wd).drew) (fun hHeld => ?_)
                apply wpAnyH_take (i := 0) (v := .pointer (some ⟨bt, 0, none⟩))
                case hi => (simp only [List.getElem?_toArray, List.getElem?_cons_zero, List.getElem?_cons_succ]; rfl)
                case hs => kernel_rfl
                case hf => kernel_rfl
                case hr => kernel_rfl
                case hQ => exact fun _ _ _ h => h
                case hS => exact hHeld
                case hy =>
                  refine Or.inl ⟨rfl, ?_⟩
                  intro w hSw
                  go_simp
                try simp only [Act.put, List.setIfInBounds_toArray, List.set_cons_zero, List.set_cons_succ]
                apply wpAnyH_take (i := 1) (v := .pointer (some ⟨b, 1, none⟩))
                case hi => (simp only [List.getElem?_toArray, List.getElem?_cons_zero, List.getElem?_cons_succ]; rfl)
                case hs => kernel_rfl
                case hf => kernel_rfl
                case hr => kernel_rfl
                case hQ => exact fun _ _ _ h => h
                case hS => exact hHeld
                case hy =>
                  refine Or.inl ⟨rfl, ?_⟩
                  intro w hSw
                  go_simp
                try simp only [Act.put, List.setIfInBounds_toArray, List.set_cons_zero, List.set_cons_succ]
                apply wpAnyH_take (i := 2) (v := .int .i64 (id : Nat))
                case hi => (simp only [List.getElem?_toArray, List.getElem?_cons_zero, List.getElem?_cons_succ]; rfl)
                case hs => kernel_rfl
                case hf => kernel_rfl
                case hr => kernel_rfl
                case hQ => exact fun _ _ _ h => h
                case hS => exact hHeld
                case hy =>
                  refine Or.inl ⟨rfl, ?_⟩
                  intro w hSw
                  have hcw := Hl1.out w hSw
                  go_simp
                try simp only [Act.put, List.setIfInBounds_toArray, List.set_cons_zero, List.set_cons_succ]
                apply wpAnyH_take (i := 3) (v := .pointer (some ⟨b, 2, none⟩))
                case hi => (simp only [List.getElem?_toArray, List.getElem?_cons_zero, List.getElem?_cons_succ]; rfl)
                case hs => kernel_rfl
                case hf => kernel_rfl
                case hr => kernel_rfl
                case hQ => exact fun _ _ _ h => h
                case hS => exact hHeld
                case hy =>
                  refine Or.inl ⟨rfl, ?_⟩
                  intro w hSw
                  go_simp
                try simp only [Act.put, List.setIfInBounds_toArray, List.set_cons_zero, List.set_cons_succ]
                apply wpAnyH_take (i := 4) (v := .int .i64 (p : Nat))
                case hi => (simp only [List.getElem?_toArray, List.getElem?_cons_zero, List.getElem?_cons_succ]; rfl)
                case hs => kernel_rfl
                case hf => kernel_rfl
                case hr => kernel_rfl
                case hQ => exact fun _ _ _ h => h
                case hS => exact hHeld
                case hy =>
                  refine Or.inl ⟨rfl, ?_⟩
                  intro w hSw
                  have hcw := Hl2.out w hSw
                  go_simp
                try simp only [Act.put, List.setIfInBounds_toArray, List.set_cons_zero, List.set_cons_succ]
                apply wpAnyH_take (i := 5) (v := .pointer (some ⟨b, 4, none⟩))
                case hi => (simp only [List.getElem?_toArray, List.getElem?_cons_zero, List.getElem?_cons_succ]; rfl)
                case hs => kernel_rfl
                case hf => kernel_rfl
                case hr => kernel_rfl
                case hQ => exact fun _ _ _ h => h
                case hS => exact hHeld
                case hy =>
                  refine Or.inl ⟨rfl, ?_⟩
                  intro w hSw
                  go_simp
                try simp only [Act.put, List.setIfInBounds_toArray, List.set_cons_zero, List.set_cons_succ]
                apply wpAnyH_take (i := 6) (v := .int .i64 z4)
                case hi => (simp only [List.getElem?_toArray, List.getElem?_cons_zero, List.getElem?_cons_succ]; rfl)
                case hs => kernel_rfl
                case hf => kernel_rfl
                case hr => kernel_rfl
                case hQ => exact fun _ _ _ h => h
                case hS => exact hHeld
                case hy =>
                  refine Or.inl ⟨rfl, ?_⟩
                  intro w hSw
                  have hcw := Hl4.out w hSw
                  go_simp
                try simp only [Act.put, List.setIfInBounds_toArray, List.set_cons_zero, List.set_cons_succ]
                apply wpAnyH_take (i := 7) (v := .int .i64 lg)
                case hi => (simp only [List.getElem?_toArray, List.getElem?_cons_zero, List.getElem?_cons_succ]; rfl)
                case hs => kernel_rfl
                case hf => kernel_rfl
                case hr => kernel_rfl
                case hQ => exact fun _ _ _ h => h
                case hS => exact hHeld
                case hy =>
                  refine Or.inl ⟨rfl, ?_⟩
                  intro w hSw
                  go_simp
                try simp only [Act.put, List.setIfInBounds_toArray, List.set_cons_zero, List.set_cons_succ]
                refine wpAnyH_ready (rs := [8]) (by kernel_rfl) (by simp) ?_
                refine AllReadyH.cons rfl (fun K hK => ?_) AllReadyH.nil
                go_simp
                refine (HT.out _).mono ?_
                rintro e w5 ⟨rfl, hk5⟩
                have hk5n : Kp (fun _ => False) wd w5 := ((Kp.refl (fun _ => False) wd).drew).trans hk5 (Gr.refl _ _)
                clear hk5
                refine hK.out _ _ ?_ (fun hHeld => ?_)
                · exact hk5n.mono (fun _ h => h.elim)
                clear hK K
                try simp only [Act.put, List.setIfInBounds_toArray, List.set_cons_zero, List.set_cons_succ]
                refine wpAnyH_ready (rs := [9]) (by kernel_rfl) (by simp) ?_
                refine AllReadyH.cons rfl (fun K hK => ?_) AllReadyH.nil
                obtain ⟨cc, hcb, hsb⟩ := Hcb.out w5
                have Hsb := Lib.hid hsb
                clear hsb
                go_simp
                refine hK.out _ _ ?_ (fun hHeld => ?_)
                · exact (bytes_kp hk5n).mono (fun _ h => h.elim)
                clear hK K
                try simp only [Act.put, List.setIfInBounds_toArray, List.set_cons_zero, List.set_cons_succ]
                have hk5b := bytes_kp (tx := tx) hk5n
                refine wpAnyH_ready (rs := [10]) (by kernel_rfl) (by simp) ?_
                refine AllReadyH.cons rfl (fun K hK => ?_) AllReadyH.nil
                go_simp
                refine (it_write (HPd.out.it.kp0 hk5b) (ino := id) (p := p) hi1 hi6 hk _ (textZ z4 lg) Hsb.out (textZ_byt _ _) Hne.out (by rw [textZ_length]; omega) Hfl.out).mono ?_
                rintro e w6 ⟨rfl, F2, hit, hk6, hg6⟩
                rw [← Hd.out] at hit
                have hk6F : Kp F1 wd w6 := (hk5b.mono (F' := F1) (fun _ h => h.elim)).trans hk6 (Gr.refl _ _)
                have HPe := Lib.hid ((HPd.out.kp0 hk5b).turn hit hk6 hg6)
                have Hoe := Lib.hid (Hod.out.kp hk6F HFb.out)
                clear hk6 hg6 hit
                refine hK.out _ _ ?_ (fun hHeld => ?_)
                · exact hk6F
                clear hK K
                try simp only [Act.put, List.setIfInBounds_toArray, List.set_cons_zero, List.set_cons_succ]
                apply wpAnyH_take (i := 11) (v := .nilIface)
                case hi => (simp only [List.getElem?_toArray, List.getElem?_cons_zero, List.getElem?_cons_succ]; rfl)
                case hs => kernel_rfl
                case hf => kernel_rfl
                case hr => kernel_rfl
                case hQ => exact fun _ _ _ h => h
                case hS => exact hHeld
                case hy =>
                  refine Or.inl ⟨rfl, ?_⟩
                  intro w hSw
                  go_simp
                try simp only [Act.put, List.setIfInBounds_toArray, List.set_cons_zero, List.set_cons_succ]
                refine wpAnyH_done (by kernel_rfl) ?_ _
                obtain ⟨x0', x1', x2', x3', x4'⟩ := Hoe.out.cells
                clear Hl1 Hl2 Hl4 Hcb
                go_wp2_with fail
                refine (law_Is_nil _ _ _ _).mono ?_
                rintro e wf ⟨rfl, rfl⟩
                have yd' := HPe.out.data hi6
                rw [← Hd.out, ← Hsd.out] at yd'
                have HGn := Lib.hid (show ∀ W : World, Calls Tryz.prog 26 #[.string sd, .int .i64 tt] W fun e w' => e = .returned (.string (str (grownL d tt))) ∧ Kp (fun _ => False) W w' by rw [Hsd.out]; exact fun W => grown_ok d tt (by have := Hdl.out; omega) (by omega))
                go_wp2_with fail
                refine (HGn.out _).mono ?_
                rintro e w9 ⟨rfl, hk9⟩
                have HPg0 := Lib.hid (HPe.out.kp0 hk9)
                have Hog := Lib.hid (Hoe.out.kp hk9 (fun h => h))
                obtain ⟨g, hgd⟩ : ∃ g, g = p + lg := ⟨_, rfl⟩
                have Hg := Lib.hid (show grownL d tt = grownL d g by rw [Htt.out, hgd, Hdl.out]; exact grownL_max d (p + lg))
                have hGl : p ≤ (grownL d g).length ∧ g ≤ (grownL d g).length ∧ (grownL d g).length ≤ 4000 := by rw [grownL_len, ← Hdl.out]; omega
                have HW := Lib.hid (show (str ((grownL d g).take p) ++ str (textZ z4 lg)) ++ str ((grownL d g).drop g) = str (wrAt d p (textZ z4 lg)) by
                  rw [str_app, str_app, wrAt_eq, textZ_length, ← hgd])
                rw [Hg.out]
                obtain ⟨sG, hsG⟩ : ∃ sG, sG = str (grownL d g) := ⟨_, rfl⟩
                obtain ⟨s1, hs1⟩ : ∃ s1, s1 = str ((grownL d g).take p) := ⟨_, rfl⟩
                obtain ⟨s3, hs3⟩ : ∃ s3, s3 = str ((grownL d g).drop g) := ⟨_, rfl⟩
                have z0 : sG.size = (grownL d g).length := by rw [hsG, str_size]
                have x1s : sG.extract 0 p = s1 := by rw [hsG, hs1, str_cut]; simp
                have x2s : sG.extract g (grownL d g).length = s3 := by rw [hsG, hs3, str_cut]; congr 1; rw [List.take_of_length_le (by simp)]
                have z1s : s1.size = p := by rw [hs1, str_size, List.length_take]; omega
                have z2s : tx.size = lg := by rw [Htx.out, str_size, textZ_length]
                have z3s : s3.size = (grownL d g).length - g := by rw [hs3, str_size, List.length_drop]
                have z4s : (s1 ++ tx).size = g := by rw [ByteArray.size_append]; omega
                rw [← hsG]
                rw [← hs1, ← hs3, ← Htx.out] at HW
                have hGa : p ≤ (grownL d g).length := hGl.1
                have hGb : g ≤ (grownL d g).length := hGl.2.1
                have hG4 : (grownL d g).length ≤ 4000 := hGl.2.2
                clear hsG hs1 hs3 hGl
                generalize (grownL d g).length = G at *
                have hpg : (p : Int) + (lg : Int) = (g : Int) := by omega
                clear hgd
                have hGi1 : (p : Int) ≤ (G : Int) := by omega
                have hGi2 : (g : Int) ≤ (G : Int) := by omega
                clear hk9 HGn x0' x1' x2' x3' x4' yd'
                have HPg := Lib.hid HPg0.out
                have Hm1 := Lib.hid (show ∀ W : World, Kp (fun x => x = bq) w9 W → W.cell? ⟨b, 1, none⟩ = some (.int .i64 (id : Nat)) from fun W hk => (Hog.out.kp hk (fun e => Hbne.out e)).cells.2.1)
                have Hm2 := Lib.hid (show ∀ W : World, Kp (fun x => x = bq) w9 W → W.cell? ⟨b, 2, none⟩ = some (.int .i64 (p : Nat)) from fun W hk => (Hog.out.kp hk (fun e => Hbne.out e)).cells.2.2.1)
                have Hm4 := Lib.hid (show ∀ W : World, Kp (fun x => x = bq) w9 W → W.cell? ⟨b, 4, none⟩ = some (.int .i64 z4) from fun W hk => (Hog.out.kp hk (fun e => Hbne.out e)).cells.2.2.2.2)
                clear HPg0
                go_upto_region 79 with fail
                refine wp_region_held_drew (S := fun W => Kp (fun x => x = bq) w9 W) (by kernel_rfl) ((Kp.refl _ w9).drew) (fun hHeld => ?_)
                apply wpAnyH_take (i := 0) (v := .pointer (some ⟨b, 1, none⟩))
                case hi => (simp only [List.getElem?_toArray, List.getElem?_cons_zero, List.getElem?_cons_succ]; rfl)
                case hs => kernel_rfl
                case hf => kernel_rfl
                case hr => kernel_rfl
                case hQ => exact fun _ _ _ h => h
                case hS => exact hHeld
                case hy =>
                  refine Or.inl ⟨rfl, ?_⟩
                  intro w hSw
                  go_simp
                try simp only [Act.put, List.setIfInBounds_toArray, List.set_cons_zero, List.set_cons_succ]
                apply wpAnyH_take (i := 1) (v := .int .i64 (id : Nat))
                case hi => (simp only [List.getElem?_toArray, List.getElem?_cons_zero, List.getElem?_cons_succ]; rfl)
                case hs => kernel_rfl
                case hf => kernel_rfl
                case hr => kernel_rfl
                case hQ => exact fun _ _ _ h => h
                case hS => exact hHeld
                case hy =>
                  refine Or.inl ⟨rfl, ?_⟩
                  intro w hSw
                  have hcw := Hm1.out w hSw
                  go_simp
                try simp only [Act.put, List.setIfInBounds_toArray, List.set_cons_zero, List.set_cons_succ]
                apply wpAnyH_take (i := 2) (v := .string sG)
                case hi => (simp only [List.getElem?_toArray, List.getElem?_cons_zero, List.getElem?_cons_succ]; rfl)
                case hs => kernel_rfl
                case hf => kernel_rfl
                case hr => kernel_rfl
                case hQ => exact fun _ _ _ h => h
                case hS => exact hHeld
                case hy =>
                  refine Or.inl ⟨rfl, ?_⟩
                  intro w hSw
                  go_simp
                try simp only [Act.put, List.setIfInBounds_toArray, List.set_cons_zero, List.set_cons_succ]
                apply wpAnyH_take (i := 3) (v := .pointer (some ⟨b, 2, none⟩))
                case hi => (simp only [List.getElem?_toArray, List.getElem?_cons_zero, List.getElem?_cons_succ]; rfl)
                case hs => kernel_rfl
                case hf => kernel_rfl
                case hr => kernel_rfl
                case hQ => exact fun _ _ _ h => h
                case hS => exact hHeld
                case hy =>
                  refine Or.inl ⟨rfl, ?_⟩
                  intro w hSw
                  go_simp
                try simp only [Act.put, List.setIfInBounds_toArray, List.set_cons_zero, List.set_cons_succ]
                apply wpAnyH_take (i := 4) (v := .int .i64 (p : Nat))
                case hi => (simp only [List.getElem?_toArray, List.getElem?_cons_zero, List.getElem?_cons_succ]; rfl)
                case hs => kernel_rfl
                case hf => kernel_rfl
                case hr => kernel_rfl
                case hQ => exact fun _ _ _ h => h
                case hS => exact hHeld
                case hy =>
                  refine Or.inl ⟨rfl, ?_⟩
                  intro w hSw
                  have hcw := Hm2.out w hSw
                  go_simp
                try simp only [Act.put, List.setIfInBounds_toArray, List.set_cons_zero, List.set_cons_succ]
                apply wpAnyH_take (i := 5) (v := .string s1)
                case hi => (simp only [List.getElem?_toArray, List.getElem?_cons_zero, List.getElem?_cons_succ]; rfl)
                case hs => kernel_rfl
                case hf => kernel_rfl
                case hr => kernel_rfl
                case hQ => exact fun _ _ _ h => h
                case hS => exact hHeld
                case hy =>
                  refine Or.inl ⟨rfl, ?_⟩
                  intro w hSw
                  go_simp
                try simp only [Act.put, List.setIfInBounds_toArray, List.set_cons_zero, List.set_cons_succ]
                apply wpAnyH_take (i := 6) (v := .pointer (some ⟨b, 4, none⟩))
                case hi => (simp only [List.getElem?_toArray, List.getElem?_cons_zero, List.getElem?_cons_succ]; rfl)
                case hs => kernel_rfl
                case hf => kernel_rfl
                case hr => kernel_rfl
                case hQ => exact fun _ _ _ h => h
                case hS => exact hHeld
                case hy =>
                  refine Or.inl ⟨rfl, ?_⟩
                  intro w hSw
                  go_simp
                try simp only [Act.put, List.setIfInBounds_toArray, List.set_cons_zero, List.set_cons_succ]
                apply wpAnyH_take (i := 7) (v := .int .i64 z4)
                case hi => (simp only [List.getElem?_toArray, List.getElem?_cons_zero, List.getElem?_cons_succ]; rfl)
                case hs => kernel_rfl
                case hf => kernel_rfl
                case hr => kernel_rfl
                case hQ => exact fun _ _ _ h => h
                case hS => exact hHeld
                case hy =>
                  refine Or.inl ⟨rfl, ?_⟩
                  intro w hSw
                  have hcw := Hm4.out w hSw
                  go_simp
                try simp only [Act.put, List.setIfInBounds_toArray, List.set_cons_zero, List.set_cons_succ]
                apply wpAnyH_take (i := 8) (v := .int .i64 lg)
                case hi => (simp only [List.getElem?_toArray, List.getElem?_cons_zero, List.getElem?_cons_succ]; rfl)
                case hs => kernel_rfl
                case hf => kernel_rfl
                case hr => kernel_rfl
                case hQ => exact fun _ _ _ h => h
                case hS => exact hHeld
                case hy =>
                  refine Or.inl ⟨rfl, ?_⟩
                  intro w hSw
                  go_simp
                try simp only [Act.put, List.setIfInBounds_toArray, List.set_cons_zero, List.set_cons_succ]
                apply wpAnyH_take (i := 11) (v := .string sG)
                case hi => (simp only [List.getElem?_toArray, List.getElem?_cons_zero, List.getElem?_cons_succ]; rfl)
                case hs => kernel_rfl
                case hf => kernel_rfl
                case hr => kernel_rfl
                case hQ => exact fun _ _ _ h => h
                case hS => exact hHeld
                case hy =>
                  refine Or.inl ⟨rfl, ?_⟩
                  intro w hSw
                  go_simp
                try simp only [Act.put, List.setIfInBounds_toArray, List.set_cons_zero, List.set_cons_succ]
                apply wpAnyH_take (i := 12) (v := .pointer (some ⟨b, 2, none⟩))
                case hi => (simp only [List.getElem?_toArray, List.getElem?_cons_zero, List.getElem?_cons_succ]; rfl)
                case hs => kernel_rfl
                case hf => kernel_rfl
                case hr => kernel_rfl
                case hQ => exact fun _ _ _ h => h
                case hS => exact hHeld
                case hy =>
                  refine Or.inl ⟨rfl, ?_⟩
                  intro w hSw
                  go_simp
                try simp only [Act.put, List.setIfInBounds_toArray, List.set_cons_zero, List.set_cons_succ]
                apply wpAnyH_take (i := 13) (v := .int .i64 (p : Nat))
                case hi => (simp only [List.getElem?_toArray, List.getElem?_cons_zero, List.getElem?_cons_succ]; rfl)
                case hs => kernel_rfl
                case hf => kernel_rfl
                case hr => kernel_rfl
                case hQ => exact fun _ _ _ h => h
                case hS => exact hHeld
                case hy =>
                  refine Or.inl ⟨rfl, ?_⟩
                  intro w hSw
                  have hcw := Hm2.out w hSw
                  go_simp
                try simp only [Act.put, List.setIfInBounds_toArray, List.set_cons_zero, List.set_cons_succ]
                apply wpAnyH_take (i := 14) (v := .int .i64 lg)
                case hi => (simp only [List.getElem?_toArray, List.getElem?_cons_zero, List.getElem?_cons_succ]; rfl)
                case hs => kernel_rfl
                case hf => kernel_rfl
                case hr => kernel_rfl
                case hQ => exact fun _ _ _ h => h
                case hS => exact hHeld
                case hy =>
                  refine Or.inl ⟨rfl, ?_⟩
                  intro w hSw
                  go_simp
                try simp only [Act.put, List.setIfInBounds_toArray, List.set_cons_zero, List.set_cons_succ]
                apply wpAnyH_take (i := 15) (v := .int .i64 (g : Nat))
                case hi => (simp only [List.getElem?_toArray, List.getElem?_cons_zero, List.getElem?_cons_succ]; rfl)
                case hs => kernel_rfl
                case hf => kernel_rfl
                case hr => kernel_rfl
                case hQ => exact fun _ _ _ h => h
                case hS => exact hHeld
                case hy =>
                  refine Or.inl ⟨rfl, ?_⟩
                  intro w hSw
                  go_simp
                  exact IntWalk.i64_in _ (by omega)
                try simp only [Act.put, List.setIfInBounds_toArray, List.set_cons_zero, List.set_cons_succ]
                apply wpAnyH_take (i := 16) (v := .string s3)
                case hi => (simp only [List.getElem?_toArray, List.getElem?_cons_zero, List.getElem?_cons_succ]; rfl)
                case hs => kernel_rfl
                case hf => kernel_rfl
                case hr => kernel_rfl
                case hQ => exact fun _ _ _ h => h
                case hS => exact hHeld
                case hy =>
                  refine Or.inl ⟨rfl, ?_⟩
                  intro w hSw
                  go_simp
                try simp only [Act.put, List.setIfInBounds_toArray, List.set_cons_zero, List.set_cons_succ]
                refine wpAnyH_ready (rs := [9]) (by kernel_rfl) (by simp) ?_
                refine AllReadyH.cons rfl (fun K hK => ?_) AllReadyH.nil
                go_simp
                refine (HT.out _).mono ?_
                rintro e w7 ⟨rfl, hk7⟩
                have hk7n : Kp (fun _ => False) w9 w7 := ((Kp.refl (fun _ => False) w9).drew).trans hk7 (Gr.refl _ _)
                have HP7 := Lib.hid (HPg.out.kp0 hk7n)
                have y7 := HP7.out.data hi6
                have f7 := HP7.out.froz (id * 2 + 1)
                clear hk7
                refine hK.out _ _ ?_ (fun hHeld => ?_)
                · exact hk7n.mono (fun _ h => h.elim)
                clear hK K
                try simp only [Act.put, List.setIfInBounds_toArray, List.set_cons_zero, List.set_cons_succ]
                apply wpAnyH_take (i := 10) (v := .string (s1 ++ tx))
                case hi => (simp only [List.getElem?_toArray, List.getElem?_cons_zero, List.getElem?_cons_succ]; rfl)
                case hs => kernel_rfl
                case hf => kernel_rfl
                case hr => kernel_rfl
                case hQ => exact fun _ _ _ h => h
                case hS => exact hHeld
                case hy =>
                  refine Or.inl ⟨rfl, ?_⟩
                  intro w hSw
                  go_simp
                  omega
                try simp only [Act.put, List.setIfInBounds_toArray, List.set_cons_zero, List.set_cons_succ]
                apply wpAnyH_take (i := 17) (v := .string (s1 ++ tx ++ s3))
                case hi => (simp only [List.getElem?_toArray, List.getElem?_cons_zero, List.getElem?_cons_succ]; rfl)
                case hs => kernel_rfl
                case hf => kernel_rfl
                case hr => kernel_rfl
                case hQ => exact fun _ _ _ h => h
                case hS => exact hHeld
                case hy =>
                  refine Or.inl ⟨rfl, ?_⟩
                  intro w hSw
                  go_simp
                  omega
                try simp only [Act.put, List.setIfInBounds_toArray, List.set_cons_zero, List.set_cons_succ]
                apply wpAnyH_take (i := 18) (v := .pointer (some ⟨bq, id * 2, none⟩))
                case hi => (simp only [List.getElem?_toArray, List.getElem?_cons_zero, List.getElem?_cons_succ]; rfl)
                case hs => kernel_rfl
                case hf => kernel_rfl
                case hr => kernel_rfl
                case hQ => exact fun _ _ _ h => h
                case hS => exact hHeld
                case hy =>
                  refine Or.inl ⟨rfl, ?_⟩
                  intro w hSw
                  go_simp
                try simp only [Act.put, List.setIfInBounds_toArray, List.set_cons_zero, List.set_cons_succ]
                apply wpAnyH_take (i := 19) (v := .pointer (some ⟨bq, id * 2 + 1, none⟩))
                case hi => (simp only [List.getElem?_toArray, List.getElem?_cons_zero, List.getElem?_cons_succ]; rfl)
                case hs => kernel_rfl
                case hf => kernel_rfl
                case hr => kernel_rfl
                case hQ => exact fun _ _ _ h => h
                case hS => exact hHeld
                case hy =>
                  refine Or.inl ⟨rfl, ?_⟩
                  intro w hSw
                  go_simp
                try simp only [Act.put, List.setIfInBounds_toArray, List.set_cons_zero, List.set_cons_succ]
                refine wpAnyH_ready (rs := [20]) (by kernel_rfl) (by simp) ?_
                refine AllReadyH.cons rfl (fun K hK => ?_) AllReadyH.nil
                go_simp
                refine hK.out _ _ ?_ (fun hHeld => ?_)
                · exact Kp.setCell (F := fun x => x = bq) (p := ⟨bq, id * 2 + 1, none⟩) (hk7n.mono (fun _ h => h.elim)) (.inl rfl) _
                clear hK K
                try simp only [Act.put, List.setIfInBounds_toArray, List.set_cons_zero, List.set_cons_succ]
                refine wpAnyH_done (by kernel_rfl) ?_ _
                have hset := HP7.out.setData hi6 (wrAt d p (textZ z4 lg))
                rw [← HW.out] at hset
                have HP8 := Lib.hid hset
                have hk78 : Kp (fun x => x = bq) w7 (w7.setCell ⟨bq, id * 2 + 1, none⟩ (.string (s1 ++ tx ++ s3))) := Kp.setCell (F := fun x => x = bq) (p := ⟨bq, id * 2 + 1, none⟩) (Kp.refl _ w7) (.inl rfl) _
                have Ho8 := Lib.hid ((Hog.out.kp hk7n (fun h => h)).kp hk78 (fun e => Hbne.out e))
                obtain ⟨x0', x1', x2', x3', x4'⟩ := Ho8.out.cells
                clear hset hk78 y7 f7
                generalize w7.setCell ⟨bq, id * 2 + 1, none⟩ (.string (s1 ++ tx ++ s3)) = w8 at *
                go_wp2_with fail
                go_meet
                exact ⟨_, F2, HP8.out, Hok.out.set (Hok.out id).1 (by rw [wrAt_len, textZ_length, ← Hdl.out]; omega) (wrAt_byt (by rw [Hd.out]; exact (Hok.out id).2.2.1) (textZ_byt _ _) p) (fun h => absurd h hk)⟩
  · obtain rfl : inb = false := by rw [Hinb.out]; exact decide_eq_false hin
    have hno : z1 < 1 ∨ 6 < z1 := by omega
    have HH := Lib.hid (fun (W : World) (hk : Kp (fun _ => False) wd W) => it_hadArg (HPd.out.it.kp0 hk) (ino := z1) (good := decide (0 ≤ z2)) (.inl hno) hb1.1 hb1.2)
    clear Hfree Hus hno Hinb hin
    as_aux_lemma =>
      have Hl1 := Lib.hid (show ∀ W : World, Kp F1 wd W → W.cell? ⟨b, 1, none⟩ = some (.int .i64 z1) from fun W hk => (Hod.out.kp hk HFb.out).cells.2.1)
      have Hl2 := Lib.hid (show ∀ W : World, Kp F1 wd W → W.cell? ⟨b, 2, none⟩ = some (.int .i64 z2) from fun W hk => (Hod.out.kp hk HFb.out).cells.2.2.1)
      have Hl4 := Lib.hid (show ∀ W : World, Kp F1 wd W → W.cell? ⟨b, 4, none⟩ = some (.int .i64 z4) from fun W hk => (Hod.out.kp hk HFb.out).cells.2.2.2.2)
      go_upto_region 73 with (first | (go_at_call 22; refine (HGr.out _).mono ?_; rintro e _ ⟨rfl, rfl⟩))
      clear x0 x1 x2 x3 x4
      refine wp_region_held_drew (S := fun W => Kp F1 wd W) (by kernel_rfl) ((Kp.refl _ wd).drew) (fun hHeld => ?_)
      apply wpAnyH_take (i := 0) (v := .pointer (some ⟨bt, 0, none⟩))
      case hi => (simp only [List.getElem?_toArray, List.getElem?_cons_zero, List.getElem?_cons_succ]; rfl)
      case hs => kernel_rfl
      case hf => kernel_rfl
      case hr => kernel_rfl
      case hQ => exact fun _ _ _ h => h
      case hS => exact hHeld
      case hy =>
        refine Or.inl ⟨rfl, ?_⟩
        intro w hSw
        go_simp
      try simp only [Act.put, List.setIfInBounds_toArray, List.set_cons_zero, List.set_cons_succ]
      apply wpAnyH_take (i := 1) (v := .pointer (some ⟨b, 1, none⟩))
      case hi => (simp only [List.getElem?_toArray, List.getElem?_cons_zero, List.getElem?_cons_succ]; rfl)
      case hs => kernel_rfl
      case hf => kernel_rfl
      case hr => kernel_rfl
      case hQ => exact fun _ _ _ h => h
      case hS => exact hHeld
      case hy =>
        refine Or.inl ⟨rfl, ?_⟩
        intro w hSw
        go_simp
      try simp only [Act.put, List.setIfInBounds_toArray, List.set_cons_zero, List.set_cons_succ]
      apply wpAnyH_take (i := 2) (v := .int .i64 z1)
      case hi => (simp only [List.getElem?_toArray, List.getElem?_cons_zero, List.getElem?_cons_succ]; rfl)
      case hs => kernel_rfl
      case hf => kernel_rfl
      case hr => kernel_rfl
      case hQ => exact fun _ _ _ h => h
      case hS => exact hHeld
      case hy =>
        refine Or.inl ⟨rfl, ?_⟩
        intro w hSw
        have hcw := Hl1.out w hSw
        go_simp
      try simp only [Act.put, List.setIfInBounds_toArray, List.set_cons_zero, List.set_cons_succ]
      apply wpAnyH_take (i := 3) (v := .pointer (some ⟨b, 2, none⟩))
      case hi => (simp only [List.getElem?_toArray, List.getElem?_cons_zero, List.getElem?_cons_succ]; rfl)
      case hs => kernel_rfl
      case hf => kernel_rfl
      case hr => kernel_rfl
      case hQ => exact fun _ _ _ h => h
      case hS => exact hHeld
      case hy =>
        refine Or.inl ⟨rfl, ?_⟩
        intro w hSw
        go_simp
      try simp only [Act.put, List.setIfInBounds_toArray, List.set_cons_zero, List.set_cons_succ]
      apply wpAnyH_take (i := 4) (v := .int .i64 z2)
      case hi => (simp only [List.getElem?_toArray, List.getElem?_cons_zero, List.getElem?_cons_succ]; rfl)
      case hs => kernel_rfl
      case hf => kernel_rfl
      case hr => kernel_rfl
      case hQ => exact fun _ _ _ h => h
      case hS => exact hHeld
      case hy =>
        refine Or.inl ⟨rfl, ?_⟩
        intro w hSw
        have hcw := Hl2.out w hSw
        go_simp
      try simp only [Act.put, List.setIfInBounds_toArray, List.set_cons_zero, List.set_cons_succ]
      apply wpAnyH_take (i := 5) (v := .pointer (some ⟨b, 4, none⟩))
      case hi => (simp only [List.getElem?_toArray, List.getElem?_cons_zero, List.getElem?_cons_succ]; rfl)
      case hs => kernel_rfl
      case hf => kernel_rfl
      case hr => kernel_rfl
      case hQ => exact fun _ _ _ h => h
      case hS => exact hHeld
      case hy =>
        refine Or.inl ⟨rfl, ?_⟩
        intro w hSw
        go_simp
      try simp only [Act.put, List.setIfInBounds_toArray, List.set_cons_zero, List.set_cons_succ]
      apply wpAnyH_take (i := 6) (v := .int .i64 z4)
      case hi => (simp only [List.getElem?_toArray, List.getElem?_cons_zero, List.getElem?_cons_succ]; rfl)
      case hs => kernel_rfl
      case hf => kernel_rfl
      case hr => kernel_rfl
      case hQ => exact fun _ _ _ h => h
      case hS => exact hHeld
      case hy =>
        refine Or.inl ⟨rfl, ?_⟩
        intro w hSw
        have hcw := Hl4.out w hSw
        go_simp
      try simp only [Act.put, List.setIfInBounds_toArray, List.set_cons_zero, List.set_cons_succ]
      apply wpAnyH_take (i := 7) (v := .int .i64 lg)
      case hi => (simp only [List.getElem?_toArray, List.getElem?_cons_zero, List.getElem?_cons_succ]; rfl)
      case hs => kernel_rfl
      case hf => kernel_rfl
      case hr => kernel_rfl
      case hQ => exact fun _ _ _ h => h
      case hS => exact hHeld
      case hy =>
        refine Or.inl ⟨rfl, ?_⟩
        intro w hSw
        go_simp
      try simp only [Act.put, List.setIfInBounds_toArray, List.set_cons_zero, List.set_cons_succ]
      refine wpAnyH_ready (rs := [8]) (by kernel_rfl) (by simp) ?_
      refine AllReadyH.cons rfl (fun K hK => ?_) AllReadyH.nil
      go_simp
      refine (HT.out _).mono ?_
      rintro e w5 ⟨rfl, hk5⟩
      have hk5n : Kp (fun _ => False) wd w5 := ((Kp.refl (fun _ => False) wd).drew).trans hk5 (Gr.refl _ _)
      clear hk5
      refine hK.out _ _ ?_ (fun hHeld => ?_)
      · exact hk5n.mono (fun _ h => h.elim)
      clear hK K
      try simp only [Act.put, List.setIfInBounds_toArray, List.set_cons_zero, List.set_cons_succ]
      refine wpAnyH_ready (rs := [9]) (by kernel_rfl) (by simp) ?_
      refine AllReadyH.cons rfl (fun K hK => ?_) AllReadyH.nil
      obtain ⟨cc, hcb, hsb⟩ := Hcb.out w5
      have Hsb := Lib.hid hsb
      clear hsb
      go_simp
      refine hK.out _ _ ?_ (fun hHeld => ?_)
      · exact (bytes_kp hk5n).mono (fun _ h => h.elim)
      clear hK K
      try simp only [Act.put, List.setIfInBounds_toArray, List.set_cons_zero, List.set_cons_succ]
      have hk5b := bytes_kp (tx := tx) hk5n
      refine wpAnyH_ready (rs := [10]) (by kernel_rfl) (by simp) ?_
      refine AllReadyH.cons rfl (fun K hK => ?_) AllReadyH.nil
      go_simp
      refine (inode_Write_err _ rfl (HH.out _ hk5b)).mono ?_
      rintro e w6 ⟨v6, rfl, hv6, hk6⟩
      obtain ⟨t6, y6, rfl⟩ := hv6.iface
      have hk6n := hk5b.trans hk6 (Gr.refl _ _)
      have hk6F : Kp F1 wd w6 := hk6n.mono (fun _ h => h.elim)
      have HPe := Lib.hid (HPd.out.kp0 hk6n)
      have Hv := Lib.hid hv6
      rw [← Hnm.out] at Hv
      have Hoe := Lib.hid (Hod.out.kp hk6n (fun h => h))
      clear hv6 hk6 hk6n
      refine hK.out _ _ ?_ (fun hHeld => ?_)
      · exact hk6F
      clear hK K
      try simp only [Act.put, List.setIfInBounds_toArray, List.set_cons_zero, List.set_cons_succ]
      apply wpAnyH_take (i := 11) (v := .iface t6 y6)
      case hi => (simp only [List.getElem?_toArray, List.getElem?_cons_zero, List.getElem?_cons_succ]; rfl)
      case hs => kernel_rfl
      case hf => kernel_rfl
      case hr => kernel_rfl
      case hQ => exact fun _ _ _ h => h
      case hS => exact hHeld
      case hy =>
        refine Or.inl ⟨rfl, ?_⟩
        intro w hSw
        go_simp
      try simp only [Act.put, List.setIfInBounds_toArray, List.set_cons_zero, List.set_cons_succ]
      refine wpAnyH_done (by kernel_rfl) ?_ _
      obtain ⟨x0', x1', x2', x3', x4'⟩ := Hoe.out.cells
      clear Hl1 Hl2 Hl4 HT Hcb
      go_wp2_with fail
      refine (law_Is Hv.out (by decide) (He.out.kp HPe.out.it.kp Hi.none)).mono ?_
      rintro e wf ⟨rfl, hkf⟩
      clear x0' x1' x2' x3' x4'
      have HPf := Lib.hid (HPe.out.kp0 hkf)
      obtain ⟨x0', x1', x2', x3', x4'⟩ := (Hoe.out.kp hkf (fun h => h)).cells
      clear hkf HPe Hv
      go_wp2_with fail
      go_meet
      exact ⟨R, F1, HPf.out, Hok.out⟩
end Go.Proofs.YthjbpbahcemfgaaGreatDoor
