/- InodePlays: an arm of its walk (0). -/
import Derived.Test.YthjbpbahcemfgaaGreatDoorP8B
namespace Go.Proofs.YthjbpbahcemfgaaGreatDoor
set_option linter.unusedVariables false
set_option linter.unusedSimpArgs false
open Go.RowKit
set_option maxHeartbeats 40000000
set_option maxRecDepth 20000
theorem plays8_arm0 : TA0 plays8_base := by
  unfold TA0
  intro w a len cap hlen hcap q nbl hn1 hn59 q3 He y1 w1 bt bx bc bj bm bd F w2 y2 y3 w3 bq gk wr u4 u10 u11 u12 u13 u14 u15 u16 u17 u18 u19 u20 u21 u22 u23 u24 u25 u26 u27 u28 u29 u46 u47 u48 u49 u50 u51 u52 u53 u54 u55 y4 y5 y6 y7 y8 y9 y10 y11 y12 y13 y14 y15 y16 y17 y18 y19 y20 y21 y22 y23 y24 y25 y26 y27 y28 y29 y30 y31 y32 y33 y34 y35 y36 y37 y38 y39 y40 y41 y42 y43 y44 y45 y46 y47 y48 y49 y50 y51 y52 y53 y54 y55 y56 y57 y58 y59 y60 y61 y62 y63 y64 y65 y66 y67 y68 y69 y70 y71 y72 y73 y74 y75 y76 y77 y78 y79 y80 y81 y82 y83 y84 y85 y86 y87 y88 y89 y90 y91 y92 y93 y94 y95 y96 y97 y98 y99 y100 y101 y102 y103 y104 y105 y106 y107 y108 y109 y110 y111 y112 y113 y114 y115 y116 y117 y118 y119 y120 y121 y122 y123 y124 y125 y126 y127 y128 y129 y130 y131 y132 y133 y134 y135 y136 y137 y138 y139 y140 y141 y142 y143 y144 y145 y146 y147 y148 y149 y150 y151 y152 y153 y154 y155 y156 y157 y158 y159 y160 y161 y162 y163 y164 y165 y166 y167 y168 y169 y170 y171 y172 y173 y174 y175 y176 y177 y178 y179 y180 y181 y182 y183 y184 y185 y186 y187 y188 y189 y190 y191 y192 y193 y194 y195 y196 y197 y198 y199 y200 y201 y202 y203 y204 y205 y206 y207 y208 y209 y210 y211 y212 y213 y214 y215 y216 y217 y218 y219 y220 y221 y222 y223 y224 y225 y226 y227 y228 y229 y230 y231 y232 y233 y234 y235 y236 y237 y238 y239 y240 y241 y242 y243 y244 y245 y246 y247 y248 y249 y250 y251 y252 y253 y254 y255 y256 y257 y258 y259 y260 y261 y262 y263 y264 y265 y266 y267 y268 y269 y270 y271 y272 y273 y274 y275 y276 y277 y278 y279 y280 y281 y282 y283 y284 y285 y286 y287 y288 y289 y290 y291 y292 y293 y294 y295 y296 y297 y298 y299 y300 y301 y302 y303 y304 y305 y306 y307 y308 y309 y310 y311 y312 y313 y314 y315 y316 y317 y318 y319 y320 y321 y322 y323 y324 y325 y326 y327 y328 y329 y330 y331 y332 y333 y334 y335 y336 y337 y338 y339 y340 y341 y342 y343 y344 y345 y346 y347 y348 y349 y350 y351 y352 y353 i R F1 hgk hi hl Hok h1 h1i hi0 h2 h2i ad HA y354 z1 z2 z3 z4 y355 y356 b HFb Hbne inb wc u56 u57 u58 u59 u60 u61 u62 u63 u64 u65 u66 u67 u68 u69 u70 u71 u72 u73 u74 u75 u76 u77 u78 u79 u80 u81 u82 u83 u84 u85 u86 u87 u88 u89 u90 u91 u92 u93 u94 u95 u96 u97 u98 u99 u100 u101 u102 u103 u104 u105 u106 u107 u108 u109 u110 u111 u112 u113 u114 u115 u116 u117 u118 u119 u120 u121 u122 u123 u124 u125 u126 u127 u128 u129 u130 u131 u132 u133 u134 u135 u136 u137 u138 u139 u140 u141 u142 u143 u144 u145 u146 u147 u148 u149 u150 u151 u152 u153 u154 u155 u156 u157 u158 u159 u160 u161 u162 u163 u164 u165 u166 u167 u168 u169 u170 u171 u172 u173 u174 u175 u176 u177 u178 u179 u180 u181 u182 u183 u184 u185 u186 u187 u188 u189 u190 u191 u192 u193 u194 u195 u196 u197 u198 u199 u200 u201 u202 u203 u204 u205 u206 u207 u208 u209 u210 u211 u212 u213 u214 u215 u216 u217 u218 u219 u220 u221 u222 u223 u224 u225 u226 u227 u228 u229 u230 u231 u232 u233 u234 u235 u236 u237 u238 u239 u240 u241 u242 u243 u244 u245 u246 u247 u248 u249 u250 u251 u252 u253 u254 u255 u256 u257 u258 u259 u260 u261 u262 u263 u264 u265 u266 u267 u268 u269 u270 u271 u272 u273 u274 u275 u276 u277 u278 u279 u280 u281 u282 u283 u284 u285 u286 u287 u288 u289 u290 u291 u292 u293 u294 u295 u296 u297 u298 u299 u300 u301 u302 u303 u304 u305 u306 u307 u308 u309 u310 u311 u312 u313 u314 u315 u316 u317 u318 u319 u320 u321 u322 u323 u324 u325 u326 u327 u328 u329 u330 u331 u332 u333 u334 u335 u336 u337 u338 u339 u340 u341 u342 u343 u344 u345 u346 u347 u348 u349 u350 u351 u352 u353 u354 u355 u356 u357 u358 u359 u360 u361 u362 u363 u364 u365 u366 u367 u368 u369 u370 u371 u372 u373 u374 u375 u376 u377 u378 u379 u380 u381 u382 u383 u384 u385 u386 u387 u388 u389 u390 u391 u392 u393 u394 u395 u396 u397 u398 u399 u400 u401 u402 Hinb lq lg hl43 hb1 wb wd HPd x1 x2 x3 x4 us Hus free Hfree nm Hnm y357 y358 y359 y360 hJ0 hK0 Hbnd Hod x0
  clear Hinb hb1 Hfree Hus
  go_wp2_with fail
  go_loopw [16] (fun x W => ∃ m : Nat, x = .int .i64 (m : Nat) ∧ 1 ≤ m ∧ m ≤ 7 ∧ (∀ j, 1 ≤ j → j < m → (R j).1 ≠ 0) ∧ W = wd) (fun x _ => 7 - (intOf x).toNat)
  case atStart => exact ⟨1, rfl, by omega, by omega, fun j h1 h2 => by omega, rfl⟩
  case round =>
    obtain ⟨m, rfl, hm1, hm7, hall, rfl⟩ := hrel
    have Hall := Lib.hid hall
    clear hall
    by_cases hm6 : m ≤ 6
    · have hz : (m : Int) ≤ 6 := by omega
      have hz0 : (0 : Int) ≤ (m : Int) := by omega
      have hz7 : (m : Int) < 7 := by omega
      have yk := HPd.out.kind hm6
      by_cases hk : (R m).1 = 0
      · rw [hk] at yk
        have hz6 : ¬ (6 : Int) < (m : Int) := by omega
        by_cases hN : z4 = 1 ∨ z4 = 2
        · rcases hN with rfl | rfl
          · have HT := Lib.hid (it_make HPd.out.it (i := m) (kd := 1) hm1 hm6 hk Hall.out (.inl rfl))
            clear hk
            as_aux_lemma =>
              go_wp2_with fail
              refine HT.out.mono ?_
              rintro e we ⟨rfl, F2, hit, hke, hge⟩
              have HPe := Lib.hid (HPd.out.turn hit hke hge)
              have x4' := hke.cell x4 HFb.out
              have zk := HPe.out.kind hm6
              have zd := HPe.out.data hm6
              have f0 := HPe.out.froz (m * 2)
              have f1 := HPe.out.froz (m * 2 + 1)
              clear hke hge hit HT x0 x1 x2 x3 x4 yk
              go_wp2_with fail
              go_meet
              exact ⟨_, F2, HPe.out.putRow hm6 1, Hok.out.set (by decide) (by simp) (fun x hx => by simp at hx) (fun _ => rfl)⟩
          · have HT := Lib.hid (it_make HPd.out.it (i := m) (kd := 2) hm1 hm6 hk Hall.out (.inr rfl))
            clear hk
            as_aux_lemma =>
              go_wp2_with fail
              refine HT.out.mono ?_
              rintro e we ⟨rfl, F2, hit, hke, hge⟩
              have HPe := Lib.hid (HPd.out.turn hit hke hge)
              have x4' := hke.cell x4 HFb.out
              have zk := HPe.out.kind hm6
              have zd := HPe.out.data hm6
              have f0 := HPe.out.froz (m * 2)
              have f1 := HPe.out.froz (m * 2 + 1)
              clear hke hge hit HT x0 x1 x2 x3 x4 yk
              go_wp2_with fail
              go_meet
              exact ⟨_, F2, HPe.out.putRow hm6 2, Hok.out.set (by decide) (by simp) (fun x hx => by simp at hx) (fun _ => rfl)⟩
        · have hn1' : (z4 == 1) = false := by simp; omega
          have hn1a : (z4 != 1) = true := by simp; omega
          have hn1b : ¬ z4 = 1 := by omega
          have hn2' : (z4 == 2) = false := by simp; omega
          have hn2a : (z4 != 2) = true := by simp; omega
          have hn2b : ¬ z4 = 2 := by omega
          have HT := Lib.hid (fun W : World => inode_Make_arg (bt := bt) (w := W) z4 (by omega) (by omega))
          clear hk hN
          as_aux_lemma =>
            go_wp2_with fail
            refine (HT.out _).mono ?_
            rintro e we ⟨ve, rfl, hv, hke⟩
            obtain ⟨te, ye, rfl⟩ := hv.iface
            have HPe := Lib.hid (HPd.out.kp0 hke)
            have Hv := Lib.hid hv
            have x4' := hke.cell x4 (fun h => h)
            clear hke hv HT x0 x1 x2 x3 x4 yk
            go_wp2_with fail
            refine (law_Is Hv.out (by decide) (He.out.kp HPe.out.it.kp Hi.none)).mono ?_
            rintro e wf ⟨rfl, hkf⟩
            have HPf := Lib.hid (HPe.out.kp0 hkf)
            clear hkf HPe Hv x4'
            go_wp2_with fail
            go_meet
            exact ⟨R, F1, HPf.out, Hok.out⟩
      · have hkb : (((R m).1 : Int) == 0) = false := by simpa using hk
        have Hk := Lib.hid hk
        clear hk
        go_wp2_with fail
        go_roundw
        case rel => exact ⟨m + 1, by go_num, by omega, by omega, fun j h1 h2 => by rcases Nat.lt_succ_iff_lt_or_eq.1 h2 with h | rfl; exact Hall.out j h1 h; exact Hk.out, by trivial⟩
        case measure => simp [intOf]; omega
    · obtain rfl : m = 7 := by omega
      by_cases hN : z4 = 1 ∨ z4 = 2
      · rcases hN with rfl | rfl
        · have HT := Lib.hid (it_makeFull HPd.out.it (kd := 1) (fun j a b => Hall.out j a (by omega)) (.inl rfl))
          as_aux_lemma =>
            go_wp2_with fail
            refine HT.out.mono ?_
            rintro e we ⟨ve, rfl, hv, hke⟩
            obtain ⟨te, ye, rfl⟩ := hv.iface
            have HPe := Lib.hid (HPd.out.kp0 hke)
            have Hv := Lib.hid hv
            have x4' := hke.cell x4 (fun h => h)
            clear hke hv HT x0 x1 x2 x3 x4
            go_wp2_with fail
            refine (law_Is Hv.out (by decide) (He.out.kp HPe.out.it.kp Hi.none)).mono ?_
            rintro e wf ⟨rfl, hkf⟩
            have HPf := Lib.hid (HPe.out.kp0 hkf)
            clear hkf HPe Hv x4'
            go_wp2_with fail
            go_meet
            exact ⟨R, F1, HPf.out, Hok.out⟩
        · have HT := Lib.hid (it_makeFull HPd.out.it (kd := 2) (fun j a b => Hall.out j a (by omega)) (.inr rfl))
          as_aux_lemma =>
            go_wp2_with fail
            refine HT.out.mono ?_
            rintro e we ⟨ve, rfl, hv, hke⟩
            obtain ⟨te, ye, rfl⟩ := hv.iface
            have HPe := Lib.hid (HPd.out.kp0 hke)
            have Hv := Lib.hid hv
            have x4' := hke.cell x4 (fun h => h)
            clear hke hv HT x0 x1 x2 x3 x4
            go_wp2_with fail
            refine (law_Is Hv.out (by decide) (He.out.kp HPe.out.it.kp Hi.none)).mono ?_
            rintro e wf ⟨rfl, hkf⟩
            have HPf := Lib.hid (HPe.out.kp0 hkf)
            clear hkf HPe Hv x4'
            go_wp2_with fail
            go_meet
            exact ⟨R, F1, HPf.out, Hok.out⟩
      · have hn1' : (z4 == 1) = false := by simp; omega
        have hn1a : (z4 != 1) = true := by simp; omega
        have hn1b : ¬ z4 = 1 := by omega
        have hn2' : (z4 == 2) = false := by simp; omega
        have hn2a : (z4 != 2) = true := by simp; omega
        have hn2b : ¬ z4 = 2 := by omega
        have HT := Lib.hid (fun W : World => inode_Make_arg (bt := bt) (w := W) z4 (by omega) (by omega))
        clear hN
        as_aux_lemma =>
          go_wp2_with fail
          refine (HT.out _).mono ?_
          rintro e we ⟨ve, rfl, hv, hke⟩
          obtain ⟨te, ye, rfl⟩ := hv.iface
          have HPe := Lib.hid (HPd.out.kp0 hke)
          have Hv := Lib.hid hv
          have x4' := hke.cell x4 (fun h => h)
          clear hke hv HT x0 x1 x2 x3 x4
          go_wp2_with fail
          refine (law_Is Hv.out (by decide) (He.out.kp HPe.out.it.kp Hi.none)).mono ?_
          rintro e wf ⟨rfl, hkf⟩
          have HPf := Lib.hid (HPe.out.kp0 hkf)
          clear hkf HPe Hv x4'
          go_wp2_with fail
          go_meet
          exact ⟨R, F1, HPf.out, Hok.out⟩
end Go.Proofs.YthjbpbahcemfgaaGreatDoor
