/- MADE BY PROGRAM: the tables of the program as trees: types, functions, plans. -/
import Derived.Test.YtaghpkljmnpjoaaGreatDoorEN
import Derived.KernelRfl
import Derived.Test.YtaghpkljmnpjoaaGreatDoorRows
set_option linter.unusedVariables false
set_option linter.unusedSimpArgs false
noncomputable section
open Go.Proofs
namespace Go.Ai
set_option maxRecDepth 100000
noncomputable def typesT : BT TypeInfo :=
  .node 252 (.node 126 (.node 63 (.node 31 (.node 15 (.node 7 (.node 3 (.node 1 (.leaf Tryz.t0) (.node 1 (.leaf Tryz.t1) (.leaf Tryz.t2))) (.node 2 (.node 1 (.leaf Tryz.t3) (.leaf
 Tryz.t4)) (.node 1 (.leaf Tryz.t5) (.leaf Tryz.t6)))) (.node 4 (.node 2 (.node 1 (.leaf Tryz.t7) (.leaf Tryz.t8)) (.node 1 (.leaf Tryz.t9) (.leaf Tryz.t10))) (.node 2 (.node 1
 (.leaf Tryz.t11) (.leaf Tryz.t12)) (.node 1 (.leaf Tryz.t13) (.leaf Tryz.t14))))) (.node 8 (.node 4 (.node 2 (.node 1 (.leaf Tryz.t15) (.leaf Tryz.t16)) (.node 1 (.leaf Tryz.t17)
 (.leaf Tryz.t18))) (.node 2 (.node 1 (.leaf Tryz.t19) (.leaf Tryz.t20)) (.node 1 (.leaf Tryz.t21) (.leaf Tryz.t22)))) (.node 4 (.node 2 (.node 1 (.leaf Tryz.t23) (.leaf Tryz.t24))
 (.node 1 (.leaf Tryz.t25) (.leaf Tryz.t26))) (.node 2 (.node 1 (.leaf Tryz.t27) (.leaf Tryz.t28)) (.node 1 (.leaf Tryz.t29) (.leaf Tryz.t30)))))) (.node 16 (.node 8 (.node 4
 (.node 2 (.node 1 (.leaf Tryz.t31) (.leaf Tryz.t32)) (.node 1 (.leaf Tryz.t33) (.leaf Tryz.t34))) (.node 2 (.node 1 (.leaf Tryz.t35) (.leaf Tryz.t36)) (.node 1 (.leaf Tryz.t37)
 (.leaf Tryz.t38)))) (.node 4 (.node 2 (.node 1 (.leaf Tryz.t39) (.leaf Tryz.t40)) (.node 1 (.leaf Tryz.t41) (.leaf Tryz.t42))) (.node 2 (.node 1 (.leaf Tryz.t43) (.leaf Tryz.t44))
 (.node 1 (.leaf Tryz.t45) (.leaf Tryz.t46))))) (.node 8 (.node 4 (.node 2 (.node 1 (.leaf Tryz.t47) (.leaf Tryz.t48)) (.node 1 (.leaf Tryz.t49) (.leaf Tryz.t50))) (.node 2 (.node
 1 (.leaf Tryz.t51) (.leaf Tryz.t52)) (.node 1 (.leaf Tryz.t53) (.leaf Tryz.t54)))) (.node 4 (.node 2 (.node 1 (.leaf Tryz.t55) (.leaf Tryz.t56)) (.node 1 (.leaf Tryz.t57) (.leaf
 Tryz.t58))) (.node 2 (.node 1 (.leaf Tryz.t59) (.leaf Tryz.t60)) (.node 1 (.leaf Tryz.t61) (.leaf Tryz.t62))))))) (.node 31 (.node 15 (.node 7 (.node 3 (.node 1 (.leaf Tryz.t63)
 (.node 1 (.leaf Tryz.t64) (.leaf Tryz.t65))) (.node 2 (.node 1 (.leaf Tryz.t66) (.leaf Tryz.t67)) (.node 1 (.leaf Tryz.t68) (.leaf Tryz.t69)))) (.node 4 (.node 2 (.node 1 (.leaf
 Tryz.t70) (.leaf Tryz.t71)) (.node 1 (.leaf Tryz.t72) (.leaf Tryz.t73))) (.node 2 (.node 1 (.leaf Tryz.t74) (.leaf Tryz.t75)) (.node 1 (.leaf Tryz.t76) (.leaf Tryz.t77))))) (.node
 8 (.node 4 (.node 2 (.node 1 (.leaf Tryz.t78) (.leaf Tryz.t79)) (.node 1 (.leaf Tryz.t80) (.leaf Tryz.t81))) (.node 2 (.node 1 (.leaf Tryz.t82) (.leaf Tryz.t83)) (.node 1 (.leaf
 Tryz.t84) (.leaf Tryz.t85)))) (.node 4 (.node 2 (.node 1 (.leaf Tryz.t86) (.leaf Tryz.t87)) (.node 1 (.leaf Tryz.t88) (.leaf Tryz.t89))) (.node 2 (.node 1 (.leaf Tryz.t90) (.leaf
 Tryz.t91)) (.node 1 (.leaf Tryz.t92) (.leaf Tryz.t93)))))) (.node 16 (.node 8 (.node 4 (.node 2 (.node 1 (.leaf Tryz.t94) (.leaf Tryz.t95)) (.node 1 (.leaf Tryz.t96) (.leaf
 Tryz.t97))) (.node 2 (.node 1 (.leaf Tryz.t98) (.leaf Tryz.t99)) (.node 1 (.leaf Tryz.t100) (.leaf Tryz.t101)))) (.node 4 (.node 2 (.node 1 (.leaf Tryz.t102) (.leaf Tryz.t103))
 (.node 1 (.leaf Tryz.t104) (.leaf Tryz.t105))) (.node 2 (.node 1 (.leaf Tryz.t106) (.leaf Tryz.t107)) (.node 1 (.leaf Tryz.t108) (.leaf Tryz.t109))))) (.node 8 (.node 4 (.node 2
 (.node 1 (.leaf Tryz.t110) (.leaf Tryz.t111)) (.node 1 (.leaf Tryz.t112) (.leaf Tryz.t113))) (.node 2 (.node 1 (.leaf Tryz.t114) (.leaf Tryz.t115)) (.node 1 (.leaf Tryz.t116)
 (.leaf Tryz.t117)))) (.node 4 (.node 2 (.node 1 (.leaf Tryz.t118) (.leaf Tryz.t119)) (.node 1 (.leaf Tryz.t120) (.leaf Tryz.t121))) (.node 2 (.node 1 (.leaf Tryz.t122) (.leaf
 Tryz.t123)) (.node 1 (.leaf Tryz.t124) (.leaf Tryz.t125)))))))) (.node 63 (.node 31 (.node 15 (.node 7 (.node 3 (.node 1 (.leaf Tryz.t126) (.node 1 (.leaf Tryz.t127) (.leaf
 Tryz.t128))) (.node 2 (.node 1 (.leaf Tryz.t129) (.leaf Tryz.t130)) (.node 1 (.leaf Tryz.t131) (.leaf Tryz.t132)))) (.node 4 (.node 2 (.node 1 (.leaf Tryz.t133) (.leaf Tryz.t134))
 (.node 1 (.leaf Tryz.t135) (.leaf Tryz.t136))) (.node 2 (.node 1 (.leaf Tryz.t137) (.leaf Tryz.t138)) (.node 1 (.leaf Tryz.t139) (.leaf Tryz.t140))))) (.node 8 (.node 4 (.node 2
 (.node 1 (.leaf Tryz.t141) (.leaf Tryz.t142)) (.node 1 (.leaf Tryz.t143) (.leaf Tryz.t144))) (.node 2 (.node 1 (.leaf Tryz.t145) (.leaf Tryz.t146)) (.node 1 (.leaf Tryz.t147)
 (.leaf Tryz.t148)))) (.node 4 (.node 2 (.node 1 (.leaf Tryz.t149) (.leaf Tryz.t150)) (.node 1 (.leaf Tryz.t151) (.leaf Tryz.t152))) (.node 2 (.node 1 (.leaf Tryz.t153) (.leaf
 Tryz.t154)) (.node 1 (.leaf Tryz.t155) (.leaf Tryz.t156)))))) (.node 16 (.node 8 (.node 4 (.node 2 (.node 1 (.leaf Tryz.t157) (.leaf Tryz.t158)) (.node 1 (.leaf Tryz.t159) (.leaf
 Tryz.t160))) (.node 2 (.node 1 (.leaf Tryz.t161) (.leaf Tryz.t162)) (.node 1 (.leaf Tryz.t163) (.leaf Tryz.t164)))) (.node 4 (.node 2 (.node 1 (.leaf Tryz.t165) (.leaf Tryz.t166))
 (.node 1 (.leaf Tryz.t167) (.leaf Tryz.t168))) (.node 2 (.node 1 (.leaf Tryz.t169) (.leaf Tryz.t170)) (.node 1 (.leaf Tryz.t171) (.leaf Tryz.t172))))) (.node 8 (.node 4 (.node 2
 (.node 1 (.leaf Tryz.t173) (.leaf Tryz.t174)) (.node 1 (.leaf Tryz.t175) (.leaf Tryz.t176))) (.node 2 (.node 1 (.leaf Tryz.t177) (.leaf Tryz.t178)) (.node 1 (.leaf Tryz.t179)
 (.leaf Tryz.t180)))) (.node 4 (.node 2 (.node 1 (.leaf Tryz.t181) (.leaf Tryz.t182)) (.node 1 (.leaf Tryz.t183) (.leaf Tryz.t184))) (.node 2 (.node 1 (.leaf Tryz.t185) (.leaf
 Tryz.t186)) (.node 1 (.leaf Tryz.t187) (.leaf Tryz.t188))))))) (.node 31 (.node 15 (.node 7 (.node 3 (.node 1 (.leaf Tryz.t189) (.node 1 (.leaf Tryz.t190) (.leaf Tryz.t191)))
 (.node 2 (.node 1 (.leaf Tryz.t192) (.leaf Tryz.t193)) (.node 1 (.leaf Tryz.t194) (.leaf Tryz.t195)))) (.node 4 (.node 2 (.node 1 (.leaf Tryz.t196) (.leaf Tryz.t197)) (.node 1
 (.leaf Tryz.t198) (.leaf Tryz.t199))) (.node 2 (.node 1 (.leaf Tryz.t200) (.leaf Tryz.t201)) (.node 1 (.leaf Tryz.t202) (.leaf Tryz.t203))))) (.node 8 (.node 4 (.node 2 (.node 1
 (.leaf Tryz.t204) (.leaf Tryz.t205)) (.node 1 (.leaf Tryz.t206) (.leaf Tryz.t207))) (.node 2 (.node 1 (.leaf Tryz.t208) (.leaf Tryz.t209)) (.node 1 (.leaf Tryz.t210) (.leaf
 Tryz.t211)))) (.node 4 (.node 2 (.node 1 (.leaf Tryz.t212) (.leaf Tryz.t213)) (.node 1 (.leaf Tryz.t214) (.leaf Tryz.t215))) (.node 2 (.node 1 (.leaf Tryz.t216) (.leaf Tryz.t217))
 (.node 1 (.leaf Tryz.t218) (.leaf Tryz.t219)))))) (.node 16 (.node 8 (.node 4 (.node 2 (.node 1 (.leaf Tryz.t220) (.leaf Tryz.t221)) (.node 1 (.leaf Tryz.t222) (.leaf Tryz.t223)))
 (.node 2 (.node 1 (.leaf Tryz.t224) (.leaf Tryz.t225)) (.node 1 (.leaf Tryz.t226) (.leaf Tryz.t227)))) (.node 4 (.node 2 (.node 1 (.leaf Tryz.t228) (.leaf Tryz.t229)) (.node 1
 (.leaf Tryz.t230) (.leaf Tryz.t231))) (.node 2 (.node 1 (.leaf Tryz.t232) (.leaf Tryz.t233)) (.node 1 (.leaf Tryz.t234) (.leaf Tryz.t235))))) (.node 8 (.node 4 (.node 2 (.node 1
 (.leaf Tryz.t236) (.leaf Tryz.t237)) (.node 1 (.leaf Tryz.t238) (.leaf Tryz.t239))) (.node 2 (.node 1 (.leaf Tryz.t240) (.leaf Tryz.t241)) (.node 1 (.leaf Tryz.t242) (.leaf
 Tryz.t243)))) (.node 4 (.node 2 (.node 1 (.leaf Tryz.t244) (.leaf Tryz.t245)) (.node 1 (.leaf Tryz.t246) (.leaf Tryz.t247))) (.node 2 (.node 1 (.leaf Tryz.t248) (.leaf Tryz.t249))
 (.node 1 (.leaf Tryz.t250) (.leaf Tryz.t251))))))))) (.node 126 (.node 63 (.node 31 (.node 15 (.node 7 (.node 3 (.node 1 (.leaf Tryz.t252) (.node 1 (.leaf Tryz.t253) (.leaf
 Tryz.t254))) (.node 2 (.node 1 (.leaf Tryz.t255) (.leaf Tryz.t256)) (.node 1 (.leaf Tryz.t257) (.leaf Tryz.t258)))) (.node 4 (.node 2 (.node 1 (.leaf Tryz.t259) (.leaf Tryz.t260))
 (.node 1 (.leaf Tryz.t261) (.leaf Tryz.t262))) (.node 2 (.node 1 (.leaf Tryz.t263) (.leaf Tryz.t264)) (.node 1 (.leaf Tryz.t265) (.leaf Tryz.t266))))) (.node 8 (.node 4 (.node 2
 (.node 1 (.leaf Tryz.t267) (.leaf Tryz.t268)) (.node 1 (.leaf Tryz.t269) (.leaf Tryz.t270))) (.node 2 (.node 1 (.leaf Tryz.t271) (.leaf Tryz.t272)) (.node 1 (.leaf Tryz.t273)
 (.leaf Tryz.t274)))) (.node 4 (.node 2 (.node 1 (.leaf Tryz.t275) (.leaf Tryz.t276)) (.node 1 (.leaf Tryz.t277) (.leaf Tryz.t278))) (.node 2 (.node 1 (.leaf Tryz.t279) (.leaf
 Tryz.t280)) (.node 1 (.leaf Tryz.t281) (.leaf Tryz.t282)))))) (.node 16 (.node 8 (.node 4 (.node 2 (.node 1 (.leaf Tryz.t283) (.leaf Tryz.t284)) (.node 1 (.leaf Tryz.t285) (.leaf
 Tryz.t286))) (.node 2 (.node 1 (.leaf Tryz.t287) (.leaf Tryz.t288)) (.node 1 (.leaf Tryz.t289) (.leaf Tryz.t290)))) (.node 4 (.node 2 (.node 1 (.leaf Tryz.t291) (.leaf Tryz.t292))
 (.node 1 (.leaf Tryz.t293) (.leaf Tryz.t294))) (.node 2 (.node 1 (.leaf Tryz.t295) (.leaf Tryz.t296)) (.node 1 (.leaf Tryz.t297) (.leaf Tryz.t298))))) (.node 8 (.node 4 (.node 2
 (.node 1 (.leaf Tryz.t299) (.leaf Tryz.t300)) (.node 1 (.leaf Tryz.t301) (.leaf Tryz.t302))) (.node 2 (.node 1 (.leaf Tryz.t303) (.leaf Tryz.t304)) (.node 1 (.leaf Tryz.t305)
 (.leaf Tryz.t306)))) (.node 4 (.node 2 (.node 1 (.leaf Tryz.t307) (.leaf Tryz.t308)) (.node 1 (.leaf Tryz.t309) (.leaf Tryz.t310))) (.node 2 (.node 1 (.leaf Tryz.t311) (.leaf
 Tryz.t312)) (.node 1 (.leaf Tryz.t313) (.leaf Tryz.t314))))))) (.node 31 (.node 15 (.node 7 (.node 3 (.node 1 (.leaf Tryz.t315) (.node 1 (.leaf Tryz.t316) (.leaf Tryz.t317)))
 (.node 2 (.node 1 (.leaf Tryz.t318) (.leaf Tryz.t319)) (.node 1 (.leaf Tryz.t320) (.leaf Tryz.t321)))) (.node 4 (.node 2 (.node 1 (.leaf Tryz.t322) (.leaf Tryz.t323)) (.node 1
 (.leaf Tryz.t324) (.leaf Tryz.t325))) (.node 2 (.node 1 (.leaf Tryz.t326) (.leaf Tryz.t327)) (.node 1 (.leaf Tryz.t328) (.leaf Tryz.t329))))) (.node 8 (.node 4 (.node 2 (.node 1
 (.leaf Tryz.t330) (.leaf Tryz.t331)) (.node 1 (.leaf Tryz.t332) (.leaf Tryz.t333))) (.node 2 (.node 1 (.leaf Tryz.t334) (.leaf Tryz.t335)) (.node 1 (.leaf Tryz.t336) (.leaf
 Tryz.t337)))) (.node 4 (.node 2 (.node 1 (.leaf Tryz.t338) (.leaf Tryz.t339)) (.node 1 (.leaf Tryz.t340) (.leaf Tryz.t341))) (.node 2 (.node 1 (.leaf Tryz.t342) (.leaf Tryz.t343))
 (.node 1 (.leaf Tryz.t344) (.leaf Tryz.t345)))))) (.node 16 (.node 8 (.node 4 (.node 2 (.node 1 (.leaf Tryz.t346) (.leaf Tryz.t347)) (.node 1 (.leaf Tryz.t348) (.leaf Tryz.t349)))
 (.node 2 (.node 1 (.leaf Tryz.t350) (.leaf Tryz.t351)) (.node 1 (.leaf Tryz.t352) (.leaf Tryz.t353)))) (.node 4 (.node 2 (.node 1 (.leaf Tryz.t354) (.leaf Tryz.t355)) (.node 1
 (.leaf Tryz.t356) (.leaf Tryz.t357))) (.node 2 (.node 1 (.leaf Tryz.t358) (.leaf Tryz.t359)) (.node 1 (.leaf Tryz.t360) (.leaf Tryz.t361))))) (.node 8 (.node 4 (.node 2 (.node 1
 (.leaf Tryz.t362) (.leaf Tryz.t363)) (.node 1 (.leaf Tryz.t364) (.leaf Tryz.t365))) (.node 2 (.node 1 (.leaf Tryz.t366) (.leaf Tryz.t367)) (.node 1 (.leaf Tryz.t368) (.leaf
 Tryz.t369)))) (.node 4 (.node 2 (.node 1 (.leaf Tryz.t370) (.leaf Tryz.t371)) (.node 1 (.leaf Tryz.t372) (.leaf Tryz.t373))) (.node 2 (.node 1 (.leaf Tryz.t374) (.leaf Tryz.t375))
 (.node 1 (.leaf Tryz.t376) (.leaf Tryz.t377)))))))) (.node 63 (.node 31 (.node 15 (.node 7 (.node 3 (.node 1 (.leaf Tryz.t378) (.node 1 (.leaf Tryz.t379) (.leaf Tryz.t380)))
 (.node 2 (.node 1 (.leaf Tryz.t381) (.leaf Tryz.t382)) (.node 1 (.leaf Tryz.t383) (.leaf Tryz.t384)))) (.node 4 (.node 2 (.node 1 (.leaf Tryz.t385) (.leaf Tryz.t386)) (.node 1
 (.leaf Tryz.t387) (.leaf Tryz.t388))) (.node 2 (.node 1 (.leaf Tryz.t389) (.leaf Tryz.t390)) (.node 1 (.leaf Tryz.t391) (.leaf Tryz.t392))))) (.node 8 (.node 4 (.node 2 (.node 1
 (.leaf Tryz.t393) (.leaf Tryz.t394)) (.node 1 (.leaf Tryz.t395) (.leaf Tryz.t396))) (.node 2 (.node 1 (.leaf Tryz.t397) (.leaf Tryz.t398)) (.node 1 (.leaf Tryz.t399) (.leaf
 Tryz.t400)))) (.node 4 (.node 2 (.node 1 (.leaf Tryz.t401) (.leaf Tryz.t402)) (.node 1 (.leaf Tryz.t403) (.leaf Tryz.t404))) (.node 2 (.node 1 (.leaf Tryz.t405) (.leaf Tryz.t406))
 (.node 1 (.leaf Tryz.t407) (.leaf Tryz.t408)))))) (.node 16 (.node 8 (.node 4 (.node 2 (.node 1 (.leaf Tryz.t409) (.leaf Tryz.t410)) (.node 1 (.leaf Tryz.t411) (.leaf Tryz.t412)))
 (.node 2 (.node 1 (.leaf Tryz.t413) (.leaf Tryz.t414)) (.node 1 (.leaf Tryz.t415) (.leaf Tryz.t416)))) (.node 4 (.node 2 (.node 1 (.leaf Tryz.t417) (.leaf Tryz.t418)) (.node 1
 (.leaf Tryz.t419) (.leaf Tryz.t420))) (.node 2 (.node 1 (.leaf Tryz.t421) (.leaf Tryz.t422)) (.node 1 (.leaf Tryz.t423) (.leaf Tryz.t424))))) (.node 8 (.node 4 (.node 2 (.node 1
 (.leaf Tryz.t425) (.leaf Tryz.t426)) (.node 1 (.leaf Tryz.t427) (.leaf Tryz.t428))) (.node 2 (.node 1 (.leaf Tryz.t429) (.leaf Tryz.t430)) (.node 1 (.leaf Tryz.t431) (.leaf
 Tryz.t432)))) (.node 4 (.node 2 (.node 1 (.leaf Tryz.t433) (.leaf Tryz.t434)) (.node 1 (.leaf Tryz.t435) (.leaf Tryz.t436))) (.node 2 (.node 1 (.leaf Tryz.t437) (.leaf Tryz.t438))
 (.node 1 (.leaf Tryz.t439) (.leaf Tryz.t440))))))) (.node 32 (.node 16 (.node 8 (.node 4 (.node 2 (.node 1 (.leaf Tryz.t441) (.leaf Tryz.t442)) (.node 1 (.leaf Tryz.t443) (.leaf
 Tryz.t444))) (.node 2 (.node 1 (.leaf Tryz.t445) (.leaf Tryz.t446)) (.node 1 (.leaf Tryz.t447) (.leaf Tryz.t448)))) (.node 4 (.node 2 (.node 1 (.leaf Tryz.t449) (.leaf Tryz.t450))
 (.node 1 (.leaf Tryz.t451) (.leaf Tryz.t452))) (.node 2 (.node 1 (.leaf Tryz.t453) (.leaf Tryz.t454)) (.node 1 (.leaf Tryz.t455) (.leaf Tryz.t456))))) (.node 8 (.node 4 (.node 2
 (.node 1 (.leaf Tryz.t457) (.leaf Tryz.t458)) (.node 1 (.leaf Tryz.t459) (.leaf Tryz.t460))) (.node 2 (.node 1 (.leaf Tryz.t461) (.leaf Tryz.t462)) (.node 1 (.leaf Tryz.t463)
 (.leaf Tryz.t464)))) (.node 4 (.node 2 (.node 1 (.leaf Tryz.t465) (.leaf Tryz.t466)) (.node 1 (.leaf Tryz.t467) (.leaf Tryz.t468))) (.node 2 (.node 1 (.leaf Tryz.t469) (.leaf
 Tryz.t470)) (.node 1 (.leaf Tryz.t471) (.leaf Tryz.t472)))))) (.node 16 (.node 8 (.node 4 (.node 2 (.node 1 (.leaf Tryz.t473) (.leaf Tryz.t474)) (.node 1 (.leaf Tryz.t475) (.leaf
 Tryz.t476))) (.node 2 (.node 1 (.leaf Tryz.t477) (.leaf Tryz.t478)) (.node 1 (.leaf Tryz.t479) (.leaf Tryz.t480)))) (.node 4 (.node 2 (.node 1 (.leaf Tryz.t481) (.leaf Tryz.t482))
 (.node 1 (.leaf Tryz.t483) (.leaf Tryz.t484))) (.node 2 (.node 1 (.leaf Tryz.t485) (.leaf Tryz.t486)) (.node 1 (.leaf Tryz.t487) (.leaf Tryz.t488))))) (.node 8 (.node 4 (.node 2
 (.node 1 (.leaf Tryz.t489) (.leaf Tryz.t490)) (.node 1 (.leaf Tryz.t491) (.leaf Tryz.t492))) (.node 2 (.node 1 (.leaf Tryz.t493) (.leaf Tryz.t494)) (.node 1 (.leaf Tryz.t495)
 (.leaf Tryz.t496)))) (.node 4 (.node 2 (.node 1 (.leaf Tryz.t497) (.leaf Tryz.t498)) (.node 1 (.leaf Tryz.t499) (.leaf Tryz.t500))) (.node 2 (.node 1 (.leaf Tryz.t501) (.leaf
 Tryz.t502)) (.node 1 (.leaf Tryz.t503) (.leaf Tryz.t504)))))))))
noncomputable def funcsT : BT Func :=
  .node 239 (.node 119 (.node 59 (.node 29 (.node 14 (.node 7 (.node 3 (.node 1 (.leaf Tryz.f0) (.node 1 (.leaf Tryz.f1) (.leaf Tryz.f2))) (.node 2 (.node 1 (.leaf Tryz.f3) (.leaf
 Tryz.f4)) (.node 1 (.leaf Tryz.f5) (.leaf Tryz.f6)))) (.node 3 (.node 1 (.leaf Tryz.f7) (.node 1 (.leaf Tryz.f8) (.leaf Tryz.f9))) (.node 2 (.node 1 (.leaf Tryz.f10) (.leaf
 Tryz.f11)) (.node 1 (.leaf Tryz.f12) (.leaf Tryz.f13))))) (.node 7 (.node 3 (.node 1 (.leaf Tryz.f14) (.node 1 (.leaf Tryz.f15) (.leaf Tryz.f16))) (.node 2 (.node 1 (.leaf
 Tryz.f17) (.leaf Tryz.f18)) (.node 1 (.leaf Tryz.f19) (.leaf Tryz.f20)))) (.node 4 (.node 2 (.node 1 (.leaf Tryz.f21) (.leaf Tryz.f22)) (.node 1 (.leaf Tryz.f23) (.leaf
 Tryz.f24))) (.node 2 (.node 1 (.leaf Tryz.f25) (.leaf Tryz.f26)) (.node 1 (.leaf Tryz.f27) (.leaf Tryz.f28)))))) (.node 15 (.node 7 (.node 3 (.node 1 (.leaf Tryz.f29) (.node 1
 (.leaf Tryz.f30) (.leaf Tryz.f31))) (.node 2 (.node 1 (.leaf Tryz.f32) (.leaf Tryz.f33)) (.node 1 (.leaf Tryz.f34) (.leaf Tryz.f35)))) (.node 4 (.node 2 (.node 1 (.leaf Tryz.f36)
 (.leaf Tryz.f37)) (.node 1 (.leaf Tryz.f38) (.leaf Tryz.f39))) (.node 2 (.node 1 (.leaf Tryz.f40) (.leaf Tryz.f41)) (.node 1 (.leaf Tryz.f42) (.leaf Tryz.f43))))) (.node 7 (.node
 3 (.node 1 (.leaf Tryz.f44) (.node 1 (.leaf Tryz.f45) (.leaf Tryz.f46))) (.node 2 (.node 1 (.leaf Tryz.f47) (.leaf Tryz.f48)) (.node 1 (.leaf Tryz.f49) (.leaf Tryz.f50)))) (.node
 4 (.node 2 (.node 1 (.leaf Tryz.f51) (.leaf Tryz.f52)) (.node 1 (.leaf Tryz.f53) (.leaf Tryz.f54))) (.node 2 (.node 1 (.leaf Tryz.f55) (.leaf Tryz.f56)) (.node 1 (.leaf Tryz.f57)
 (.leaf Tryz.f58))))))) (.node 30 (.node 15 (.node 7 (.node 3 (.node 1 (.leaf Tryz.f59) (.node 1 (.leaf Tryz.f60) (.leaf Tryz.f61))) (.node 2 (.node 1 (.leaf Tryz.f62) (.leaf
 Tryz.f63)) (.node 1 (.leaf Tryz.f64) (.leaf Tryz.f65)))) (.node 4 (.node 2 (.node 1 (.leaf Tryz.f66) (.leaf Tryz.f67)) (.node 1 (.leaf Tryz.f68) (.leaf Tryz.f69))) (.node 2 (.node
 1 (.leaf Tryz.f70) (.leaf Tryz.f71)) (.node 1 (.leaf Tryz.f72) (.leaf Tryz.f73))))) (.node 7 (.node 3 (.node 1 (.leaf Tryz.f74) (.node 1 (.leaf Tryz.f75) (.leaf Tryz.f76))) (.node
 2 (.node 1 (.leaf Tryz.f77) (.leaf Tryz.f78)) (.node 1 (.leaf Tryz.f79) (.leaf Tryz.f80)))) (.node 4 (.node 2 (.node 1 (.leaf Tryz.f81) (.leaf Tryz.f82)) (.node 1 (.leaf Tryz.f83)
 (.leaf Tryz.f84))) (.node 2 (.node 1 (.leaf Tryz.f85) (.leaf Tryz.f86)) (.node 1 (.leaf Tryz.f87) (.leaf Tryz.f88)))))) (.node 15 (.node 7 (.node 3 (.node 1 (.leaf Tryz.f89)
 (.node 1 (.leaf Tryz.f90) (.leaf Tryz.f91))) (.node 2 (.node 1 (.leaf Tryz.f92) (.leaf Tryz.f93)) (.node 1 (.leaf Tryz.f94) (.leaf Tryz.f95)))) (.node 4 (.node 2 (.node 1 (.leaf
 Tryz.f96) (.leaf Tryz.f97)) (.node 1 (.leaf Tryz.f98) (.leaf Tryz.f99))) (.node 2 (.node 1 (.leaf Tryz.f100) (.leaf Tryz.f101)) (.node 1 (.leaf Tryz.f102) (.leaf Tryz.f103)))))
 (.node 7 (.node 3 (.node 1 (.leaf Tryz.f104) (.node 1 (.leaf Tryz.f105) (.leaf Tryz.f106))) (.node 2 (.node 1 (.leaf Tryz.f107) (.leaf Tryz.f108)) (.node 1 (.leaf Tryz.f109)
 (.leaf Tryz.f110)))) (.node 4 (.node 2 (.node 1 (.leaf Tryz.f111) (.leaf Tryz.f112)) (.node 1 (.leaf Tryz.f113) (.leaf Tryz.f114))) (.node 2 (.node 1 (.leaf Tryz.f115) (.leaf
 Tryz.f116)) (.node 1 (.leaf Tryz.f117) (.leaf Tryz.f118)))))))) (.node 60 (.node 30 (.node 15 (.node 7 (.node 3 (.node 1 (.leaf Tryz.f119) (.node 1 (.leaf Tryz.f120) (.leaf
 Tryz.f121))) (.node 2 (.node 1 (.leaf Tryz.f122) (.leaf Tryz.f123)) (.node 1 (.leaf Tryz.f124) (.leaf Tryz.f125)))) (.node 4 (.node 2 (.node 1 (.leaf Tryz.f126) (.leaf Tryz.f127))
 (.node 1 (.leaf Tryz.f128) (.leaf Tryz.f129))) (.node 2 (.node 1 (.leaf Tryz.f130) (.leaf Tryz.f131)) (.node 1 (.leaf Tryz.f132) (.leaf Tryz.f133))))) (.node 7 (.node 3 (.node 1
 (.leaf Tryz.f134) (.node 1 (.leaf Tryz.f135) (.leaf Tryz.f136))) (.node 2 (.node 1 (.leaf Tryz.f137) (.leaf Tryz.f138)) (.node 1 (.leaf Tryz.f139) (.leaf Tryz.f140)))) (.node 4
 (.node 2 (.node 1 (.leaf Tryz.f141) (.leaf Tryz.f142)) (.node 1 (.leaf Tryz.f143) (.leaf Tryz.f144))) (.node 2 (.node 1 (.leaf Tryz.f145) (.leaf Tryz.f146)) (.node 1 (.leaf
 Tryz.f147) (.leaf Tryz.f148)))))) (.node 15 (.node 7 (.node 3 (.node 1 (.leaf Tryz.f149) (.node 1 (.leaf Tryz.f150) (.leaf Tryz.f151))) (.node 2 (.node 1 (.leaf Tryz.f152) (.leaf
 Tryz.f153)) (.node 1 (.leaf Tryz.f154) (.leaf Tryz.f155)))) (.node 4 (.node 2 (.node 1 (.leaf Tryz.f156) (.leaf Tryz.f157)) (.node 1 (.leaf Tryz.f158) (.leaf Tryz.f159))) (.node 2
 (.node 1 (.leaf Tryz.f160) (.leaf Tryz.f161)) (.node 1 (.leaf Tryz.f162) (.leaf Tryz.f163))))) (.node 7 (.node 3 (.node 1 (.leaf Tryz.f164) (.node 1 (.leaf Tryz.f165) (.leaf
 Tryz.f166))) (.node 2 (.node 1 (.leaf Tryz.f167) (.leaf Tryz.f168)) (.node 1 (.leaf Tryz.f169) (.leaf Tryz.f170)))) (.node 4 (.node 2 (.node 1 (.leaf Tryz.f171) (.leaf Tryz.f172))
 (.node 1 (.leaf Tryz.f173) (.leaf Tryz.f174))) (.node 2 (.node 1 (.leaf Tryz.f175) (.leaf Tryz.f176)) (.node 1 (.leaf Tryz.f177) (.leaf Tryz.f178))))))) (.node 30 (.node 15 (.node
 7 (.node 3 (.node 1 (.leaf Tryz.f179) (.node 1 (.leaf Tryz.f180) (.leaf Tryz.f181))) (.node 2 (.node 1 (.leaf Tryz.f182) (.leaf Tryz.f183)) (.node 1 (.leaf Tryz.f184) (.leaf
 Tryz.f185)))) (.node 4 (.node 2 (.node 1 (.leaf Tryz.f186) (.leaf Tryz.f187)) (.node 1 (.leaf Tryz.f188) (.leaf Tryz.f189))) (.node 2 (.node 1 (.leaf Tryz.f190) (.leaf Tryz.f191))
 (.node 1 (.leaf Tryz.f192) (.leaf Tryz.f193))))) (.node 7 (.node 3 (.node 1 (.leaf Tryz.f194) (.node 1 (.leaf Tryz.f195) (.leaf Tryz.f196))) (.node 2 (.node 1 (.leaf Tryz.f197)
 (.leaf Tryz.f198)) (.node 1 (.leaf Tryz.f199) (.leaf Tryz.f200)))) (.node 4 (.node 2 (.node 1 (.leaf Tryz.f201) (.leaf Tryz.f202)) (.node 1 (.leaf Tryz.f203) (.leaf Tryz.f204)))
 (.node 2 (.node 1 (.leaf Tryz.f205) (.leaf Tryz.f206)) (.node 1 (.leaf Tryz.f207) (.leaf Tryz.f208)))))) (.node 15 (.node 7 (.node 3 (.node 1 (.leaf Tryz.f209) (.node 1 (.leaf
 Tryz.f210) (.leaf Tryz.f211))) (.node 2 (.node 1 (.leaf Tryz.f212) (.leaf Tryz.f213)) (.node 1 (.leaf Tryz.f214) (.leaf Tryz.f215)))) (.node 4 (.node 2 (.node 1 (.leaf Tryz.f216)
 (.leaf Tryz.f217)) (.node 1 (.leaf Tryz.f218) (.leaf Tryz.f219))) (.node 2 (.node 1 (.leaf Tryz.f220) (.leaf Tryz.f221)) (.node 1 (.leaf Tryz.f222) (.leaf Tryz.f223))))) (.node 7
 (.node 3 (.node 1 (.leaf Tryz.f224) (.node 1 (.leaf Tryz.f225) (.leaf Tryz.f226))) (.node 2 (.node 1 (.leaf Tryz.f227) (.leaf Tryz.f228)) (.node 1 (.leaf Tryz.f229) (.leaf
 Tryz.f230)))) (.node 4 (.node 2 (.node 1 (.leaf Tryz.f231) (.leaf Tryz.f232)) (.node 1 (.leaf Tryz.f233) (.leaf Tryz.f234))) (.node 2 (.node 1 (.leaf Tryz.f235) (.leaf Tryz.f236))
 (.node 1 (.leaf Tryz.f237) (.leaf Tryz.f238))))))))) (.node 119 (.node 59 (.node 29 (.node 14 (.node 7 (.node 3 (.node 1 (.leaf Tryz.f239) (.node 1 (.leaf Tryz.f240) (.leaf
 Tryz.f241))) (.node 2 (.node 1 (.leaf Tryz.f242) (.leaf Tryz.f243)) (.node 1 (.leaf Tryz.f244) (.leaf Tryz.f245)))) (.node 3 (.node 1 (.leaf Tryz.f246) (.node 1 (.leaf Tryz.f247)
 (.leaf Tryz.f248))) (.node 2 (.node 1 (.leaf Tryz.f249) (.leaf Tryz.f250)) (.node 1 (.leaf Tryz.f251) (.leaf Tryz.f252))))) (.node 7 (.node 3 (.node 1 (.leaf Tryz.f253) (.node 1
 (.leaf Tryz.f254) (.leaf Tryz.f255))) (.node 2 (.node 1 (.leaf Tryz.f256) (.leaf Tryz.f257)) (.node 1 (.leaf Tryz.f258) (.leaf Tryz.f259)))) (.node 4 (.node 2 (.node 1 (.leaf
 Tryz.f260) (.leaf Tryz.f261)) (.node 1 (.leaf Tryz.f262) (.leaf Tryz.f263))) (.node 2 (.node 1 (.leaf Tryz.f264) (.leaf Tryz.f265)) (.node 1 (.leaf Tryz.f266) (.leaf
 Tryz.f267)))))) (.node 15 (.node 7 (.node 3 (.node 1 (.leaf Tryz.f268) (.node 1 (.leaf Tryz.f269) (.leaf Tryz.f270))) (.node 2 (.node 1 (.leaf Tryz.f271) (.leaf Tryz.f272)) (.node
 1 (.leaf Tryz.f273) (.leaf Tryz.f274)))) (.node 4 (.node 2 (.node 1 (.leaf Tryz.f275) (.leaf Tryz.f276)) (.node 1 (.leaf Tryz.f277) (.leaf Tryz.f278))) (.node 2 (.node 1 (.leaf
 Tryz.f279) (.leaf Tryz.f280)) (.node 1 (.leaf Tryz.f281) (.leaf Tryz.f282))))) (.node 7 (.node 3 (.node 1 (.leaf Tryz.f283) (.node 1 (.leaf Tryz.f284) (.leaf Tryz.f285))) (.node 2
 (.node 1 (.leaf Tryz.f286) (.leaf Tryz.f287)) (.node 1 (.leaf Tryz.f288) (.leaf Tryz.f289)))) (.node 4 (.node 2 (.node 1 (.leaf Tryz.f290) (.leaf Tryz.f291)) (.node 1 (.leaf
 Tryz.f292) (.leaf Tryz.f293))) (.node 2 (.node 1 (.leaf Tryz.f294) (.leaf Tryz.f295)) (.node 1 (.leaf Tryz.f296) (.leaf Tryz.f297))))))) (.node 30 (.node 15 (.node 7 (.node 3
 (.node 1 (.leaf Tryz.f298) (.node 1 (.leaf Tryz.f299) (.leaf Tryz.f300))) (.node 2 (.node 1 (.leaf Tryz.f301) (.leaf Tryz.f302)) (.node 1 (.leaf Tryz.f303) (.leaf Tryz.f304))))
 (.node 4 (.node 2 (.node 1 (.leaf Tryz.f305) (.leaf Tryz.f306)) (.node 1 (.leaf Tryz.f307) (.leaf Tryz.f308))) (.node 2 (.node 1 (.leaf Tryz.f309) (.leaf Tryz.f310)) (.node 1
 (.leaf Tryz.f311) (.leaf Tryz.f312))))) (.node 7 (.node 3 (.node 1 (.leaf Tryz.f313) (.node 1 (.leaf Tryz.f314) (.leaf Tryz.f315))) (.node 2 (.node 1 (.leaf Tryz.f316) (.leaf
 Tryz.f317)) (.node 1 (.leaf Tryz.f318) (.leaf Tryz.f319)))) (.node 4 (.node 2 (.node 1 (.leaf Tryz.f320) (.leaf Tryz.f321)) (.node 1 (.leaf Tryz.f322) (.leaf Tryz.f323))) (.node 2
 (.node 1 (.leaf Tryz.f324) (.leaf Tryz.f325)) (.node 1 (.leaf Tryz.f326) (.leaf Tryz.f327)))))) (.node 15 (.node 7 (.node 3 (.node 1 (.leaf Tryz.f328) (.node 1 (.leaf Tryz.f329)
 (.leaf Tryz.f330))) (.node 2 (.node 1 (.leaf Tryz.f331) (.leaf Tryz.f332)) (.node 1 (.leaf Tryz.f333) (.leaf Tryz.f334)))) (.node 4 (.node 2 (.node 1 (.leaf Tryz.f335) (.leaf
 Tryz.f336)) (.node 1 (.leaf Tryz.f337) (.leaf Tryz.f338))) (.node 2 (.node 1 (.leaf Tryz.f339) (.leaf Tryz.f340)) (.node 1 (.leaf Tryz.f341) (.leaf Tryz.f342))))) (.node 7 (.node
 3 (.node 1 (.leaf Tryz.f343) (.node 1 (.leaf Tryz.f344) (.leaf Tryz.f345))) (.node 2 (.node 1 (.leaf Tryz.f346) (.leaf Tryz.f347)) (.node 1 (.leaf Tryz.f348) (.leaf Tryz.f349))))
 (.node 4 (.node 2 (.node 1 (.leaf Tryz.f350) (.leaf Tryz.f351)) (.node 1 (.leaf Tryz.f352) (.leaf Tryz.f353))) (.node 2 (.node 1 (.leaf Tryz.f354) (.leaf Tryz.f355)) (.node 1
 (.leaf Tryz.f356) (.leaf Tryz.f357)))))))) (.node 60 (.node 30 (.node 15 (.node 7 (.node 3 (.node 1 (.leaf Tryz.f358) (.node 1 (.leaf Tryz.f359) (.leaf Tryz.f360))) (.node 2
 (.node 1 (.leaf Tryz.f361) (.leaf Tryz.f362)) (.node 1 (.leaf Tryz.f363) (.leaf Tryz.f364)))) (.node 4 (.node 2 (.node 1 (.leaf Tryz.f365) (.leaf Tryz.f366)) (.node 1 (.leaf
 Tryz.f367) (.leaf Tryz.f368))) (.node 2 (.node 1 (.leaf Tryz.f369) (.leaf Tryz.f370)) (.node 1 (.leaf Tryz.f371) (.leaf Tryz.f372))))) (.node 7 (.node 3 (.node 1 (.leaf Tryz.f373)
 (.node 1 (.leaf Tryz.f374) (.leaf Tryz.f375))) (.node 2 (.node 1 (.leaf Tryz.f376) (.leaf Tryz.f377)) (.node 1 (.leaf Tryz.f378) (.leaf Tryz.f379)))) (.node 4 (.node 2 (.node 1
 (.leaf Tryz.f380) (.leaf Tryz.f381)) (.node 1 (.leaf Tryz.f382) (.leaf Tryz.f383))) (.node 2 (.node 1 (.leaf Tryz.f384) (.leaf Tryz.f385)) (.node 1 (.leaf Tryz.f386) (.leaf
 Tryz.f387)))))) (.node 15 (.node 7 (.node 3 (.node 1 (.leaf Tryz.f388) (.node 1 (.leaf Tryz.f389) (.leaf Tryz.f390))) (.node 2 (.node 1 (.leaf Tryz.f391) (.leaf Tryz.f392)) (.node
 1 (.leaf Tryz.f393) (.leaf Tryz.f394)))) (.node 4 (.node 2 (.node 1 (.leaf Tryz.f395) (.leaf Tryz.f396)) (.node 1 (.leaf Tryz.f397) (.leaf Tryz.f398))) (.node 2 (.node 1 (.leaf
 Tryz.f399) (.leaf Tryz.f400)) (.node 1 (.leaf Tryz.f401) (.leaf Tryz.f402))))) (.node 7 (.node 3 (.node 1 (.leaf Tryz.f403) (.node 1 (.leaf Tryz.f404) (.leaf Tryz.f405))) (.node 2
 (.node 1 (.leaf Tryz.f406) (.leaf Tryz.f407)) (.node 1 (.leaf Tryz.f408) (.leaf Tryz.f409)))) (.node 4 (.node 2 (.node 1 (.leaf Tryz.f410) (.leaf Tryz.f411)) (.node 1 (.leaf
 Tryz.f412) (.leaf Tryz.f413))) (.node 2 (.node 1 (.leaf Tryz.f414) (.leaf Tryz.f415)) (.node 1 (.leaf Tryz.f416) (.leaf Tryz.f417))))))) (.node 30 (.node 15 (.node 7 (.node 3
 (.node 1 (.leaf Tryz.f418) (.node 1 (.leaf Tryz.f419) (.leaf Tryz.f420))) (.node 2 (.node 1 (.leaf Tryz.f421) (.leaf Tryz.f422)) (.node 1 (.leaf Tryz.f423) (.leaf Tryz.f424))))
 (.node 4 (.node 2 (.node 1 (.leaf Tryz.f425) (.leaf Tryz.f426)) (.node 1 (.leaf Tryz.f427) (.leaf Tryz.f428))) (.node 2 (.node 1 (.leaf Tryz.f429) (.leaf Tryz.f430)) (.node 1
 (.leaf Tryz.f431) (.leaf Tryz.f432))))) (.node 7 (.node 3 (.node 1 (.leaf Tryz.f433) (.node 1 (.leaf Tryz.f434) (.leaf Tryz.f435))) (.node 2 (.node 1 (.leaf Tryz.f436) (.leaf
 Tryz.f437)) (.node 1 (.leaf Tryz.f438) (.leaf Tryz.f439)))) (.node 4 (.node 2 (.node 1 (.leaf Tryz.f440) (.leaf Tryz.f441)) (.node 1 (.leaf Tryz.f442) (.leaf Tryz.f443))) (.node 2
 (.node 1 (.leaf Tryz.f444) (.leaf Tryz.f445)) (.node 1 (.leaf Tryz.f446) (.leaf Tryz.f447)))))) (.node 15 (.node 7 (.node 3 (.node 1 (.leaf Tryz.f448) (.node 1 (.leaf Tryz.f449)
 (.leaf Tryz.f450))) (.node 2 (.node 1 (.leaf Tryz.f451) (.leaf Tryz.f452)) (.node 1 (.leaf Tryz.f453) (.leaf Tryz.f454)))) (.node 4 (.node 2 (.node 1 (.leaf Tryz.f455) (.leaf
 Tryz.f456)) (.node 1 (.leaf Tryz.f457) (.leaf Tryz.f458))) (.node 2 (.node 1 (.leaf Tryz.f459) (.leaf Tryz.f460)) (.node 1 (.leaf Tryz.f461) (.leaf Tryz.f462))))) (.node 7 (.node
 3 (.node 1 (.leaf Tryz.f463) (.node 1 (.leaf Tryz.f464) (.leaf Tryz.f465))) (.node 2 (.node 1 (.leaf Tryz.f466) (.leaf Tryz.f467)) (.node 1 (.leaf Tryz.f468) (.leaf Tryz.f469))))
 (.node 4 (.node 2 (.node 1 (.leaf Tryz.f470) (.leaf Tryz.f471)) (.node 1 (.leaf Tryz.f472) (.leaf Tryz.f473))) (.node 2 (.node 1 (.leaf Tryz.f474) (.leaf Tryz.f475)) (.node 1
 (.leaf Tryz.f476) (.leaf Tryz.f477)))))))))
def plansT : BT (List (Nat × List PK)) :=
  .node 239 (.node 119 (.node 59 (.node 29 (.node 14 (.node 7 (.node 3 (.node 1 (.leaf []) (.node 1 (.leaf []) (.leaf []))) (.node 2 (.node 1 (.leaf ([(7, [.p, .p, .p, .r 0 0, .p, .r
 0 0, .p, .p, .r 0 0, .p, .p, .r 0 0, .p, .p, .r 0 0, .p, .r 0 0, .e, .p, .p, .p, .f, .e, .p])])) (.leaf ([(24, [.p, .e, .e, .p, .p, .p, .p, .r 0 2, .r 2 2])]))) (.node 1 (.leaf
 []) (.leaf ([(7, [.p, .p, .p, .r 0 0, .p, .r 0 0, .p, .p, .r 0 0, .p, .p, .r 0 0, .p, .p, .r 0 0, .p, .r 0 0, .e, .p, .p, .p, .f, .e, .p])]))))) (.node 3 (.node 1 (.leaf ([(11,
 [.p, .p, .p, .r 0 0, .p, .r 0 0, .p, .p, .r 0 0, .p, .p, .r 0 0, .p, .p, .r 0 0, .p, .r 0 0, .e, .p, .p, .p, .f, .e, .p])])) (.node 1 (.leaf []) (.leaf ([(16, [.p, .p, .p, .p, .r
 0 0, .p, .p, .p, .r 0 0, .p, .r 0 0, .p, .p, .p, .p, .r 0 0, .p, .p, .p, .p, .r 0 0, .p, .r 0 0, .p, .p, .p, .p, .p, .r 0 0, .p, .r 0 0, .p, .p, .p, .r 0 0, .r 0 0, .p]), (22,
 [.p, .p, .p, .r 0 0, .p, .r 0 0, .p, .p, .p, .r 0 0, .r 0 0]), (24, [.p, .r 0 0, .p, .p, .p, .r 0 0, .p, .r 0 0, .p, .p, .p, .r 0 0, .r 0 0]), (28, [.p, .r 0 0, .p, .p, .p, .p, .r
 0 0, .p, .p, .p, .p, .p]), (35, [.p, .r 0 0, .p, .p, .p, .r 0 0, .p, .r 0 0, .p, .p, .p, .p, .p, .r 0 0, .r 0 0])])))) (.node 2 (.node 1 (.leaf []) (.leaf ([(7, [.p, .p, .p, .r 0
 0, .p, .r 0 0, .p, .p, .r 0 0, .p, .p, .r 0 0, .p, .p, .r 0 0, .p, .r 0 0, .e, .p, .p, .p, .f, .e, .p])]))) (.node 1 (.leaf ([(9, [.p, .p, .p, .p, .r 0 0, .e, .p, .p, .p, .r 0 1,
 .e, .e]), (16, [.p, .p, .p, .p, .r 0 0, .e, .e, .p, .p, .p, .p, .p, .r 0 2, .f, .e, .p, .p, .p, .p, .r 4 4])])) (.leaf []))))) (.node 7 (.node 3 (.node 1 (.leaf ([(7, [.p, .p, .p,
 .r 0 0, .p, .r 0 0, .p, .p, .r 0 0, .p, .p, .r 0 0, .p, .p, .r 0 0, .p, .r 0 0, .e, .p, .p, .p, .f, .e, .p])])) (.node 1 (.leaf ([(7, [.p, .p, .p, .p, .p, .p, .p, .p, .p, .r 0 0,
 .r 0 0, .p, .p, .r 0 2, .e, .e, .e, .p, .p, .p, .r 3 3, .r 3 3, .p, .p, .p, .p, .p, .r 3 3, .e, .r 4 4, .r 4 4, .p, .p])])) (.leaf []))) (.node 2 (.node 1 (.leaf ([(10, [.p, .r 0
 0, .p, .e, .p]), (12, [.p, .r 0 0, .p, .e, .p])])) (.leaf [])) (.node 1 (.leaf []) (.leaf ([(1, [.p, .p, .p, .r 0 0, .e, .r 0 1, .e, .e, .p]), (6, [.p, .p, .p, .r 0 0, .p, .r 0 0,
 .p, .p, .p, .r 0 0, .p, .p, .e, .p, .p, .p, .f, .e, .p]), (7, [.r 0 0, .p, .r 0 0, .p, .p, .p, .r 0 0, .e, .p, .p, .p, .f, .e, .p])]))))) (.node 4 (.node 2 (.node 1 (.leaf ([(7,
 [.p, .p, .p, .p, .p, .p, .p, .p, .p, .r 0 0, .r 0 0, .p, .p, .p, .r 0 0, .r 0 0, .p, .p, .r 0 2, .e, .e, .e, .p, .p])])) (.leaf [])) (.node 1 (.leaf ([(1, [.p, .p, .p, .r 0 0, .p,
 .r 0 0, .e, .p, .p, .p, .f, .e, .p])])) (.leaf ([(6, [.p, .r 0 0, .p, .p, .r 0 0, .p, .r 0 0, .p, .p, .r 0 0, .e, .p])])))) (.node 2 (.node 1 (.leaf ([(5, [.p, .r 0 2, .p, .p, .p,
 .r 0 0, .e, .e, .e, .p, .e])])) (.leaf [])) (.node 1 (.leaf []) (.leaf ([(6, [.p, .p, .p, .r 0 0, .p, .p, .p, .r 0 0, .r 0 0])]))))))) (.node 15 (.node 7 (.node 3 (.node 1 (.leaf
 []) (.node 1 (.leaf []) (.leaf ([(10, [.p, .r 0 0, .p, .e, .p]), (12, [.p, .r 0 0, .p, .e, .p])])))) (.node 2 (.node 1 (.leaf ([(1, [.p, .p, .p, .r 0 0, .e, .r 0 1, .e, .e, .p]),
 (6, [.p, .p, .p, .r 0 0, .p, .r 0 0, .p, .p, .p, .r 0 0, .p, .p, .e, .p, .p, .p, .f, .e, .p]), (7, [.r 0 0, .p, .r 0 0, .p, .p, .p, .r 0 0, .e, .p, .p, .p, .f, .e, .p])])) (.leaf
 [])) (.node 1 (.leaf []) (.leaf [])))) (.node 4 (.node 2 (.node 1 (.leaf []) (.leaf [])) (.node 1 (.leaf []) (.leaf ([(1, [.p, .p, .p, .r 0 0, .e, .r 0 1, .e, .e, .p]), (6, [.p,
 .p, .p, .r 0 0, .p, .r 0 0, .p, .p, .p, .r 0 0, .p, .p, .e, .p, .p, .p, .f, .e, .p]), (7, [.r 0 0, .p, .r 0 0, .p, .p, .p, .r 0 0, .e, .p, .p, .p, .f, .e, .p])])))) (.node 2
 (.node 1 (.leaf ([(6, [.p, .p, .p, .p, .p, .p, .r 0 0, .r 0 0, .r 0 0, .p, .p, .p, .r 0 0, .p, .p, .r 0 0, .r 0 0, .p, .p, .p, .r 0 2, .p, .r 0 2, .e, .e, .e, .p, .p, .p, .r 3 3,
 .r 3 3, .r 3 3, .p, .p, .p, .r 3 3, .p, .p, .r 3 3, .r 3 3, .p, .p, .p, .r 3 5, .p, .r 3 5, .e, .e, .e, .p, .p])])) (.leaf [])) (.node 1 (.leaf []) (.leaf []))))) (.node 7 (.node
 3 (.node 1 (.leaf ([(3, [.p, .p, .p, .r 0 1, .p, .r 0 0, .e, .p, .p, .p, .e, .e])])) (.node 1 (.leaf ([(1, [.p, .p, .p, .r 0 0, .p, .r 0 0, .e, .p, .p, .p, .f, .e, .p])])) (.leaf
 []))) (.node 2 (.node 1 (.leaf []) (.leaf [])) (.node 1 (.leaf []) (.leaf [])))) (.node 4 (.node 2 (.node 1 (.leaf []) (.leaf ([(10, [.p, .r 0 0, .p, .e, .p]), (12, [.p, .r 0 0,
 .p, .e, .p])]))) (.node 1 (.leaf ([(1, [.p, .p, .p, .r 0 0, .e, .r 0 1, .e, .e, .p]), (6, [.p, .p, .p, .r 0 0, .p, .r 0 0, .p, .p, .p, .r 0 0, .p, .p, .e, .p, .p, .p, .f, .e,
 .p]), (7, [.r 0 0, .p, .r 0 0, .p, .p, .p, .r 0 0, .e, .p, .p, .p, .f, .e, .p])])) (.leaf ([(7, [.p, .p, .p, .p, .p, .p, .p, .p, .p, .r 0 0, .r 0 0, .p, .p, .r 0 2, .e, .e, .e,
 .p, .p, .p, .r 3 3, .r 3 3, .p, .p])])))) (.node 2 (.node 1 (.leaf []) (.leaf ([(1, [.p, .p, .p, .r 0 0, .p, .r 0 0, .e, .p, .p, .p, .f, .e, .p])]))) (.node 1 (.leaf []) (.leaf
 []))))))) (.node 30 (.node 15 (.node 7 (.node 3 (.node 1 (.leaf []) (.node 1 (.leaf []) (.leaf []))) (.node 2 (.node 1 (.leaf ([(10, [.p, .r 0 0, .p, .e, .p]), (12, [.p, .r 0 0,
 .p, .e, .p])])) (.leaf ([(1, [.p, .p, .p, .r 0 0, .e, .r 0 1, .e, .e, .p]), (6, [.p, .p, .p, .r 0 0, .p, .r 0 0, .p, .p, .p, .r 0 0, .p, .p, .e, .p, .p, .p, .f, .e, .p]), (7, [.r
 0 0, .p, .r 0 0, .p, .p, .p, .r 0 0, .e, .p, .p, .p, .f, .e, .p])]))) (.node 1 (.leaf []) (.leaf ([(10, [.p, .p, .p, .r 0 0, .e, .p, .r 0 2, .r 0 1, .p, .e, .p, .e])]))))) (.node
 4 (.node 2 (.node 1 (.leaf []) (.leaf [])) (.node 1 (.leaf []) (.leaf ([(3, [.r 0 0, .p, .r 0 0, .r 0 0, .e, .e]), (5, [.r 0 0, .p, .r 0 0, .p, .r 0 0, .p, .r 0 0, .p, .r 0 0, .e,
 .e]), (6, [.p, .r 0 0, .p, .r 0 0, .p, .r 0 0, .e, .p, .p, .p, .f, .e, .p]), (9, [.p, .p, .r 0 0, .p, .r 0 0, .r 0 0, .p, .p])])))) (.node 2 (.node 1 (.leaf ([(5, [.r 0 0, .p, .r
 0 0, .p, .p, .p, .r 0 0, .e, .p, .p, .p, .f, .e, .p])])) (.leaf [])) (.node 1 (.leaf []) (.leaf []))))) (.node 7 (.node 3 (.node 1 (.leaf ([(2, [.p, .p, .p, .r 0 0, .p, .p, .p,
 .p, .r 0 0, .p, .p, .p, .p, .p, .e])])) (.node 1 (.leaf []) (.leaf []))) (.node 2 (.node 1 (.leaf []) (.leaf [])) (.node 1 (.leaf []) (.leaf ([(8, [.p, .r 0 0, .p, .p, .r 0 0, .e,
 .p, .p, .p, .f, .e, .p]), (11, [.p, .p, .r 0 1, .e, .e, .p, .p, .r 0 3, .f, .e, .p, .p]), (14, [.r 0 0, .p, .p, .r 0 0, .p, .p, .r 0 0, .p, .r 0 0, .p, .r 0 0, .e, .e]), (16, [.r
 0 0, .p, .p, .r 0 0, .p, .p, .r 0 0, .e, .e]), (18, [.r 0 0, .p, .r 0 0, .e, .e]), (21, [.r 0 0, .p, .p, .r 0 0, .p, .r 0 0, .p, .r 0 0, .e, .e]), (23, [.r 0 0, .p, .p, .r 0 0,
 .p, .p, .r 0 0, .p, .r 0 0, .e, .e]), (26, [.r 0 0, .p, .p, .r 0 0, .p, .r 0 0, .p, .r 0 0, .e, .e]), (29, [.r 0 0, .p, .p, .r 0 0, .p, .r 0 0, .p, .r 0 0, .e, .e])]))))) (.node 4
 (.node 2 (.node 1 (.leaf []) (.leaf [])) (.node 1 (.leaf ([(4, [.p, .r 0 0, .p, .p, .r 0 0, .e, .p, .p, .p, .f, .e, .p]), (9, [.p, .r 0 0, .p, .p, .r 0 0, .e, .p, .p, .p, .f, .e,
 .p])])) (.leaf ([(4, [.r 0 0, .p, .p, .r 0 0, .p, .p, .r 0 0, .p, .r 0 0, .e, .e]), (6, [.r 0 0, .p, .p, .r 0 0, .p, .p, .r 0 0, .p, .e, .p, .p, .p, .p, .p]), (12, [.r 0 0, .p,
 .p, .r 0 0, .p, .p, .r 0 0, .p, .p, .r 0 0, .p, .e, .p, .p, .p, .p]), (15, [.p, .r 0 0, .p, .p, .r 0 0, .e, .p, .p, .p, .f, .e, .p]), (18, [.p, .r 0 1, .p, .p, .r 0 1, .p, .p, .r
 0 0, .e, .e, .r 0 2, .e, .e, .e]), (20, [.p, .r 0 0, .p, .p, .r 0 0, .e, .p, .p, .p, .f, .e, .p]), (23, [.r 0 0, .p, .p, .r 0 0, .e, .r 0 1, .e, .e, .e]), (25, [.r 0 0, .p, .p, .r
 0 0, .p, .r 0 0, .e, .e]), (31, [.r 0 0, .p, .p, .r 0 0, .p, .p, .r 0 0, .e, .e]), (38, [.r 0 0, .p, .p, .r 0 0, .p, .p, .r 0 0, .p, .r 0 0, .e, .e]), (41, [.r 0 0, .p, .p, .r 0
 0, .p, .p, .r 0 0, .p, .r 0 0, .e, .e])])))) (.node 2 (.node 1 (.leaf []) (.leaf ([(6, [.p, .p, .p, .p, .r 0 0, .r 0 0, .p, .p, .p, .p, .p, .p, .r 0 0, .r 0 0, .p, .p, .p, .p, .p,
 .p, .p, .p, .p, .p, .p, .r 0 0, .p, .p, .p, .p, .r 0 0, .e, .p, .p, .p])]))) (.node 1 (.leaf ([(4, [.p, .p, .p, .r 0 0, .r 0 0, .p, .p, .p, .p, .p, .p, .p, .p, .p, .r 0 0, .p, .p,
 .p, .r 0 0, .e, .p, .p, .p])])) (.leaf ([(4, [.p, .p, .p, .p, .r 0 0, .r 0 0, .p, .p, .p, .p, .p, .p, .p, .p, .p, .r 0 0, .p, .p, .p, .r 0 0, .e, .p, .p, .p, .p, .p, .p, .p, .p,
 .p, .r 1 1, .e, .p, .r 2 2, .p])]))))))) (.node 15 (.node 7 (.node 3 (.node 1 (.leaf []) (.node 1 (.leaf []) (.leaf []))) (.node 2 (.node 1 (.leaf ([(6, [.p, .p, .p, .r 0 0, .p,
 .p, .p, .r 0 0, .r 0 0])])) (.leaf ([(6, [.p, .p, .p, .r 0 0, .p, .p, .p, .r 0 0, .r 0 0])]))) (.node 1 (.leaf []) (.leaf [])))) (.node 4 (.node 2 (.node 1 (.leaf ([(4, [.r 0 0,
 .p, .p, .r 0 0, .p, .p, .r 0 0, .p, .r 0 0, .e, .e]), (22, [.r 0 0, .p, .r 0 0, .p, .p, .r 0 0, .p, .p, .r 0 0, .p, .r 0 0, .e, .e]), (24, [.r 0 1, .p, .r 0 0, .p, .p, .r 0 0, .e,
 .e, .p, .p, .p, .p, .p]), (27, [.r 0 0, .p, .p, .r 0 0, .e, .e, .e]), (29, [.r 0 0, .p, .p, .r 0 0, .p, .p, .r 0 0, .e, .e]), (31, [.r 0 0, .p, .p, .r 0 0, .p, .p, .r 0 0, .e,
 .e]), (35, [.r 0 0, .p, .p, .r 0 0, .p, .r 0 0, .e, .e]), (37, [.p, .r 0 0, .p, .p, .r 0 0, .p, .p, .r 0 0, .p, .p, .e, .p, .p, .p, .f, .e, .p]), (39, [.r 0 0, .p, .p, .p, .r 0 0,
 .e, .e])])) (.leaf [])) (.node 1 (.leaf []) (.leaf ([(4, [.r 0 0, .p, .r 0 0, .e, .e]), (6, [.r 0 0, .p, .p, .r 0 0, .p, .p, .r 0 0, .e, .e]), (8, [.r 0 0, .p, .p, .r 0 0, .p, .p,
 .r 0 0, .e, .p, .p, .p, .p, .f, .e, .p, .p]), (11, [.r 0 0, .p, .p, .r 0 0, .p, .p, .r 0 0, .e, .p, .p, .p, .p, .f, .e, .p, .p]), (14, [.r 0 0, .p, .r 0 0, .e, .e]), (18, [.r 0 0,
 .p, .p, .r 0 0, .e, .e]), (21, [.r 0 0, .p, .r 0 0, .p, .r 0 0, .e, .e]), (24, [.r 0 0, .p, .r 0 0, .p, .r 0 0, .e, .e]), (26, [.r 0 0, .p, .p, .r 0 0, .p, .p, .r 0 0, .p, .r 0 0,
 .e, .e]), (28, [.r 0 0, .p, .p, .r 0 0, .p, .p, .r 0 0, .p, .r 0 0, .e, .e]), (30, [.r 0 0, .p, .r 0 0, .e, .e]), (34, [.r 0 0, .p, .p, .r 0 0, .p, .p, .r 0 0, .e, .p, .p, .p, .p,
 .f, .e, .p, .p]), (37, [.r 0 0, .p, .p, .r 0 0, .p, .p, .r 0 0, .e, .p, .p, .p, .p, .f, .e, .p, .p]), (40, [.r 0 0, .p, .r 0 0, .e, .e]), (41, [.r 0 0, .p, .p, .r 0 0, .e,
 .e])])))) (.node 2 (.node 1 (.leaf []) (.leaf ([(4, [.r 0 0, .p, .e, .p, .r 0 2, .r 0 1, .p, .e, .p, .e])]))) (.node 1 (.leaf []) (.leaf ([(4, [.p, .p, .p, .p, .p, .p, .r 0 0]),
 (5, [.p, .p, .p, .p, .p, .p, .p, .p])])))))) (.node 7 (.node 3 (.node 1 (.leaf []) (.node 1 (.leaf []) (.leaf ([(1, [.p, .r 0 0, .p, .r 0 0, .p, .r 0 0, .e, .p, .p, .p, .f, .e,
 .p])])))) (.node 2 (.node 1 (.leaf ([(4, [.p, .r 0 0, .p, .r 0 0, .p, .r 0 0, .e, .p, .p, .p, .f, .e, .p]), (15, [.p, .p, .r 0 2, .p, .p, .e, .p, .e, .e, .p, .p, .p, .p, .p, .p,
 .p])])) (.leaf [])) (.node 1 (.leaf ([(5, [.p, .p, .p, .p, .r 0 0, .p, .p, .p, .p, .r 0 0, .p, .e, .e, .p])])) (.leaf [])))) (.node 4 (.node 2 (.node 1 (.leaf []) (.leaf []))
 (.node 1 (.leaf []) (.leaf ([(1, [.p, .r 0 0, .p, .r 0 0, .p, .r 0 0, .p, .p, .p, .r 0 0, .e, .p])])))) (.node 2 (.node 1 (.leaf []) (.leaf ([(12, [.p, .r 0 1, .p, .p, .r 0 0, .e,
 .p, .p, .e]), (13, [.p, .p, .r 0 0, .p, .p, .p, .r 0 0, .r 0 0, .p, .e, .e, .p])]))) (.node 1 (.leaf ([(5, [.p, .r 0 2, .p, .e, .e, .e, .p, .e])])) (.leaf [])))))))) (.node 60
 (.node 30 (.node 15 (.node 7 (.node 3 (.node 1 (.leaf []) (.node 1 (.leaf []) (.leaf []))) (.node 2 (.node 1 (.leaf []) (.leaf [])) (.node 1 (.leaf []) (.leaf ([(1, [.p, .r 0 0,
 .p, .r 0 0, .p, .r 0 0, .p, .r 0 0, .p, .r 0 0, .p, .r 0 0, .p, .p, .p])]))))) (.node 4 (.node 2 (.node 1 (.leaf ([(8, [.p, .p, .p, .e, .p, .p, .p, .e, .r 2 2])])) (.leaf []))
 (.node 1 (.leaf ([(9, [.p, .p, .r 0 0, .p, .p, .r 0 0, .p, .p])])) (.leaf []))) (.node 2 (.node 1 (.leaf ([(9, [.p, .p, .p, .p, .p, .p, .r 0 1, .p, .e, .p, .e]), (19, [.p, .p, .r
 0 0, .p, .p, .p, .r 0 0, .p, .p, .r 0 0, .e, .r 1 1, .p])])) (.leaf [])) (.node 1 (.leaf ([(4, [.p, .p, .r 0 0, .p, .p, .r 0 0, .p, .r 0 0, .e, .p, .p, .p, .p, .p]), (7, [.r 0 0,
 .p, .r 0 0, .p, .r 0 0, .r 0 0, .p, .e, .p, .e, .e, .e])])) (.leaf ([(6, [.p, .p, .r 0 0, .p, .p, .r 0 0, .p, .r 0 0, .e, .p, .p, .p, .p, .p]), (11, [.r 0 0, .p, .r 0 0, .p, .r 0
 0, .r 0 0, .p, .e, .e, .e, .e])])))))) (.node 7 (.node 3 (.node 1 (.leaf ([(4, [.p, .r 0 0, .p, .r 0 0, .p, .r 0 0, .e, .p, .p, .p, .f, .e, .p]), (8, [.p, .p, .r 0 0, .p, .p, .r 0
 0, .p, .p, .r 0 0, .e, .e, .e]), (9, [.p, .p, .r 0 0, .p, .p, .r 0 0, .p, .p, .r 0 0, .e, .p]), (11, [.r 0 0, .p, .r 0 0, .p, .r 0 0, .r 0 0, .p, .e, .p])])) (.node 1 (.leaf [])
 (.leaf []))) (.node 2 (.node 1 (.leaf []) (.leaf ([(4, [.p, .r 0 0, .p, .r 0 0, .p, .r 0 0, .e, .p, .p, .p, .f, .e, .p]), (7, [.p, .p, .r 0 0, .p, .p, .r 0 0, .p, .p, .r 0 0, .e,
 .e, .e])]))) (.node 1 (.leaf ([(6, [.p, .r 0 0, .p, .r 0 0, .p, .r 0 0, .e, .p, .p, .p, .f, .e, .p]), (7, [.p, .p, .p, .r 0 0, .p, .p, .r 0 0, .e, .e, .e, .e])])) (.leaf ([(6,
 [.p, .r 0 0, .p, .r 0 0, .p, .r 0 0, .e, .p, .p, .p, .f, .e, .p]), (7, [.p, .p, .p, .r 0 0, .p, .p, .r 0 0, .p, .p, .r 0 0, .e, .e, .e, .e])]))))) (.node 4 (.node 2 (.node 1
 (.leaf ([(6, [.p, .r 0 0, .p, .r 0 0, .p, .r 0 0, .e, .p, .p, .p, .f, .e, .p]), (7, [.p, .p, .p, .r 0 0, .p, .p, .r 0 0, .e, .e, .e, .e])])) (.leaf [])) (.node 1 (.leaf ([(12,
 [.p, .r 0 1, .p, .p, .e, .p, .e, .p])])) (.leaf []))) (.node 2 (.node 1 (.leaf []) (.leaf [])) (.node 1 (.leaf []) (.leaf [])))))) (.node 15 (.node 7 (.node 3 (.node 1 (.leaf
 ([(14, [.p, .r 0 0, .p, .p, .r 0 0, .p, .e, .r 0 1, .e, .e, .e])])) (.node 1 (.leaf ([(7, [.p, .r 0 1, .p, .p, .p, .r 0 1, .p, .p, .p, .p, .r 0 0, .e, .e, .p])])) (.leaf ([(7,
 [.p, .r 0 0, .p, .p, .r 0 0, .p, .p, .p, .r 0 0, .p, .p, .e, .p, .p, .p, .f, .e, .p])])))) (.node 2 (.node 1 (.leaf ([(7, [.p, .r 0 1, .p, .p, .e, .p, .r 0 1, .e, .p, .r 0 2, .e,
 .e, .e])])) (.leaf ([(1, [.p, .r 0 0, .p, .r 0 0, .p, .r 0 0, .p, .r 0 0, .p, .p]), (8, [.p, .p, .r 0 0, .p, .p, .r 0 0, .p, .e, .p, .p, .p, .p, .p]), (13, [.p, .r 0 1, .p, .p,
 .e, .p, .r 0 1, .e, .p, .r 0 2, .e, .e, .e])]))) (.node 1 (.leaf ([(17, [.p, .r 0 2, .p, .p, .e, .e, .p, .r 0 2, .e, .p, .e, .e, .e])])) (.leaf ([(8, [.p, .p, .r 0 0, .p, .p, .r 0
 0, .p, .p, .r 0 0, .e, .p, .p, .p, .p, .p, .p, .p]), (11, [.p, .r 0 1, .p, .p, .e, .p, .r 0 1, .e, .p, .e, .e, .e])]))))) (.node 4 (.node 2 (.node 1 (.leaf ([(16, [.p, .r 0 1, .p,
 .p, .e, .e, .p, .r 0 2, .e, .e, .e])])) (.leaf [])) (.node 1 (.leaf []) (.leaf []))) (.node 2 (.node 1 (.leaf []) (.leaf [])) (.node 1 (.leaf []) (.leaf []))))) (.node 7 (.node 3
 (.node 1 (.leaf ([(19, [.p, .p, .r 0 1, .p, .r 0 0, .p, .p, .r 0 0, .e, .p, .p])])) (.node 1 (.leaf []) (.leaf []))) (.node 2 (.node 1 (.leaf []) (.leaf [])) (.node 1 (.leaf [])
 (.leaf [])))) (.node 4 (.node 2 (.node 1 (.leaf ([(12, [.p, .r 0 1, .p, .r 0 0, .p, .p, .r 0 0, .e, .p, .e, .e])])) (.leaf ([(12, [.p, .r 0 0, .p, .r 0 0, .p, .r 0 0, .e, .p, .p,
 .p, .f, .e, .p])]))) (.node 1 (.leaf ([(4, [.p, .r 0 0, .p, .r 0 0, .p, .r 0 0, .e, .p, .p, .p, .f, .e, .p])])) (.leaf ([(4, [.p, .r 0 0, .p, .r 0 0, .p, .r 0 0, .e, .p, .p, .p,
 .f, .e, .p]), (7, [.p, .p, .r 0 2, .p, .p, .r 0 3, .e, .f, .e, .e])])))) (.node 2 (.node 1 (.leaf ([(4, [.p, .r 0 0, .p, .r 0 0, .p, .r 0 0, .e, .p, .p, .p, .f, .e, .p]), (11,
 [.p, .p, .r 0 0, .p, .r 0 0, .e, .p, .p, .r 0 1, .p, .r 0 1, .e, .p, .p])])) (.leaf ([(10, [.r 0 0, .p, .p, .r 0 0, .e, .p, .p, .p, .p, .p]), (13, [.p, .p, .p, .r 0 0, .p, .r 0 0,
 .e, .e, .e])]))) (.node 1 (.leaf ([(15, [.p, .p, .r 0 0, .p, .r 0 0, .e, .p]), (20, [.p, .r 0 0, .p, .r 0 0, .p, .r 0 0, .p, .p, .e, .p, .r 0 1, .e, .e, .e])])) (.leaf ([(9, [.p,
 .r 0 0, .p, .r 0 0, .p, .r 0 0, .e, .p, .p, .p, .f, .e, .p]), (14, [.p, .p, .r 0 0, .p, .p, .r 0 0, .p, .p]), (16, [.p, .p, .r 0 0, .p, .p, .r 0 0, .e, .p, .p, .r 0 1, .p, .p, .r
 0 1, .p, .p])])))))))) (.node 30 (.node 15 (.node 7 (.node 3 (.node 1 (.leaf ([(4, [.p, .r 0 0, .p, .r 0 0, .p, .r 0 0, .p, .r 0 0, .e, .e, .p, .p, .p, .p, .p]), (7, [.p, .r 0 0,
 .p, .r 0 0, .p, .r 0 0, .e, .p, .p, .p, .f, .e, .p]), (11, [.p, .r 0 1, .p, .p, .r 0 0, .p, .p, .r 0 0, .p, .p, .r 0 0, .e, .e, .e]), (13, [.p, .p, .r 0 0, .p, .p, .r 0 0, .p, .r
 0 0, .e, .p, .p, .p, .p, .p]), (14, [.p, .r 0 0, .p, .p, .p, .r 0 0, .e, .e])])) (.node 1 (.leaf ([(9, [.p, .r 0 1, .r 0 0, .p, .e, .e, .e])])) (.leaf ([(1, [.p, .r 0 0, .p, .r 0
 0, .p, .r 0 0, .p, .r 0 0, .e, .e, .p, .p, .p, .p, .p]), (7, [.r 0 0, .p, .r 0 0, .p, .r 0 0, .p, .r 0 0, .p, .r 0 0, .e, .p, .p, .p, .p, .f, .e, .p, .p])])))) (.node 2 (.node 1
 (.leaf ([(1, [.p, .r 0 0, .p, .r 0 0, .p, .r 0 0, .p, .r 0 0, .e, .e, .p, .p, .p, .p, .p]), (4, [.p, .r 0 0, .p, .r 0 0, .p, .r 0 0, .e, .p, .p, .p, .f, .e, .p]), (7, [.r 0 1, .r
 0 1, .p, .p, .r 0 0, .p, .p, .r 0 0, .p, .p, .r 0 0, .e, .e, .e])])) (.leaf [])) (.node 1 (.leaf ([(1, [.p, .r 0 0, .p, .r 0 0, .p, .r 0 0, .e, .p, .p, .p, .f, .e, .p])])) (.leaf
 ([(1, [.p, .r 0 0, .p, .r 0 0, .p, .r 0 0, .e, .p, .p, .p, .f, .e, .p])]))))) (.node 4 (.node 2 (.node 1 (.leaf ([(18, [.p, .r 0 0, .p, .p, .r 0 0, .p, .p, .r 0 0, .p, .p, .p, .p,
 .e])])) (.leaf [])) (.node 1 (.leaf []) (.leaf []))) (.node 2 (.node 1 (.leaf []) (.leaf [])) (.node 1 (.leaf []) (.leaf ([(2, [.p, .p, .r 0 0, .r 0 0, .p, .p, .r 0 0, .p, .p, .p,
 .r 0 0, .r 0 0, .r 0 0, .p, .p, .p])])))))) (.node 7 (.node 3 (.node 1 (.leaf []) (.node 1 (.leaf []) (.leaf []))) (.node 2 (.node 1 (.leaf ([(4, [.p, .r 0 0, .p, .r 0 0, .p, .r 0
 0, .e, .p, .p, .p, .f, .e, .p]), (7, [.r 0 0, .p, .p, .r 0 1, .e, .p, .p])])) (.leaf [])) (.node 1 (.leaf []) (.leaf [])))) (.node 4 (.node 2 (.node 1 (.leaf []) (.leaf ([(3, [.p,
 .p, .r 0 0, .e, .p, .p, .r 0 1, .e, .p, .p])]))) (.node 1 (.leaf []) (.leaf []))) (.node 2 (.node 1 (.leaf []) (.leaf [])) (.node 1 (.leaf []) (.leaf [])))))) (.node 15 (.node 7
 (.node 3 (.node 1 (.leaf []) (.node 1 (.leaf ([(1, [.p, .p, .p, .p, .p, .p, .r 0 0, .p, .p, .p, .p, .p, .p, .p, .p, .e, .p, .r 1 1, .p])])) (.leaf []))) (.node 2 (.node 1 (.leaf
 []) (.leaf [])) (.node 1 (.leaf []) (.leaf [])))) (.node 4 (.node 2 (.node 1 (.leaf []) (.leaf [])) (.node 1 (.leaf []) (.leaf []))) (.node 2 (.node 1 (.leaf []) (.leaf []))
 (.node 1 (.leaf ([(7, [.p, .p, .p, .p, .r 0 1, .p, .e, .p, .p, .e]), (9, [.p, .p, .p, .p, .r 0 1, .p, .e, .p, .p, .e]), (10, [.p, .r 0 1, .p, .p, .e, .p, .p, .p])])) (.leaf
 []))))) (.node 7 (.node 3 (.node 1 (.leaf []) (.node 1 (.leaf []) (.leaf []))) (.node 2 (.node 1 (.leaf []) (.leaf [])) (.node 1 (.leaf []) (.leaf ([(9, [.p, .p, .r 0 0, .p, .p,
 .p, .p, .p, .p, .p, .p, .p, .e, .p, .p])]))))) (.node 4 (.node 2 (.node 1 (.leaf ([(28, [.p, .p, .r 0 0, .p, .p, .r 0 1, .p, .e, .p, .e])])) (.leaf [])) (.node 1 (.leaf []) (.leaf
 ([(3, [.p, .p, .p, .p, .p, .p, .p, .r 0 0, .p, .p, .p, .r 0 0, .p, .e, .p, .e])])))) (.node 2 (.node 1 (.leaf []) (.leaf [])) (.node 1 (.leaf []) (.leaf []))))))))) (.node 119
 (.node 59 (.node 29 (.node 14 (.node 7 (.node 3 (.node 1 (.leaf ([(3, [.p, .r 0 0, .p, .r 0 0, .p, .r 0 0, .p, .p, .p, .r 0 0, .e, .p])])) (.node 1 (.leaf []) (.leaf []))) (.node
 2 (.node 1 (.leaf []) (.leaf [])) (.node 1 (.leaf []) (.leaf [])))) (.node 3 (.node 1 (.leaf []) (.node 1 (.leaf []) (.leaf []))) (.node 2 (.node 1 (.leaf []) (.leaf ([(24, [.p,
 .p, .r 0 0, .p, .p, .r 0 0, .p, .e, .p, .e])]))) (.node 1 (.leaf []) (.leaf []))))) (.node 7 (.node 3 (.node 1 (.leaf []) (.node 1 (.leaf []) (.leaf []))) (.node 2 (.node 1 (.leaf
 []) (.leaf ([(2, [.r 0 0, .r 0 1, .e, .e, .p]), (8, [.r 0 0, .r 0 1, .e, .e, .p]), (10, [.r 0 0, .r 0 1, .e, .e, .p])]))) (.node 1 (.leaf []) (.leaf [])))) (.node 4 (.node 2
 (.node 1 (.leaf ([(11, [.p, .p, .p, .p, .r 0 0, .p, .p, .r 0 0, .e]), (15, [.p, .p, .p, .p, .r 0 0, .p, .p, .r 0 0, .e])])) (.leaf [])) (.node 1 (.leaf ([(1, [.r 0 0, .p, .p, .p,
 .r 0 0, .r 0 0, .p, .p])])) (.leaf ([(1, [.p, .r 0 0, .p, .p, .p, .r 0 0, .p, .r 0 0, .r 0 0, .p, .p, .p, .p, .p, .p, .r 0 0, .p, .p])])))) (.node 2 (.node 1 (.leaf []) (.leaf
 [])) (.node 1 (.leaf []) (.leaf ([(11, [.p, .p, .p, .p, .r 0 0, .p, .p, .r 0 0, .e]), (15, [.p, .p, .p, .p, .r 0 0, .p, .p, .r 0 0, .e])]))))))) (.node 15 (.node 7 (.node 3 (.node
 1 (.leaf []) (.node 1 (.leaf []) (.leaf ([(2, [.r 0 0, .p, .p, .r 0 0, .r 0 0, .r 0 0, .p])])))) (.node 2 (.node 1 (.leaf []) (.leaf [])) (.node 1 (.leaf []) (.leaf [])))) (.node
 4 (.node 2 (.node 1 (.leaf []) (.leaf [])) (.node 1 (.leaf []) (.leaf []))) (.node 2 (.node 1 (.leaf []) (.leaf [])) (.node 1 (.leaf ([(1, [.r 0 0, .p, .p, .r 0 0, .r 0 0, .p, .p,
 .r 0 0, .e, .r 0 1, .p, .p, .r 0 1, .r 0 1, .p, .p, .r 0 1, .e, .e, .e, .p])])) (.leaf []))))) (.node 7 (.node 3 (.node 1 (.leaf []) (.node 1 (.leaf []) (.leaf []))) (.node 2
 (.node 1 (.leaf []) (.leaf [])) (.node 1 (.leaf ([(1, [.p, .r 0 0, .p, .r 0 0, .e, .p, .r 0 1, .p, .r 0 1, .e, .e, .e, .p])])) (.leaf ([(6, [.p, .p, .p, .r 0 0, .p, .p, .p, .r 0
 0, .r 0 0])]))))) (.node 4 (.node 2 (.node 1 (.leaf []) (.leaf [])) (.node 1 (.leaf []) (.leaf []))) (.node 2 (.node 1 (.leaf []) (.leaf [])) (.node 1 (.leaf []) (.leaf ([(3, [.p,
 .p, .p, .p, .p, .p, .p, .r 0 0, .p, .p, .p, .r 0 0, .p, .e, .p, .e])])))))))) (.node 30 (.node 15 (.node 7 (.node 3 (.node 1 (.leaf []) (.node 1 (.leaf []) (.leaf []))) (.node 2
 (.node 1 (.leaf []) (.leaf [])) (.node 1 (.leaf []) (.leaf [])))) (.node 4 (.node 2 (.node 1 (.leaf []) (.leaf [])) (.node 1 (.leaf []) (.leaf ([(17, [.p, .p, .p, .p, .p, .p, .p,
 .r 0 0, .p, .p, .p, .r 0 0, .e, .p, .p])])))) (.node 2 (.node 1 (.leaf []) (.leaf [])) (.node 1 (.leaf []) (.leaf []))))) (.node 7 (.node 3 (.node 1 (.leaf []) (.node 1 (.leaf [])
 (.leaf []))) (.node 2 (.node 1 (.leaf ([(17, [.p, .p, .p, .p, .p, .p, .p, .r 0 0, .p, .p, .p, .r 0 0, .e, .p, .p])])) (.leaf ([(17, [.p, .p, .p, .p, .p, .p, .p, .p, .r 0 0, .p,
 .p, .p, .r 0 0, .e, .p, .p, .p])]))) (.node 1 (.leaf []) (.leaf [])))) (.node 4 (.node 2 (.node 1 (.leaf ([(17, [.p, .p, .p, .p, .p, .p, .p, .p, .r 0 0, .p, .p, .p, .r 0 0, .e,
 .p, .p, .p])])) (.leaf [])) (.node 1 (.leaf []) (.leaf []))) (.node 2 (.node 1 (.leaf []) (.leaf [])) (.node 1 (.leaf ([(7, [.p, .p, .p, .p, .p, .p, .p, .p, .p, .p, .p, .p, .e,
 .p, .e]), (8, [.p, .p, .p, .p, .p, .p, .p, .p, .p, .p, .p, .p, .e, .p, .e]), (9, [.p, .p, .p, .p, .p, .p, .p, .p, .p, .p, .p, .p, .e, .p, .e]), (10, [.p, .p, .p, .p, .p, .p, .p,
 .p, .p, .p, .p, .p, .e, .p, .e]), (17, [.p, .p, .p, .p, .p, .p, .p, .p, .p, .p, .p, .p, .e, .p, .e]), (18, [.p, .p, .p, .p, .p, .p, .p, .p, .p, .p, .p, .p, .e, .p, .e]), (23, [.p,
 .p, .p, .p, .p, .p, .p, .p, .p, .p, .p, .p, .e, .p, .e])])) (.leaf [])))))) (.node 15 (.node 7 (.node 3 (.node 1 (.leaf []) (.node 1 (.leaf []) (.leaf ([(4, [.p, .p, .p, .p, .p,
 .p, .p, .r 0 0, .p, .p, .p, .p, .r 0 0, .e, .p]), (6, [.p, .p, .p, .p, .p, .p, .p, .p, .p, .r 0 0, .p, .p, .p, .r 0 0, .p, .e, .p, .e])])))) (.node 2 (.node 1 (.leaf ([(10, [.p,
 .p, .p, .p, .p, .p, .p, .p, .p, .p, .p, .r 0 0, .p, .p, .p, .r 0 0, .p, .e, .p, .e])])) (.leaf ([(10, [.p, .p, .p, .p, .p, .p, .p, .p, .p, .p, .p, .r 0 0, .p, .p, .p, .r 0 0, .p,
 .e, .p, .e])]))) (.node 1 (.leaf []) (.leaf ([(3, [.p, .p, .p, .p, .p, .p, .p, .r 0 0, .p, .p, .p, .r 0 0, .p, .e, .p, .e])]))))) (.node 4 (.node 2 (.node 1 (.leaf ([(5, [.p, .p,
 .p, .p, .p, .p, .p, .r 0 0, .p, .p, .p, .p, .r 0 0, .e, .p, .p]), (11, [.p, .p, .p, .p, .p, .p, .p, .p, .p, .r 0 0, .p, .p, .p, .r 0 0, .p, .e, .p, .e]), (16, [.p, .p, .p, .r 0 0,
 .p, .p, .p, .p, .r 0 0, .e, .p]), (17, [.p, .p, .p, .p, .p, .p, .p, .p, .p, .r 0 0, .p, .p, .p, .r 0 0, .p, .e, .p, .e]), (22, [.p, .p, .p, .r 0 0, .p, .p, .p, .p, .r 0 0, .e,
 .p]), (23, [.p, .p, .p, .p, .p, .p, .p, .p, .p, .r 0 0, .p, .p, .p, .r 0 0, .p, .e, .p, .e])])) (.leaf [])) (.node 1 (.leaf ([(1, [.p, .p, .p, .p, .p, .p, .p, .r 0 0, .p, .p, .p,
 .r 0 0, .p, .e, .p, .e]), (3, [.p, .p, .p, .p, .p, .p, .p, .r 0 0, .p, .p, .p, .r 0 0, .e, .p, .p]), (5, [.p, .p, .p, .p, .p, .p, .p, .r 0 0, .p, .p, .p, .r 0 0, .e, .p]), (8,
 [.p, .p, .p, .p, .p, .p, .p, .r 0 0, .p, .p, .p, .r 0 0, .p, .e, .p, .e])])) (.leaf ([(1, [.p, .p, .p, .p, .p, .p, .p, .r 0 0, .p, .p, .p, .r 0 0, .p, .e, .p, .e]), (3, [.p, .p,
 .p, .p, .p, .p, .p, .r 0 0, .p, .p, .p, .r 0 0, .e, .p]), (5, [.p, .p, .p, .p, .p, .p, .p, .r 0 0, .p, .p, .p, .r 0 0, .e, .p, .p]), (8, [.p, .p, .p, .p, .p, .p, .p, .r 0 0, .p,
 .p, .p, .r 0 0, .p, .e, .p, .e]), (10, [.p, .p, .p, .p, .p, .p, .p, .r 0 0, .p, .p, .p, .r 0 0, .p, .e, .p, .e]), (13, [.p, .p, .p, .p, .p, .p, .p, .r 0 0, .p, .p, .p, .r 0 0, .e,
 .p]), (15, [.p, .p, .p, .p, .p, .p, .p, .r 0 0, .p, .p, .p, .r 0 0, .e, .p, .p]), (18, [.p, .p, .p, .p, .p, .p, .p, .r 0 0, .p, .p, .p, .r 0 0, .p, .e, .p, .e]), (21, [.p, .p, .p,
 .p, .p, .p, .p, .r 0 0, .p, .p, .p, .r 0 0, .p, .e, .p, .e])])))) (.node 2 (.node 1 (.leaf []) (.leaf [])) (.node 1 (.leaf []) (.leaf ([(1, [.p, .p, .e, .r 0 1, .p, .e,
 .p])])))))) (.node 7 (.node 3 (.node 1 (.leaf ([(1, [.p, .p, .e, .r 0 1, .p, .e, .p])])) (.node 1 (.leaf []) (.leaf []))) (.node 2 (.node 1 (.leaf ([(3, [.p, .p, .p, .p, .p, .p,
 .r 0 0, .p, .p, .p, .e])])) (.leaf [])) (.node 1 (.leaf []) (.leaf ([(0, [.p, .p, .p, .p, .p, .r 0 0, .p, .p, .p, .p, .p, .p, .e])]))))) (.node 4 (.node 2 (.node 1 (.leaf ([(4,
 [.p, .p, .p, .p, .p, .p, .p, .r 0 0, .p, .p, .p, .p, .r 0 0, .e, .p]), (6, [.p, .p, .p, .p, .p, .p, .p, .p, .p, .r 0 0, .p, .p, .p, .r 0 0, .p, .e, .p, .e])])) (.leaf ([(10, [.p,
 .p, .p, .p, .p, .p, .p, .p, .p, .p, .p, .r 0 0, .p, .p, .p, .r 0 0, .p, .e, .p, .e])]))) (.node 1 (.leaf ([(10, [.p, .p, .p, .p, .p, .p, .p, .p, .p, .p, .p, .r 0 0, .p, .p, .p, .r
 0 0, .p, .e, .p, .e])])) (.leaf []))) (.node 2 (.node 1 (.leaf ([(3, [.p, .p, .p, .p, .p, .p, .p, .r 0 0, .p, .p, .p, .r 0 0, .p, .e, .p, .e])])) (.leaf ([(5, [.p, .p, .p, .p, .p,
 .p, .p, .r 0 0, .p, .p, .p, .p, .r 0 0, .e, .p, .p]), (11, [.p, .p, .p, .p, .p, .p, .p, .p, .p, .r 0 0, .p, .p, .p, .r 0 0, .p, .e, .p, .e]), (16, [.p, .p, .p, .r 0 0, .p, .p, .p,
 .p, .r 0 0, .e, .p]), (17, [.p, .p, .p, .p, .p, .p, .p, .p, .p, .r 0 0, .p, .p, .p, .r 0 0, .p, .e, .p, .e]), (22, [.p, .p, .p, .r 0 0, .p, .p, .p, .p, .r 0 0, .e, .p]), (23, [.p,
 .p, .p, .p, .p, .p, .p, .p, .p, .r 0 0, .p, .p, .p, .r 0 0, .p, .e, .p, .e])]))) (.node 1 (.leaf []) (.leaf ([(1, [.p, .p, .p, .p, .p, .p, .p, .r 0 0, .p, .p, .p, .r 0 0, .p, .e,
 .p, .e]), (3, [.p, .p, .p, .p, .p, .p, .p, .r 0 0, .p, .p, .p, .r 0 0, .e, .p, .p]), (5, [.p, .p, .p, .p, .p, .p, .p, .r 0 0, .p, .p, .p, .r 0 0, .e, .p]), (8, [.p, .p, .p, .p,
 .p, .p, .p, .r 0 0, .p, .p, .p, .r 0 0, .p, .e, .p, .e])]))))))))) (.node 60 (.node 30 (.node 15 (.node 7 (.node 3 (.node 1 (.leaf ([(1, [.p, .p, .p, .p, .p, .p, .p, .r 0 0, .p,
 .p, .p, .r 0 0, .p, .e, .p, .e]), (3, [.p, .p, .p, .p, .p, .p, .p, .r 0 0, .p, .p, .p, .r 0 0, .e, .p]), (5, [.p, .p, .p, .p, .p, .p, .p, .r 0 0, .p, .p, .p, .r 0 0, .e, .p, .p]),
 (8, [.p, .p, .p, .p, .p, .p, .p, .r 0 0, .p, .p, .p, .r 0 0, .p, .e, .p, .e]), (10, [.p, .p, .p, .p, .p, .p, .p, .r 0 0, .p, .p, .p, .r 0 0, .p, .e, .p, .e]), (13, [.p, .p, .p,
 .p, .p, .p, .p, .r 0 0, .p, .p, .p, .r 0 0, .e, .p]), (15, [.p, .p, .p, .p, .p, .p, .p, .r 0 0, .p, .p, .p, .r 0 0, .e, .p, .p]), (18, [.p, .p, .p, .p, .p, .p, .p, .r 0 0, .p, .p,
 .p, .r 0 0, .p, .e, .p, .e]), (21, [.p, .p, .p, .p, .p, .p, .p, .r 0 0, .p, .p, .p, .r 0 0, .p, .e, .p, .e])])) (.node 1 (.leaf ([(4, [.p, .p, .p, .p, .p, .p, .p, .p, .r 0 0, .p,
 .p, .p, .p, .r 0 0, .e, .p, .p]), (6, [.p, .p, .p, .p, .p, .p, .p, .p, .p, .r 0 0, .p, .p, .p, .r 0 0, .p, .e, .p, .e])])) (.leaf ([(10, [.p, .p, .p, .p, .p, .p, .p, .p, .p, .p,
 .p, .r 0 0, .p, .p, .p, .r 0 0, .p, .e, .p, .e])])))) (.node 2 (.node 1 (.leaf ([(10, [.p, .p, .p, .p, .p, .p, .p, .p, .p, .p, .p, .r 0 0, .p, .p, .p, .r 0 0, .p, .e, .p, .e])]))
 (.leaf [])) (.node 1 (.leaf ([(3, [.p, .p, .p, .p, .p, .p, .p, .r 0 0, .p, .p, .p, .r 0 0, .p, .e, .p, .e])])) (.leaf ([(5, [.p, .p, .p, .p, .p, .p, .p, .p, .r 0 0, .p, .p, .p,
 .p, .r 0 0, .e, .p, .p, .p]), (11, [.p, .p, .p, .p, .p, .p, .p, .p, .p, .r 0 0, .p, .p, .p, .r 0 0, .p, .e, .p, .e]), (16, [.p, .p, .p, .p, .r 0 0, .p, .p, .p, .p, .r 0 0, .e, .p,
 .p]), (17, [.p, .p, .p, .p, .p, .p, .p, .p, .p, .r 0 0, .p, .p, .p, .r 0 0, .p, .e, .p, .e]), (22, [.p, .p, .p, .p, .r 0 0, .p, .p, .p, .p, .r 0 0, .e, .p, .p]), (23, [.p, .p, .p,
 .p, .p, .p, .p, .p, .p, .r 0 0, .p, .p, .p, .r 0 0, .p, .e, .p, .e])]))))) (.node 4 (.node 2 (.node 1 (.leaf ([(1, [.p, .p, .p, .p, .p, .p, .p, .r 0 0, .p, .p, .p, .r 0 0, .p, .e,
 .p, .e]), (3, [.p, .p, .p, .p, .p, .p, .p, .p, .r 0 0, .p, .p, .p, .r 0 0, .e, .p, .p, .p]), (5, [.p, .p, .p, .p, .p, .p, .p, .p, .r 0 0, .p, .p, .p, .r 0 0, .e, .p, .p]), (8,
 [.p, .p, .p, .p, .p, .p, .p, .r 0 0, .p, .p, .p, .r 0 0, .p, .e, .p, .e])])) (.leaf ([(1, [.p, .p, .p, .p, .p, .p, .p, .r 0 0, .p, .p, .p, .r 0 0, .p, .e, .p, .e]), (3, [.p, .p,
 .p, .p, .p, .p, .p, .p, .r 0 0, .p, .p, .p, .r 0 0, .e, .p, .p]), (5, [.p, .p, .p, .p, .p, .p, .p, .p, .r 0 0, .p, .p, .p, .r 0 0, .e, .p, .p, .p]), (8, [.p, .p, .p, .p, .p, .p,
 .p, .r 0 0, .p, .p, .p, .r 0 0, .p, .e, .p, .e]), (10, [.p, .p, .p, .p, .p, .p, .p, .r 0 0, .p, .p, .p, .r 0 0, .p, .e, .p, .e]), (13, [.p, .p, .p, .p, .p, .p, .p, .p, .r 0 0, .p,
 .p, .p, .r 0 0, .e, .p, .p]), (15, [.p, .p, .p, .p, .p, .p, .p, .p, .r 0 0, .p, .p, .p, .r 0 0, .e, .p, .p, .p]), (18, [.p, .p, .p, .p, .p, .p, .p, .r 0 0, .p, .p, .p, .r 0 0, .p,
 .e, .p, .e]), (21, [.p, .p, .p, .p, .p, .p, .p, .r 0 0, .p, .p, .p, .r 0 0, .p, .e, .p, .e])]))) (.node 1 (.leaf []) (.leaf ([(4, [.p, .p, .p, .p, .p, .p, .p, .p, .r 0 0, .p, .p,
 .p, .p, .r 0 0, .e, .p, .p]), (6, [.p, .p, .p, .p, .p, .p, .p, .p, .p, .r 0 0, .p, .p, .p, .r 0 0, .p, .e, .p, .e])])))) (.node 2 (.node 1 (.leaf ([(10, [.p, .p, .p, .p, .p, .p,
 .p, .p, .p, .p, .p, .r 0 0, .p, .p, .p, .r 0 0, .p, .e, .p, .e])])) (.leaf ([(10, [.p, .p, .p, .p, .p, .p, .p, .p, .p, .p, .p, .r 0 0, .p, .p, .p, .r 0 0, .p, .e, .p, .e])])))
 (.node 1 (.leaf []) (.leaf ([(3, [.p, .p, .p, .p, .p, .p, .p, .r 0 0, .p, .p, .p, .r 0 0, .p, .e, .p, .e])])))))) (.node 7 (.node 3 (.node 1 (.leaf ([(5, [.p, .p, .p, .p, .p, .p,
 .p, .p, .r 0 0, .p, .p, .p, .p, .r 0 0, .e, .p, .p, .p]), (11, [.p, .p, .p, .p, .p, .p, .p, .p, .p, .r 0 0, .p, .p, .p, .r 0 0, .p, .e, .p, .e]), (16, [.p, .p, .p, .p, .r 0 0, .p,
 .p, .p, .p, .r 0 0, .e, .p, .p]), (17, [.p, .p, .p, .p, .p, .p, .p, .p, .p, .r 0 0, .p, .p, .p, .r 0 0, .p, .e, .p, .e]), (22, [.p, .p, .p, .p, .r 0 0, .p, .p, .p, .p, .r 0 0, .e,
 .p, .p]), (23, [.p, .p, .p, .p, .p, .p, .p, .p, .p, .r 0 0, .p, .p, .p, .r 0 0, .p, .e, .p, .e])])) (.node 1 (.leaf ([(1, [.p, .p, .p, .p, .p, .p, .p, .r 0 0, .p, .p, .p, .r 0 0,
 .p, .e, .p, .e]), (3, [.p, .p, .p, .p, .p, .p, .p, .p, .r 0 0, .p, .p, .p, .r 0 0, .e, .p, .p, .p]), (5, [.p, .p, .p, .p, .p, .p, .p, .p, .r 0 0, .p, .p, .p, .r 0 0, .e, .p, .p]),
 (8, [.p, .p, .p, .p, .p, .p, .p, .r 0 0, .p, .p, .p, .r 0 0, .p, .e, .p, .e])])) (.leaf ([(1, [.p, .p, .p, .p, .p, .p, .p, .r 0 0, .p, .p, .p, .r 0 0, .p, .e, .p, .e]), (3, [.p,
 .p, .p, .p, .p, .p, .p, .p, .r 0 0, .p, .p, .p, .r 0 0, .e, .p, .p]), (5, [.p, .p, .p, .p, .p, .p, .p, .p, .r 0 0, .p, .p, .p, .r 0 0, .e, .p, .p, .p]), (8, [.p, .p, .p, .p, .p,
 .p, .p, .r 0 0, .p, .p, .p, .r 0 0, .p, .e, .p, .e]), (10, [.p, .p, .p, .p, .p, .p, .p, .r 0 0, .p, .p, .p, .r 0 0, .p, .e, .p, .e]), (13, [.p, .p, .p, .p, .p, .p, .p, .p, .r 0 0,
 .p, .p, .p, .r 0 0, .e, .p, .p]), (15, [.p, .p, .p, .p, .p, .p, .p, .p, .r 0 0, .p, .p, .p, .r 0 0, .e, .p, .p, .p]), (18, [.p, .p, .p, .p, .p, .p, .p, .r 0 0, .p, .p, .p, .r 0 0,
 .p, .e, .p, .e]), (21, [.p, .p, .p, .p, .p, .p, .p, .r 0 0, .p, .p, .p, .r 0 0, .p, .e, .p, .e])])))) (.node 2 (.node 1 (.leaf []) (.leaf [])) (.node 1 (.leaf []) (.leaf []))))
 (.node 4 (.node 2 (.node 1 (.leaf []) (.leaf ([(3, [.p, .p, .p, .p, .p, .p, .p, .r 0 0, .p, .p, .p, .r 0 0, .p, .e, .p, .e])]))) (.node 1 (.leaf ([(3, [.p, .p, .p, .p, .p, .p, .p,
 .p, .p, .p, .r 0 0, .p, .p, .p, .p, .p, .p, .r 0 0, .e, .p]), (5, [.p, .p, .p, .p, .p, .r 0 0, .p, .p, .p, .p, .p, .r 0 0, .e, .p]), (6, [.p, .p, .p, .p, .p, .p, .p, .p, .p, .p,
 .p, .p, .p, .r 0 0, .p, .p, .p, .p, .p, .r 0 0, .p, .e, .p, .e])])) (.leaf []))) (.node 2 (.node 1 (.leaf ([(1, [.p, .p, .r 0 0, .p, .p, .r 0 0, .p, .p, .p, .e]), (2, [.p, .p, .r
 0 0, .p, .p, .r 0 0, .p, .p, .p, .e]), (3, [.p, .p, .r 0 0, .p, .p, .r 0 0, .p, .p, .p, .e])])) (.leaf [])) (.node 1 (.leaf []) (.leaf [])))))) (.node 15 (.node 7 (.node 3 (.node
 1 (.leaf []) (.node 1 (.leaf []) (.leaf []))) (.node 2 (.node 1 (.leaf []) (.leaf ([(3, [.p, .p, .p, .p, .p, .p, .p, .p, .p, .p, .r 0 0, .p, .p, .p, .p, .p, .p, .r 0 0, .e, .p]),
 (5, [.p, .p, .p, .p, .p, .r 0 0, .p, .p, .p, .p, .p, .r 0 0, .e, .p]), (6, [.p, .p, .p, .p, .p, .p, .p, .p, .p, .p, .p, .p, .p, .r 0 0, .p, .p, .p, .p, .p, .r 0 0, .p, .e, .p,
 .e])]))) (.node 1 (.leaf []) (.leaf [])))) (.node 4 (.node 2 (.node 1 (.leaf ([(3, [.p, .p, .p, .p, .p, .p, .p, .p, .p, .p, .p, .r 0 0, .p, .p, .p, .p, .p, .p, .r 0 0, .e, .p,
 .p]), (5, [.p, .p, .p, .p, .p, .p, .r 0 0, .p, .p, .p, .p, .p, .r 0 0, .e, .p, .p]), (6, [.p, .p, .p, .p, .p, .p, .p, .p, .p, .p, .p, .p, .p, .r 0 0, .p, .p, .p, .p, .p, .r 0 0,
 .p, .e, .p, .e])])) (.leaf [])) (.node 1 (.leaf []) (.leaf ([(3, [.p, .p, .p, .p, .p, .p, .p, .p, .p, .p, .p, .r 0 0, .p, .p, .p, .p, .p, .p, .r 0 0, .e, .p, .p]), (5, [.p, .p,
 .p, .p, .p, .p, .r 0 0, .p, .p, .p, .p, .p, .r 0 0, .e, .p, .p]), (6, [.p, .p, .p, .p, .p, .p, .p, .p, .p, .p, .p, .p, .p, .r 0 0, .p, .p, .p, .p, .p, .r 0 0, .p, .e, .p,
 .e])])))) (.node 2 (.node 1 (.leaf []) (.leaf [])) (.node 1 (.leaf []) (.leaf []))))) (.node 7 (.node 3 (.node 1 (.leaf ([(1, [.p, .p, .p, .r 0 0, .p, .p, .p, .r 0 0, .e])]))
 (.node 1 (.leaf []) (.leaf ([(1, [.p, .p, .p, .r 0 0, .p, .p, .p, .r 0 0, .e])])))) (.node 2 (.node 1 (.leaf ([(1, [.p, .p, .p, .p, .r 0 0, .p, .p, .p, .r 0 0, .e, .p])])) (.leaf
 ([(1, [.p, .p, .p, .p, .r 0 0, .p, .p, .p, .r 0 0, .e, .p])]))) (.node 1 (.leaf []) (.leaf [])))) (.node 4 (.node 2 (.node 1 (.leaf []) (.leaf [])) (.node 1 (.leaf []) (.leaf
 []))) (.node 2 (.node 1 (.leaf []) (.leaf [])) (.node 1 (.leaf []) (.leaf []))))))) (.node 30 (.node 15 (.node 7 (.node 3 (.node 1 (.leaf []) (.node 1 (.leaf []) (.leaf [])))
 (.node 2 (.node 1 (.leaf []) (.leaf [])) (.node 1 (.leaf []) (.leaf [])))) (.node 4 (.node 2 (.node 1 (.leaf []) (.leaf [])) (.node 1 (.leaf ([(6, [.p, .p, .r 0 0, .p, .p, .p, .r
 0 0, .r 0 0, .r 0 0, .p, .p, .p])])) (.leaf []))) (.node 2 (.node 1 (.leaf []) (.leaf [])) (.node 1 (.leaf []) (.leaf []))))) (.node 7 (.node 3 (.node 1 (.leaf ([(2, [.p, .p, .r 0
 0, .p, .p, .p, .r 0 0, .r 0 0, .p, .p])])) (.node 1 (.leaf ([(1, [.r 0 0, .p, .p, .p, .r 0 0, .r 0 0, .p, .p])])) (.leaf []))) (.node 2 (.node 1 (.leaf []) (.leaf [])) (.node 1
 (.leaf []) (.leaf ([(1, [.r 0 0, .p, .p, .p, .r 0 0, .r 0 0, .p, .p])]))))) (.node 4 (.node 2 (.node 1 (.leaf []) (.leaf [])) (.node 1 (.leaf []) (.leaf ([(3, [.p, .p, .p, .r 0 0,
 .p, .p, .r 0 0, .p, .p, .p, .p, .r 0 0, .p, .p, .p, .r 0 0, .e, .p, .p, .e, .p]), (4, [.r 0 0, .p, .p, .p, .r 0 0, .e, .p])])))) (.node 2 (.node 1 (.leaf ([(1, [.r 0 0, .p, .p, .r
 0 0, .p, .p, .r 0 0, .r 0 0, .p, .p, .r 0 0, .r 0 0, .p, .p, .r 0 0, .e, .p])])) (.leaf ([(6, [.p, .p, .p, .r 0 1, .p, .p, .r 0 0, .e, .p, .e])]))) (.node 1 (.leaf []) (.leaf
 [])))))) (.node 15 (.node 7 (.node 3 (.node 1 (.leaf []) (.node 1 (.leaf ([(6, [.p, .p, .p, .r 0 0, .p, .p, .p, .p, .r 0 0, .r 0 0]), (11, [.p, .p, .p, .r 0 0, .p, .p, .p, .p, .r
 0 0, .r 0 0])])) (.leaf ([(2, [.p, .p, .r 0 0, .r 0 0, .p, .p, .r 0 0, .e, .p, .p, .p])])))) (.node 2 (.node 1 (.leaf []) (.leaf [])) (.node 1 (.leaf []) (.leaf [])))) (.node 4
 (.node 2 (.node 1 (.leaf ([(6, [.r 0 0, .e, .p, .p, .p, .p, .p, .p, .p, .p, .p, .p, .r 1 1, .p, .r 1 1, .p, .p, .p])])) (.leaf [])) (.node 1 (.leaf []) (.leaf ([(7, [.p, .p, .p,
 .p, .p, .p, .p, .r 0 0, .r 0 0, .e, .p, .p])])))) (.node 2 (.node 1 (.leaf []) (.leaf [])) (.node 1 (.leaf []) (.leaf []))))) (.node 7 (.node 3 (.node 1 (.leaf []) (.node 1 (.leaf
 []) (.leaf []))) (.node 2 (.node 1 (.leaf []) (.leaf [])) (.node 1 (.leaf []) (.leaf [])))) (.node 4 (.node 2 (.node 1 (.leaf []) (.leaf [])) (.node 1 (.leaf []) (.leaf [])))
 (.node 2 (.node 1 (.leaf []) (.leaf [])) (.node 1 (.leaf []) (.leaf [])))))))))
theorem typesT_ok : typesT.ok = true := by kernel_rfl
theorem typesT_list : typesT.list = Tryz.prog.types.toList := by kernel_rfl
theorem funcsT_ok : funcsT.ok = true := by kernel_rfl
theorem funcsT_list : funcsT.list = Tryz.prog.funcs.toList := by kernel_rfl
noncomputable def tab : Tab := Tab.out (infoF typesT Tryz.prog) funcsT.get
theorem funcs_get (g : Nat) : funcsT.get g = Tryz.prog.funcs[g]? := by rw [BT.get_list funcsT_ok, funcsT_list]; simp
theorem tab_eq : tab = Tab.of Tryz.prog := Tab.out_eq (infoF_eq typesT_ok typesT_list) funcs_get
def findP (id : Nat) : List (Nat × List PK) → Option (List PK)
  | [] => none
  | p :: r => bif Nat.beq p.1 id then some p.2 else findP id r
noncomputable def plan (g id : Nat) : Option (List PK) :=
  match plansT.get g with
  | some l => findP id l
  | none => none
end Go.Ai
end
