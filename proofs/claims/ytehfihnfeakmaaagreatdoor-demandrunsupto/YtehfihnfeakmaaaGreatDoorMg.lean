/- A part of the proof: Tab, SwI, SwJ, SwK, X2, U1, U2, U6, U7, U8, U4, U9, V1. Names and spaces are cut short by program. -/
import Derived.Test.YtehfihnfeakmaaaGreatDoorMf
import Derived.Test.YtehfihnfeakmaaaGreatDoorChecked
import Derived.KernelRfl
import Derived.Sort.Grow
import Derived.Laws.IdiomRangeMap
import Derived.Test.YtehfihnfeakmaaaGreatDoorRows
import Derived.WalkKit
import Derived.ProofKit
import Derived.OpenShut
import Derived.JoinedCond
import Derived.Carry
import Derived.ChangeMaps5
import Derived.ChangeSame
set_option linter.unusedSimpArgs false
set_option linter.unusedVariables false
set_option maxRecDepth 10000
set_option maxHeartbeats 4000000
namespace Go.Proofs.YtehfihnfeakmaaaGreatDoor
open Go
def t2:TI:=⟨.int .i64,1,8,.int .i64 0⟩
def t3:TI:=⟨.int .i64,1,8,.int .i64 0⟩
def t4:TI:=⟨.bool,1,1,.bool false⟩
def t5:TI:=⟨.int .u8,1,1,.int .u8 0⟩
def t9:TI:=⟨.str,1,16,.str []⟩
def t20:TI:=⟨.jI,1,16,.jI true⟩
def t21:TI:=⟨.int .i32,1,4,.int .i32 0⟩
def t22:TI:=⟨.slice 76,1,24,.nil⟩
def t23:TI:=⟨.slice 54,1,24,.nil⟩
def t24:TI:=⟨.struct [(0,22),(1,23)] false,2,48,.agg [.nil,.nil]⟩
def t25:TI:=⟨.struct [(0,22),(1,23)] false,2,48,.agg [.nil,.nil]⟩
def t26:TI:=⟨.func,1,8,.aj⟩
def t27:TI:=⟨.func,1,8,.aj⟩
def t28:TI:=⟨.slice 50,1,24,.nil⟩
def t29:TI:=⟨.int .i64,1,8,.int .i64 0⟩
def t31:TI:=⟨.func,1,8,.aj⟩
def t33:TI:=⟨.func,1,8,.aj⟩
def t34:TI:=⟨.func,1,8,.aj⟩
def t35:TI:=⟨.func,1,8,.aj⟩
def t36:TI:=⟨.slice 9,1,24,.nil⟩
def t37:TI:=⟨.slice 40,1,24,.nil⟩
def t38:TI:=⟨.slice 60,1,24,.nil⟩
def t39:TI:=⟨.struct [(0,3),(1,9),(2,3),(3,3),(4,36),(5,37),(6,23),(7,38)] false,8,136,.agg [.int .i64 0,.str [],.int .i64 0,.int .i64 0,.nil,.nil,.nil,.nil]⟩
def t40:TI:=⟨.struct [(0,3),(1,9),(2,3),(3,3),(4,36),(5,37),(6,23),(7,38)] false,8,136,.agg [.int .i64 0,.str [],.int .i64 0,.int .i64 0,.list 1 [],.list 8 [],.list 9 [],.list 12 []]⟩
def t42:TI:=⟨.func,1,8,.aj⟩
def t43:TI:=⟨.func,1,8,.aj⟩
def t44:TI:=⟨.func,1,8,.aj⟩
def t45:TI:=⟨.func,1,8,.aj⟩
def t46:TI:=⟨.func,1,8,.aj⟩
def t47:TI:=⟨.func,1,8,.aj⟩
def t48:TI:=⟨.slice 3,1,24,.nil⟩
def t49:TI:=⟨.struct [(0,9),(1,3),(2,48)] false,3,48,.agg [.str [],.int .i64 0,.nil]⟩
def t50:TI:=⟨.struct [(0,9),(1,3),(2,48)] false,3,48,.agg [.str [],.int .i64 0,.list 1 []]⟩
def t51:TI:=⟨.func,1,8,.aj⟩
def t52:TI:=⟨.func,1,8,.aj⟩
def t53:TI:=⟨.struct [(0,9),(1,40)] false,9,152,.agg [.str [],.int .i64 0,.str [],.int .i64 0,.int .i64 0,.nil,.nil,.nil,.nil]⟩
def t54:TI:=⟨.struct [(0,9),(1,40)] false,9,152,.agg [.str [],.int .i64 0,.str [],.int .i64 0,.int .i64 0,.list 1 [],.list 8 [],.list 9 [],.list 12 []]⟩
def t55:TI:=⟨.func,1,8,.aj⟩
def t56:TI:=⟨.func,1,8,.aj⟩
def t57:TI:=⟨.func,1,8,.aj⟩
def t58:TI:=⟨.func,1,8,.aj⟩
def t59:TI:=⟨.struct [(0,3),(1,9),(2,3),(3,36),(4,40)] false,12,192,.agg [.int .i64 0,.str [],.int .i64 0,.nil,.int .i64 0,.str [],.int .i64 0,.int .i64 0,.nil,.nil,.nil,.nil]⟩
def t60:TI:=⟨.struct [(0,3),(1,9),(2,3),(3,36),(4,40)] false,12,192,.agg [.int .i64 0,.str [],.int .i64 0,.list 1 [],.int .i64 0,.str [],.int .i64 0,.int .i64 0,.list 1 [],.list 8 [],.list 9 [],.list 12 []]⟩
def t61:TI:=⟨.func,1,8,.aj⟩
def t62:TI:=⟨.map 9 40,1,8,.bu⟩
def t63:TI:=⟨.map 9 50,1,8,.bu⟩
def t64:TI:=⟨.map 9 50,1,8,.bu⟩
def t65:TI:=⟨.func,1,8,.aj⟩
def t66:TI:=⟨.slice 9,1,24,.nil⟩
def t67:TI:=⟨.func,1,8,.aj⟩
def t68:TI:=⟨.func,1,8,.aj⟩
def t69:TI:=⟨.func,1,8,.aj⟩
def t70:TI:=⟨.func,1,8,.aj⟩
def t71:TI:=⟨.ptr 73,1,8,.aX⟩
def t72:TI:=⟨.struct [(0,64),(1,3)] false,2,16,.agg [.bu,.int .i64 0]⟩
def t73:TI:=⟨.struct [(0,64),(1,3)] false,2,16,.agg [.bu,.int .i64 0]⟩
def t74:TI:=⟨.func,1,8,.aj⟩
def t75:TI:=⟨.struct [(0,9),(1,3),(2,3),(3,3)] true,4,40,.agg [.str [],.int .i64 0,.int .i64 0,.int .i64 0]⟩
def t76:TI:=⟨.struct [(0,9),(1,3),(2,3),(3,3)] true,4,40,.agg [.str [],.int .i64 0,.int .i64 0,.int .i64 0]⟩
def t77:TI:=⟨.func,1,8,.aj⟩
def t78:TI:=⟨.ptr 80,1,8,.aX⟩
def t79:TI:=⟨.struct [(0,3),(1,28)] false,2,32,.agg [.int .i64 0,.nil]⟩
def t80:TI:=⟨.struct [(0,3),(1,28)] false,2,32,.agg [.int .i64 0,.nil]⟩
def t81:TI:=⟨.func,1,8,.aj⟩
def t82:TI:=⟨.func,1,8,.aj⟩
def t83:TI:=⟨.map 9 4,1,8,.bu⟩
def t84:TI:=⟨.func,1,8,.aj⟩
def t85:TI:=⟨.map 9 3,1,8,.bu⟩
def t86:TI:=⟨.func,1,8,.aj⟩
def t87:TI:=⟨.func,1,8,.aj⟩
def t88:TI:=⟨.func,1,8,.aj⟩
def t89:TI:=⟨.func,1,8,.aj⟩
def t90:TI:=⟨.func,1,8,.aj⟩
def t91:TI:=⟨.func,1,8,.aj⟩
def t92:TI:=⟨.func,1,8,.aj⟩
def t93:TI:=⟨.func,1,8,.aj⟩
def t94:TI:=⟨.func,1,8,.aj⟩
def t95:TI:=⟨.ptr 98,1,8,.aX⟩
def t96:TI:=⟨.map 9 76,1,8,.bu⟩
def t97:TI:=⟨.struct [(0,96)] false,1,8,.agg [.bu]⟩
def t98:TI:=⟨.struct [(0,96)] false,1,8,.agg [.bu]⟩
def t99:TI:=⟨.func,1,8,.aj⟩
def t100:TI:=⟨.func,1,8,.aj⟩
def t101:TI:=⟨.array 4 76,16,160,.agg [.str [],.int .i64 0,.int .i64 0,.int .i64 0,.str [],.int .i64 0,.int .i64 0,.int .i64 0,.str [],.int .i64 0,.int .i64 0,.int .i64 0,.str [],.int .i64 0,.int .i64 0,.int .i64 0]⟩
def t102:TI:=⟨.func,1,8,.aj⟩
def t103:TI:=⟨.func,1,8,.aj⟩
def t104:TI:=⟨.func,1,8,.aj⟩
def t106:TI:=⟨.func,1,8,.aj⟩
def t107:TI:=⟨.func,1,8,.aj⟩
def t108:TI:=⟨.func,1,8,.aj⟩
def t109:TI:=⟨.func,1,8,.aj⟩
def t110:TI:=⟨.func,1,8,.aj⟩
def t111:TI:=⟨.func,1,8,.aj⟩
def t112:TI:=⟨.func,1,8,.aj⟩
def t114:TI:=⟨.func,1,8,.aj⟩
def t115:TI:=⟨.jI,1,16,.jI true⟩
def t116:TI:=⟨.jI,1,16,.jI true⟩
def t118:TI:=⟨.func,1,8,.aj⟩
def t119:TI:=⟨.func,1,8,.aj⟩
def t120:TI:=⟨.func,1,8,.aj⟩
def t121:TI:=⟨.func,1,8,.aj⟩
def t122:TI:=⟨.func,1,8,.aj⟩
def t123:TI:=⟨.func,1,8,.aj⟩
def t124:TI:=⟨.func,1,8,.aj⟩
def t125:TI:=⟨.func,1,8,.aj⟩
def t126:TI:=⟨.func,1,8,.aj⟩
def t127:TI:=⟨.func,1,8,.aj⟩
def t128:TI:=⟨.func,1,8,.aj⟩
def t129:TI:=⟨.func,1,8,.aj⟩
def t130:TI:=⟨.func,1,8,.aj⟩
def t131:TI:=⟨.func,1,8,.aj⟩
def t132:TI:=⟨.func,1,8,.aj⟩
def t133:TI:=⟨.func,1,8,.aj⟩
def t134:TI:=⟨.func,1,8,.aj⟩
def t135:TI:=⟨.int .u64,1,8,.int .u64 0⟩
def t136:TI:=⟨.func,1,8,.aj⟩
def t137:TI:=⟨.func,1,8,.aj⟩
def t138:TI:=⟨.func,1,8,.aj⟩
def t140:TI:=⟨.func,1,8,.aj⟩
def t141:TI:=⟨.map 3 4,1,8,.bu⟩
def t142:TI:=⟨.func,1,8,.aj⟩
def t143:TI:=⟨.func,1,8,.aj⟩
def t144:TI:=⟨.func,1,8,.aj⟩
def t146:TI:=⟨.func,1,8,.aj⟩
def t147:TI:=⟨.func,1,8,.aj⟩
def t148:TI:=⟨.func,1,8,.aj⟩
def t149:TI:=⟨.func,1,8,.aj⟩
def t150:TI:=⟨.func,1,8,.aj⟩
def t151:TI:=⟨.func,1,8,.aj⟩
def t152:TI:=⟨.func,1,8,.aj⟩
def t153:TI:=⟨.func,1,8,.aj⟩
def t154:TI:=⟨.func,1,8,.aj⟩
def t155:TI:=⟨.int .i64,1,8,.int .i64 0⟩
def t157:TI:=⟨.func,1,8,.aj⟩
def t158:TI:=⟨.func,1,8,.aj⟩
def t159:TI:=⟨.func,1,8,.aj⟩
def t160:TI:=⟨.func,1,8,.aj⟩
def t161:TI:=⟨.func,1,8,.aj⟩
def t162:TI:=⟨.func,1,8,.aj⟩
def t163:TI:=⟨.int .u32,1,4,.int .u32 0⟩
def t164:TI:=⟨.func,1,8,.aj⟩
def t165:TI:=⟨.int .u64,1,8,.int .u64 0⟩
def t166:TI:=⟨.func,1,8,.aj⟩
def t167:TI:=⟨.func,1,8,.aj⟩
def t168:TI:=⟨.func,1,8,.aj⟩
def t169:TI:=⟨.func,1,8,.aj⟩
def t170:TI:=⟨.int .i64,1,8,.int .i64 0⟩
def t171:TI:=⟨.slice 5,1,24,.nil⟩
def t173:TI:=⟨.func,1,8,.aj⟩
def t174:TI:=⟨.ptr 190,1,8,.aX⟩
def t175:TI:=⟨.func,1,8,.aj⟩
def t176:TI:=⟨.func,1,8,.aj⟩
def t177:TI:=⟨.func,1,8,.aj⟩
def t178:TI:=⟨.func,1,8,.aj⟩
def t179:TI:=⟨.int .u64,1,8,.int .u64 0⟩
def t180:TI:=⟨.func,1,8,.aj⟩
def t181:TI:=⟨.func,1,8,.aj⟩
def t182:TI:=⟨.func,1,8,.aj⟩
def t183:TI:=⟨.ptr 3,1,8,.aX⟩
def t184:TI:=⟨.func,1,8,.aj⟩
def t185:TI:=⟨.func,1,8,.aj⟩
def t187:TI:=⟨.func,1,8,.aj⟩
def t188:TI:=⟨.func,1,8,.aj⟩
def t189:TI:=⟨.struct [(0,9),(1,9),(2,116)] false,3,48,.agg [.str [],.str [],.jI true]⟩
def t190:TI:=⟨.struct [(0,9),(1,9),(2,116)] false,3,48,.agg [.str [],.str [],.jI true]⟩
def t191:TI:=⟨.func,1,8,.aj⟩
def t192:TI:=⟨.array 24 5,24,24,.agg [.int .u8 0,.int .u8 0,.int .u8 0,.int .u8 0,.int .u8 0,.int .u8 0,.int .u8 0,.int .u8 0,.int .u8 0,.int .u8 0,.int .u8 0,.int .u8 0,.int .u8 0,.int .u8 0,.int .u8 0,.int .u8 0,.int .u8 0,.int .u8 0,.int .u8 0,.int .u8 0,.int .u8 0,.int .u8 0,.int .u8 0,.int .u8 0]⟩
def t193:TI:=⟨.func,1,8,.aj⟩
def t195:TI:=⟨.func,1,8,.aj⟩
def t196:TI:=⟨.ptr 179,1,8,.aX⟩
def t197:TI:=⟨.func,1,8,.aj⟩
def t198:TI:=⟨.func,1,8,.aj⟩
def t199:TI:=⟨.ptr 5,1,8,.aX⟩
def t200:TI:=⟨.ptr 202,1,8,.aX⟩
def t201:TI:=⟨.struct [(0,9)] true,1,16,.agg [.str []]⟩
def t202:TI:=⟨.struct [(0,9)] true,1,16,.agg [.str []]⟩
def t203:TI:=⟨.func,1,8,.aj⟩
def t204:TI:=⟨.array 20 165,20,160,.agg [.int .u64 0,.int .u64 0,.int .u64 0,.int .u64 0,.int .u64 0,.int .u64 0,.int .u64 0,.int .u64 0,.int .u64 0,.int .u64 0,.int .u64 0,.int .u64 0,.int .u64 0,.int .u64 0,.int .u64 0,.int .u64 0,.int .u64 0,.int .u64 0,.int .u64 0,.int .u64 0]⟩
def t205:TI:=⟨.array 65 5,65,65,.agg [.int .u8 0,.int .u8 0,.int .u8 0,.int .u8 0,.int .u8 0,.int .u8 0,.int .u8 0,.int .u8 0,.int .u8 0,.int .u8 0,.int .u8 0,.int .u8 0,.int .u8 0,.int .u8 0,.int .u8 0,.int .u8 0,.int .u8 0,.int .u8 0,.int .u8 0,.int .u8 0,.int .u8 0,.int .u8 0,.int .u8 0,.int .u8 0,.int .u8 0,.int .u8 0,.int .u8 0,.int .u8 0,.int .u8 0,.int .u8 0,.int .u8 0,.int .u8 0,.int .u8 0,.int .u8 0,.int .u8 0,.int .u8 0,.int .u8 0,.int .u8 0,.int .u8 0,.int .u8 0,.int .u8 0,.int .u8 0,.int .u8 0,.int .u8 0,.int .u8 0,.int .u8 0,.int .u8 0,.int .u8 0,.int .u8 0,.int .u8 0,.int .u8 0,.int .u8 0,.int .u8 0,.int .u8 0,.int .u8 0,.int .u8 0,.int .u8 0,.int .u8 0,.int .u8 0,.int .u8 0,.int .u8 0,.int .u8 0,.int .u8 0,.int .u8 0,.int .u8 0]⟩
def t206:TI:=⟨.array 32 5,32,32,.agg [.int .u8 0,.int .u8 0,.int .u8 0,.int .u8 0,.int .u8 0,.int .u8 0,.int .u8 0,.int .u8 0,.int .u8 0,.int .u8 0,.int .u8 0,.int .u8 0,.int .u8 0,.int .u8 0,.int .u8 0,.int .u8 0,.int .u8 0,.int .u8 0,.int .u8 0,.int .u8 0,.int .u8 0,.int .u8 0,.int .u8 0,.int .u8 0,.int .u8 0,.int .u8 0,.int .u8 0,.int .u8 0,.int .u8 0,.int .u8 0,.int .u8 0,.int .u8 0]⟩
def t207:TI:=⟨.array 64 5,64,64,.agg [.int .u8 0,.int .u8 0,.int .u8 0,.int .u8 0,.int .u8 0,.int .u8 0,.int .u8 0,.int .u8 0,.int .u8 0,.int .u8 0,.int .u8 0,.int .u8 0,.int .u8 0,.int .u8 0,.int .u8 0,.int .u8 0,.int .u8 0,.int .u8 0,.int .u8 0,.int .u8 0,.int .u8 0,.int .u8 0,.int .u8 0,.int .u8 0,.int .u8 0,.int .u8 0,.int .u8 0,.int .u8 0,.int .u8 0,.int .u8 0,.int .u8 0,.int .u8 0,.int .u8 0,.int .u8 0,.int .u8 0,.int .u8 0,.int .u8 0,.int .u8 0,.int .u8 0,.int .u8 0,.int .u8 0,.int .u8 0,.int .u8 0,.int .u8 0,.int .u8 0,.int .u8 0,.int .u8 0,.int .u8 0,.int .u8 0,.int .u8 0,.int .u8 0,.int .u8 0,.int .u8 0,.int .u8 0,.int .u8 0,.int .u8 0,.int .u8 0,.int .u8 0,.int .u8 0,.int .u8 0,.int .u8 0,.int .u8 0,.int .u8 0,.int .u8 0]⟩
def t208:TI:=⟨.func,1,8,.aj⟩
def t209:TI:=⟨.struct [(0,17),(1,17),(2,17),(3,9)] false,4,40,.agg [.aX,.aX,.aX,.str []]⟩
def t210:TI:=⟨.struct [(0,17),(1,17),(2,17),(3,9)] false,4,40,.agg [.aX,.aX,.aX,.str []]⟩
def t211:TI:=⟨.array 0 16,0,0,.agg []⟩
def t212:TI:=⟨.struct [(0,211)] false,0,0,.agg []⟩
def t213:TI:=⟨.struct [(0,211)] false,0,0,.agg []⟩
def t214:TI:=⟨.func,1,8,.aj⟩
def t215:TI:=⟨.int .u8,1,1,.int .u8 0⟩
def t216:TI:=⟨.int .u8,1,1,.int .u8 0⟩
def t217:TI:=⟨.func,1,8,.aj⟩
def t218:TI:=⟨.int .i32,1,4,.int .i32 0⟩
def t219:TI:=⟨.int .i32,1,4,.int .i32 0⟩
def t220:TI:=⟨.struct [(0,12),(1,12),(2,163),(3,215),(4,5),(5,5),(6,216),(7,217),(8,199),(9,218),(10,219)] false,11,48,.agg [.int .u64 0,.int .u64 0,.int .u32 0,.int .u8 0,.int .u8 0,.int .u8 0,.int .u8 0,.aj,.aX,.int .i32 0,.int .i32 0]⟩
def t221:TI:=⟨.struct [(0,12),(1,12),(2,163),(3,215),(4,5),(5,5),(6,216),(7,217),(8,199),(9,218),(10,219)] false,11,48,.agg [.int .u64 0,.int .u64 0,.int .u32 0,.int .u8 0,.int .u8 0,.int .u8 0,.int .u8 0,.aj,.aX,.int .i32 0,.int .i32 0]⟩
def TB:aT:=[(2,t2),(3,t3),(4,t4),(5,t5),(9,t9),(20,t20),(21,t21),(22,t22),(23,t23),(24,t24),(25,t25),(26,t26),(27,t27),(28,t28),(29,t29),(31,t31),(33,t33),(34,t34),(35,t35),(36,t36),(37,t37),(38,t38),(39,t39),(40,t40),(42,t42),(43,t43),(44,t44),(45,t45),(46,t46),(47,t47),(48,t48),(49,t49),(50,t50),(51,t51),(52,t52),(53,t53),(54,t54),(55,t55),(56,t56),(57,t57),(58,t58),(59,t59),(60,t60),(61,t61),(62,t62),(63,t63),(64,t64),(65,t65),(66,t66),(67,t67),(68,t68),(69,t69),(70,t70),(71,t71),(72,t72),(73,t73),(74,t74),(75,t75),(76,t76),(77,t77),(78,t78),(79,t79),(80,t80),(81,t81),(82,t82),(83,t83),(84,t84),(85,t85),(86,t86),(87,t87),(88,t88),(89,t89),(90,t90),(91,t91),(92,t92),(93,t93),(94,t94),(95,t95),(96,t96),(97,t97),(98,t98),(99,t99),(100,t100),(101,t101),(102,t102),(103,t103),(104,t104),(106,t106),(107,t107),(108,t108),(109,t109),(110,t110),(111,t111),(112,t112),(114,t114),(115,t115),(116,t116),(118,t118),(119,t119),(120,t120),(121,t121),(122,t122),(123,t123),(124,t124),(125,t125),(126,t126),(127,t127),(128,t128),(129,t129),(130,t130),(131,t131),(132,t132),(133,t133),(134,t134),(135,t135),(136,t136),(137,t137),(138,t138),(140,t140),(141,t141),(142,t142),(143,t143),(144,t144),(146,t146),(147,t147),(148,t148),(149,t149),(150,t150),(151,t151),(152,t152),(153,t153),(154,t154),(155,t155),(157,t157),(158,t158),(159,t159),(160,t160),(161,t161),(162,t162),(163,t163),(164,t164),(165,t165),(166,t166),(167,t167),(168,t168),(169,t169),(170,t170),(171,t171),(173,t173),(174,t174),(175,t175),(176,t176),(177,t177),(178,t178),(179,t179),(180,t180),(181,t181),(182,t182),(183,t183),(184,t184),(185,t185),(187,t187),(188,t188),(189,t189),(190,t190),(191,t191),(192,t192),(193,t193),(195,t195),(196,t196),(197,t197),(198,t198),(199,t199),(200,t200),(201,t201),(202,t202),(203,t203),(204,t204),(205,t205),(206,t206),(207,t207),(208,t208),(209,t209),(210,t210),(211,t211),(212,t212),(213,t213),(214,t214),(215,t215),(216,t216),(217,t217),(218,t218),(219,t219),(220,t220),(221,t221)]
set_option maxRecDepth 10000 in
theorem Ns:aT.get TB 2=some ⟨.int .i64,1,8,.int .i64 0⟩∧
 aT.get TB 3=some ⟨.int .i64,1,8,.int .i64 0⟩∧
 aT.get TB 4=some ⟨.bool,1,1,.bool false⟩∧
 aT.get TB 5=some ⟨.int .u8,1,1,.int .u8 0⟩∧
 aT.get TB 9=some ⟨.str,1,16,.str []⟩∧
 aT.get TB 20=some ⟨.jI,1,16,.jI true⟩∧
 aT.get TB 21=some ⟨.int .i32,1,4,.int .i32 0⟩∧
 aT.get TB 22=some ⟨.slice 76,1,24,.nil⟩∧
 aT.get TB 23=some ⟨.slice 54,1,24,.nil⟩∧
 aT.get TB 24=some ⟨.struct [(0,22),(1,23)] false,2,48,.agg [.nil,.nil]⟩∧
 aT.get TB 25=some ⟨.struct [(0,22),(1,23)] false,2,48,.agg [.nil,.nil]⟩∧
 aT.get TB 26=some ⟨.func,1,8,.aj⟩∧
 aT.get TB 27=some ⟨.func,1,8,.aj⟩∧
 aT.get TB 28=some ⟨.slice 50,1,24,.nil⟩∧
 aT.get TB 29=some ⟨.int .i64,1,8,.int .i64 0⟩∧
 aT.get TB 31=some ⟨.func,1,8,.aj⟩∧
 aT.get TB 33=some ⟨.func,1,8,.aj⟩∧
 aT.get TB 34=some ⟨.func,1,8,.aj⟩∧
 aT.get TB 35=some ⟨.func,1,8,.aj⟩∧
 aT.get TB 36=some ⟨.slice 9,1,24,.nil⟩∧
 aT.get TB 37=some ⟨.slice 40,1,24,.nil⟩∧
 aT.get TB 38=some ⟨.slice 60,1,24,.nil⟩∧
 aT.get TB 39=some ⟨.struct [(0,3),(1,9),(2,3),(3,3),(4,36),(5,37),(6,23),(7,38)] false,8,136,.agg [.int .i64 0,.str [],.int .i64 0,.int .i64 0,.nil,.nil,.nil,.nil]⟩∧
 aT.get TB 40=some ⟨.struct [(0,3),(1,9),(2,3),(3,3),(4,36),(5,37),(6,23),(7,38)] false,8,136,.agg [.int .i64 0,.str [],.int .i64 0,.int .i64 0,.list 1 [],.list 8 [],.list 9 [],.list 12 []]⟩∧
 aT.get TB 42=some ⟨.func,1,8,.aj⟩∧
 aT.get TB 43=some ⟨.func,1,8,.aj⟩∧
 aT.get TB 44=some ⟨.func,1,8,.aj⟩∧
 aT.get TB 45=some ⟨.func,1,8,.aj⟩∧
 aT.get TB 46=some ⟨.func,1,8,.aj⟩∧
 aT.get TB 47=some ⟨.func,1,8,.aj⟩∧
 aT.get TB 48=some ⟨.slice 3,1,24,.nil⟩∧
 aT.get TB 49=some ⟨.struct [(0,9),(1,3),(2,48)] false,3,48,.agg [.str [],.int .i64 0,.nil]⟩∧
 aT.get TB 50=some ⟨.struct [(0,9),(1,3),(2,48)] false,3,48,.agg [.str [],.int .i64 0,.list 1 []]⟩∧
 aT.get TB 51=some ⟨.func,1,8,.aj⟩∧
 aT.get TB 52=some ⟨.func,1,8,.aj⟩∧
 aT.get TB 53=some ⟨.struct [(0,9),(1,40)] false,9,152,.agg [.str [],.int .i64 0,.str [],.int .i64 0,.int .i64 0,.nil,.nil,.nil,.nil]⟩∧
 aT.get TB 54=some ⟨.struct [(0,9),(1,40)] false,9,152,.agg [.str [],.int .i64 0,.str [],.int .i64 0,.int .i64 0,.list 1 [],.list 8 [],.list 9 [],.list 12 []]⟩∧
 aT.get TB 55=some ⟨.func,1,8,.aj⟩∧
 aT.get TB 56=some ⟨.func,1,8,.aj⟩∧
 aT.get TB 57=some ⟨.func,1,8,.aj⟩∧
 aT.get TB 58=some ⟨.func,1,8,.aj⟩∧
 aT.get TB 59=some ⟨.struct [(0,3),(1,9),(2,3),(3,36),(4,40)] false,12,192,.agg [.int .i64 0,.str [],.int .i64 0,.nil,.int .i64 0,.str [],.int .i64 0,.int .i64 0,.nil,.nil,.nil,.nil]⟩∧
 aT.get TB 60=some ⟨.struct [(0,3),(1,9),(2,3),(3,36),(4,40)] false,12,192,.agg [.int .i64 0,.str [],.int .i64 0,.list 1 [],.int .i64 0,.str [],.int .i64 0,.int .i64 0,.list 1 [],.list 8 [],.list 9 [],.list 12 []]⟩∧
 aT.get TB 61=some ⟨.func,1,8,.aj⟩∧
 aT.get TB 62=some ⟨.map 9 40,1,8,.bu⟩∧
 aT.get TB 63=some ⟨.map 9 50,1,8,.bu⟩∧
 aT.get TB 64=some ⟨.map 9 50,1,8,.bu⟩∧
 aT.get TB 65=some ⟨.func,1,8,.aj⟩∧
 aT.get TB 66=some ⟨.slice 9,1,24,.nil⟩∧
 aT.get TB 67=some ⟨.func,1,8,.aj⟩∧
 aT.get TB 68=some ⟨.func,1,8,.aj⟩∧
 aT.get TB 69=some ⟨.func,1,8,.aj⟩∧
 aT.get TB 70=some ⟨.func,1,8,.aj⟩∧
 aT.get TB 71=some ⟨.ptr 73,1,8,.aX⟩∧
 aT.get TB 72=some ⟨.struct [(0,64),(1,3)] false,2,16,.agg [.bu,.int .i64 0]⟩∧
 aT.get TB 73=some ⟨.struct [(0,64),(1,3)] false,2,16,.agg [.bu,.int .i64 0]⟩∧
 aT.get TB 74=some ⟨.func,1,8,.aj⟩∧
 aT.get TB 75=some ⟨.struct [(0,9),(1,3),(2,3),(3,3)] true,4,40,.agg [.str [],.int .i64 0,.int .i64 0,.int .i64 0]⟩∧
 aT.get TB 76=some ⟨.struct [(0,9),(1,3),(2,3),(3,3)] true,4,40,.agg [.str [],.int .i64 0,.int .i64 0,.int .i64 0]⟩∧
 aT.get TB 77=some ⟨.func,1,8,.aj⟩∧
 aT.get TB 78=some ⟨.ptr 80,1,8,.aX⟩∧
 aT.get TB 79=some ⟨.struct [(0,3),(1,28)] false,2,32,.agg [.int .i64 0,.nil]⟩∧
 aT.get TB 80=some ⟨.struct [(0,3),(1,28)] false,2,32,.agg [.int .i64 0,.nil]⟩∧
 aT.get TB 81=some ⟨.func,1,8,.aj⟩∧
 aT.get TB 82=some ⟨.func,1,8,.aj⟩∧
 aT.get TB 83=some ⟨.map 9 4,1,8,.bu⟩∧
 aT.get TB 84=some ⟨.func,1,8,.aj⟩∧
 aT.get TB 85=some ⟨.map 9 3,1,8,.bu⟩∧
 aT.get TB 86=some ⟨.func,1,8,.aj⟩∧
 aT.get TB 87=some ⟨.func,1,8,.aj⟩∧
 aT.get TB 88=some ⟨.func,1,8,.aj⟩∧
 aT.get TB 89=some ⟨.func,1,8,.aj⟩∧
 aT.get TB 90=some ⟨.func,1,8,.aj⟩∧
 aT.get TB 91=some ⟨.func,1,8,.aj⟩∧
 aT.get TB 92=some ⟨.func,1,8,.aj⟩∧
 aT.get TB 93=some ⟨.func,1,8,.aj⟩∧
 aT.get TB 94=some ⟨.func,1,8,.aj⟩∧
 aT.get TB 95=some ⟨.ptr 98,1,8,.aX⟩∧
 aT.get TB 96=some ⟨.map 9 76,1,8,.bu⟩∧
 aT.get TB 97=some ⟨.struct [(0,96)] false,1,8,.agg [.bu]⟩∧
 aT.get TB 98=some ⟨.struct [(0,96)] false,1,8,.agg [.bu]⟩∧
 aT.get TB 99=some ⟨.func,1,8,.aj⟩∧
 aT.get TB 100=some ⟨.func,1,8,.aj⟩∧
 aT.get TB 101=some ⟨.array 4 76,16,160,.agg [.str [],.int .i64 0,.int .i64 0,.int .i64 0,.str [],.int .i64 0,.int .i64 0,.int .i64 0,.str [],.int .i64 0,.int .i64 0,.int .i64 0,.str [],.int .i64 0,.int .i64 0,.int .i64 0]⟩∧
 aT.get TB 102=some ⟨.func,1,8,.aj⟩∧
 aT.get TB 103=some ⟨.func,1,8,.aj⟩∧
 aT.get TB 104=some ⟨.func,1,8,.aj⟩∧
 aT.get TB 106=some ⟨.func,1,8,.aj⟩∧
 aT.get TB 107=some ⟨.func,1,8,.aj⟩∧
 aT.get TB 108=some ⟨.func,1,8,.aj⟩∧
 aT.get TB 109=some ⟨.func,1,8,.aj⟩∧
 aT.get TB 110=some ⟨.func,1,8,.aj⟩∧
 aT.get TB 111=some ⟨.func,1,8,.aj⟩∧
 aT.get TB 112=some ⟨.func,1,8,.aj⟩∧
 aT.get TB 114=some ⟨.func,1,8,.aj⟩∧
 aT.get TB 115=some ⟨.jI,1,16,.jI true⟩∧
 aT.get TB 116=some ⟨.jI,1,16,.jI true⟩∧
 aT.get TB 118=some ⟨.func,1,8,.aj⟩∧
 aT.get TB 119=some ⟨.func,1,8,.aj⟩∧
 aT.get TB 120=some ⟨.func,1,8,.aj⟩∧
 aT.get TB 121=some ⟨.func,1,8,.aj⟩∧
 aT.get TB 122=some ⟨.func,1,8,.aj⟩∧
 aT.get TB 123=some ⟨.func,1,8,.aj⟩∧
 aT.get TB 124=some ⟨.func,1,8,.aj⟩∧
 aT.get TB 125=some ⟨.func,1,8,.aj⟩∧
 aT.get TB 126=some ⟨.func,1,8,.aj⟩∧
 aT.get TB 127=some ⟨.func,1,8,.aj⟩∧
 aT.get TB 128=some ⟨.func,1,8,.aj⟩∧
 aT.get TB 129=some ⟨.func,1,8,.aj⟩∧
 aT.get TB 130=some ⟨.func,1,8,.aj⟩∧
 aT.get TB 131=some ⟨.func,1,8,.aj⟩∧
 aT.get TB 132=some ⟨.func,1,8,.aj⟩∧
 aT.get TB 133=some ⟨.func,1,8,.aj⟩∧
 aT.get TB 134=some ⟨.func,1,8,.aj⟩∧
 aT.get TB 135=some ⟨.int .u64,1,8,.int .u64 0⟩∧
 aT.get TB 136=some ⟨.func,1,8,.aj⟩∧
 aT.get TB 137=some ⟨.func,1,8,.aj⟩∧
 aT.get TB 138=some ⟨.func,1,8,.aj⟩∧
 aT.get TB 140=some ⟨.func,1,8,.aj⟩∧
 aT.get TB 141=some ⟨.map 3 4,1,8,.bu⟩∧
 aT.get TB 142=some ⟨.func,1,8,.aj⟩∧
 aT.get TB 143=some ⟨.func,1,8,.aj⟩∧
 aT.get TB 144=some ⟨.func,1,8,.aj⟩∧
 aT.get TB 146=some ⟨.func,1,8,.aj⟩∧
 aT.get TB 147=some ⟨.func,1,8,.aj⟩∧
 aT.get TB 148=some ⟨.func,1,8,.aj⟩∧
 aT.get TB 149=some ⟨.func,1,8,.aj⟩∧
 aT.get TB 150=some ⟨.func,1,8,.aj⟩∧
 aT.get TB 151=some ⟨.func,1,8,.aj⟩∧
 aT.get TB 152=some ⟨.func,1,8,.aj⟩∧
 aT.get TB 153=some ⟨.func,1,8,.aj⟩∧
 aT.get TB 154=some ⟨.func,1,8,.aj⟩∧
 aT.get TB 155=some ⟨.int .i64,1,8,.int .i64 0⟩∧
 aT.get TB 157=some ⟨.func,1,8,.aj⟩∧
 aT.get TB 158=some ⟨.func,1,8,.aj⟩∧
 aT.get TB 159=some ⟨.func,1,8,.aj⟩∧
 aT.get TB 160=some ⟨.func,1,8,.aj⟩∧
 aT.get TB 161=some ⟨.func,1,8,.aj⟩∧
 aT.get TB 162=some ⟨.func,1,8,.aj⟩∧
 aT.get TB 163=some ⟨.int .u32,1,4,.int .u32 0⟩∧
 aT.get TB 164=some ⟨.func,1,8,.aj⟩∧
 aT.get TB 165=some ⟨.int .u64,1,8,.int .u64 0⟩∧
 aT.get TB 166=some ⟨.func,1,8,.aj⟩∧
 aT.get TB 167=some ⟨.func,1,8,.aj⟩∧
 aT.get TB 168=some ⟨.func,1,8,.aj⟩∧
 aT.get TB 169=some ⟨.func,1,8,.aj⟩∧
 aT.get TB 170=some ⟨.int .i64,1,8,.int .i64 0⟩∧
 aT.get TB 171=some ⟨.slice 5,1,24,.nil⟩∧
 aT.get TB 173=some ⟨.func,1,8,.aj⟩∧
 aT.get TB 174=some ⟨.ptr 190,1,8,.aX⟩∧
 aT.get TB 175=some ⟨.func,1,8,.aj⟩∧
 aT.get TB 176=some ⟨.func,1,8,.aj⟩∧
 aT.get TB 177=some ⟨.func,1,8,.aj⟩∧
 aT.get TB 178=some ⟨.func,1,8,.aj⟩∧
 aT.get TB 179=some ⟨.int .u64,1,8,.int .u64 0⟩∧
 aT.get TB 180=some ⟨.func,1,8,.aj⟩∧
 aT.get TB 181=some ⟨.func,1,8,.aj⟩∧
 aT.get TB 182=some ⟨.func,1,8,.aj⟩∧
 aT.get TB 183=some ⟨.ptr 3,1,8,.aX⟩∧
 aT.get TB 184=some ⟨.func,1,8,.aj⟩∧
 aT.get TB 185=some ⟨.func,1,8,.aj⟩∧
 aT.get TB 187=some ⟨.func,1,8,.aj⟩∧
 aT.get TB 188=some ⟨.func,1,8,.aj⟩∧
 aT.get TB 189=some ⟨.struct [(0,9),(1,9),(2,116)] false,3,48,.agg [.str [],.str [],.jI true]⟩∧
 aT.get TB 190=some ⟨.struct [(0,9),(1,9),(2,116)] false,3,48,.agg [.str [],.str [],.jI true]⟩∧
 aT.get TB 191=some ⟨.func,1,8,.aj⟩∧
 aT.get TB 192=some ⟨.array 24 5,24,24,.agg [.int .u8 0,.int .u8 0,.int .u8 0,.int .u8 0,.int .u8 0,.int .u8 0,.int .u8 0,.int .u8 0,.int .u8 0,.int .u8 0,.int .u8 0,.int .u8 0,.int .u8 0,.int .u8 0,.int .u8 0,.int .u8 0,.int .u8 0,.int .u8 0,.int .u8 0,.int .u8 0,.int .u8 0,.int .u8 0,.int .u8 0,.int .u8 0]⟩∧
 aT.get TB 193=some ⟨.func,1,8,.aj⟩∧
 aT.get TB 195=some ⟨.func,1,8,.aj⟩∧
 aT.get TB 196=some ⟨.ptr 179,1,8,.aX⟩∧
 aT.get TB 197=some ⟨.func,1,8,.aj⟩∧
 aT.get TB 198=some ⟨.func,1,8,.aj⟩∧
 aT.get TB 199=some ⟨.ptr 5,1,8,.aX⟩∧
 aT.get TB 200=some ⟨.ptr 202,1,8,.aX⟩∧
 aT.get TB 201=some ⟨.struct [(0,9)] true,1,16,.agg [.str []]⟩∧
 aT.get TB 202=some ⟨.struct [(0,9)] true,1,16,.agg [.str []]⟩∧
 aT.get TB 203=some ⟨.func,1,8,.aj⟩∧
 aT.get TB 204=some ⟨.array 20 165,20,160,.agg [.int .u64 0,.int .u64 0,.int .u64 0,.int .u64 0,.int .u64 0,.int .u64 0,.int .u64 0,.int .u64 0,.int .u64 0,.int .u64 0,.int .u64 0,.int .u64 0,.int .u64 0,.int .u64 0,.int .u64 0,.int .u64 0,.int .u64 0,.int .u64 0,.int .u64 0,.int .u64 0]⟩∧
 aT.get TB 205=some ⟨.array 65 5,65,65,.agg [.int .u8 0,.int .u8 0,.int .u8 0,.int .u8 0,.int .u8 0,.int .u8 0,.int .u8 0,.int .u8 0,.int .u8 0,.int .u8 0,.int .u8 0,.int .u8 0,.int .u8 0,.int .u8 0,.int .u8 0,.int .u8 0,.int .u8 0,.int .u8 0,.int .u8 0,.int .u8 0,.int .u8 0,.int .u8 0,.int .u8 0,.int .u8 0,.int .u8 0,.int .u8 0,.int .u8 0,.int .u8 0,.int .u8 0,.int .u8 0,.int .u8 0,.int .u8 0,.int .u8 0,.int .u8 0,.int .u8 0,.int .u8 0,.int .u8 0,.int .u8 0,.int .u8 0,.int .u8 0,.int .u8 0,.int .u8 0,.int .u8 0,.int .u8 0,.int .u8 0,.int .u8 0,.int .u8 0,.int .u8 0,.int .u8 0,.int .u8 0,.int .u8 0,.int .u8 0,.int .u8 0,.int .u8 0,.int .u8 0,.int .u8 0,.int .u8 0,.int .u8 0,.int .u8 0,.int .u8 0,.int .u8 0,.int .u8 0,.int .u8 0,.int .u8 0,.int .u8 0]⟩∧
 aT.get TB 206=some ⟨.array 32 5,32,32,.agg [.int .u8 0,.int .u8 0,.int .u8 0,.int .u8 0,.int .u8 0,.int .u8 0,.int .u8 0,.int .u8 0,.int .u8 0,.int .u8 0,.int .u8 0,.int .u8 0,.int .u8 0,.int .u8 0,.int .u8 0,.int .u8 0,.int .u8 0,.int .u8 0,.int .u8 0,.int .u8 0,.int .u8 0,.int .u8 0,.int .u8 0,.int .u8 0,.int .u8 0,.int .u8 0,.int .u8 0,.int .u8 0,.int .u8 0,.int .u8 0,.int .u8 0,.int .u8 0]⟩∧
 aT.get TB 207=some ⟨.array 64 5,64,64,.agg [.int .u8 0,.int .u8 0,.int .u8 0,.int .u8 0,.int .u8 0,.int .u8 0,.int .u8 0,.int .u8 0,.int .u8 0,.int .u8 0,.int .u8 0,.int .u8 0,.int .u8 0,.int .u8 0,.int .u8 0,.int .u8 0,.int .u8 0,.int .u8 0,.int .u8 0,.int .u8 0,.int .u8 0,.int .u8 0,.int .u8 0,.int .u8 0,.int .u8 0,.int .u8 0,.int .u8 0,.int .u8 0,.int .u8 0,.int .u8 0,.int .u8 0,.int .u8 0,.int .u8 0,.int .u8 0,.int .u8 0,.int .u8 0,.int .u8 0,.int .u8 0,.int .u8 0,.int .u8 0,.int .u8 0,.int .u8 0,.int .u8 0,.int .u8 0,.int .u8 0,.int .u8 0,.int .u8 0,.int .u8 0,.int .u8 0,.int .u8 0,.int .u8 0,.int .u8 0,.int .u8 0,.int .u8 0,.int .u8 0,.int .u8 0,.int .u8 0,.int .u8 0,.int .u8 0,.int .u8 0,.int .u8 0,.int .u8 0,.int .u8 0,.int .u8 0]⟩∧
 aT.get TB 208=some ⟨.func,1,8,.aj⟩∧
 aT.get TB 209=some ⟨.struct [(0,17),(1,17),(2,17),(3,9)] false,4,40,.agg [.aX,.aX,.aX,.str []]⟩∧
 aT.get TB 210=some ⟨.struct [(0,17),(1,17),(2,17),(3,9)] false,4,40,.agg [.aX,.aX,.aX,.str []]⟩∧
 aT.get TB 211=some ⟨.array 0 16,0,0,.agg []⟩∧
 aT.get TB 212=some ⟨.struct [(0,211)] false,0,0,.agg []⟩∧
 aT.get TB 213=some ⟨.struct [(0,211)] false,0,0,.agg []⟩∧
 aT.get TB 214=some ⟨.func,1,8,.aj⟩∧
 aT.get TB 215=some ⟨.int .u8,1,1,.int .u8 0⟩∧
 aT.get TB 216=some ⟨.int .u8,1,1,.int .u8 0⟩∧
 aT.get TB 217=some ⟨.func,1,8,.aj⟩∧
 aT.get TB 218=some ⟨.int .i32,1,4,.int .i32 0⟩∧
 aT.get TB 219=some ⟨.int .i32,1,4,.int .i32 0⟩∧
 aT.get TB 220=some ⟨.struct [(0,12),(1,12),(2,163),(3,215),(4,5),(5,5),(6,216),(7,217),(8,199),(9,218),(10,219)] false,11,48,.agg [.int .u64 0,.int .u64 0,.int .u32 0,.int .u8 0,.int .u8 0,.int .u8 0,.int .u8 0,.aj,.aX,.int .i32 0,.int .i32 0]⟩∧
 aT.get TB 221=some ⟨.struct [(0,12),(1,12),(2,163),(3,215),(4,5),(5,5),(6,216),(7,217),(8,199),(9,218),(10,219)] false,11,48,.agg [.int .u64 0,.int .u64 0,.int .u32 0,.int .u8 0,.int .u8 0,.int .u8 0,.int .u8 0,.aj,.aX,.int .i32 0,.int .i32 0]⟩:=
 ⟨rfl,rfl,rfl,rfl,rfl,rfl,rfl,rfl,rfl,rfl,rfl,rfl,rfl,rfl,rfl,rfl,rfl,rfl,rfl,rfl,rfl,rfl,rfl,rfl,rfl,rfl,rfl,rfl,rfl,rfl,rfl,rfl,rfl,rfl,rfl,rfl,rfl,rfl,rfl,rfl,rfl,rfl,rfl,rfl,rfl,rfl,rfl,rfl,rfl,rfl,rfl,rfl,rfl,rfl,rfl,rfl,rfl,rfl,rfl,rfl,rfl,rfl,rfl,rfl,rfl,rfl,rfl,rfl,rfl,rfl,rfl,rfl,rfl,rfl,rfl,rfl,rfl,rfl,rfl,rfl,rfl,rfl,rfl,rfl,rfl,rfl,rfl,rfl,rfl,rfl,rfl,rfl,rfl,rfl,rfl,rfl,rfl,rfl,rfl,rfl,rfl,rfl,rfl,rfl,rfl,rfl,rfl,rfl,rfl,rfl,rfl,rfl,rfl,rfl,rfl,rfl,rfl,rfl,rfl,rfl,rfl,rfl,rfl,rfl,rfl,rfl,rfl,rfl,rfl,rfl,rfl,rfl,rfl,rfl,rfl,rfl,rfl,rfl,rfl,rfl,rfl,rfl,rfl,rfl,rfl,rfl,rfl,rfl,rfl,rfl,rfl,rfl,rfl,rfl,rfl,rfl,rfl,rfl,rfl,rfl,rfl,rfl,rfl,rfl,rfl,rfl,rfl,rfl,rfl,rfl,rfl,rfl,rfl,rfl,rfl,rfl,rfl,rfl,rfl,rfl,rfl,rfl,rfl,rfl,rfl,rfl,rfl,rfl,rfl,rfl,rfl,rfl,rfl,rfl,rfl⟩
theorem Nw:aL Tryz.prog 2 t2:=ao (.int .i64 0) (ay.refl _) Tryz.underlying2 (by kernel_rfl)
theorem Nx:aL Tryz.prog 3 t3:=ao (.int .i64 0) (ay.refl _) Tryz.underlying3 (by kernel_rfl)
theorem Ny:aL Tryz.prog 4 t4:=ao (.bool false) (ay.refl _) Tryz.underlying4 (by kernel_rfl)
theorem Nz:aL Tryz.prog 5 t5:=ao (.int .u8 0) (ay.refl _) Tryz.underlying5 (by kernel_rfl)
theorem NA:aL Tryz.prog 9 t9:=ao (.str []) (ay.refl _) Tryz.underlying9 (by kernel_rfl)
theorem LK:aL Tryz.prog 20 t20:=ao (.jI true) (ay.refl _) ⟨_,Tryz.underlying20⟩ (by kernel_rfl)
theorem LL:aL Tryz.prog 21 t21:=ao (.int .i32 0) (ay.refl _) Tryz.underlying21 (by kernel_rfl)
theorem LM:aL Tryz.prog 22 t22:=ao (.nil) (ay.refl _) Tryz.underlying22 (by kernel_rfl)
theorem LN:aL Tryz.prog 23 t23:=ao (.nil) (ay.refl _) Tryz.underlying23 (by kernel_rfl)
theorem LR:aL Tryz.prog 24 t24:=ao (.agg [.nil,.nil]) (ay.refl _) ⟨⟨_,Tryz.underlying24,rfl⟩,fun h=>by cases h⟩ (by kernel_rfl)
theorem LS:aL Tryz.prog 25 t25:=ao (.agg [.nil,.nil]) (ay.refl _) ⟨⟨_,Tryz.underlying25,rfl⟩,fun h=>by cases h⟩ (by kernel_rfl)
theorem LU:aL Tryz.prog 26 t26:=ao (.aj) (ay.refl _) ⟨_,_,_,Tryz.underlying26⟩ (by kernel_rfl)
theorem LV:aL Tryz.prog 27 t27:=ao (.aj) (ay.refl _) ⟨_,_,_,Tryz.underlying27⟩ (by kernel_rfl)
theorem LW:aL Tryz.prog 28 t28:=ao (.nil) (ay.refl _) Tryz.underlying28 (by kernel_rfl)
theorem LX:aL Tryz.prog 29 t29:=ao (.int .i64 0) (ay.refl _) Tryz.underlying29 (by kernel_rfl)
theorem LY:aL Tryz.prog 31 t31:=ao (.aj) (ay.refl _) ⟨_,_,_,Tryz.underlying31⟩ (by kernel_rfl)
theorem LZ:aL Tryz.prog 33 t33:=ao (.aj) (ay.refl _) ⟨_,_,_,Tryz.underlying33⟩ (by kernel_rfl)
theorem L0:aL Tryz.prog 34 t34:=ao (.aj) (ay.refl _) ⟨_,_,_,Tryz.underlying34⟩ (by kernel_rfl)
theorem L3:aL Tryz.prog 35 t35:=ao (.aj) (ay.refl _) ⟨_,_,_,Tryz.underlying35⟩ (by kernel_rfl)
theorem L5:aL Tryz.prog 36 t36:=ao (.nil) (ay.refl _) Tryz.underlying36 (by kernel_rfl)
theorem L6:aL Tryz.prog 37 t37:=ao (.nil) (ay.refl _) Tryz.underlying37 (by kernel_rfl)
theorem L7:aL Tryz.prog 38 t38:=ao (.nil) (ay.refl _) Tryz.underlying38 (by kernel_rfl)
theorem L8:aL Tryz.prog 39 t39:=ao (.agg [.int .i64 0,.str [],.int .i64 0,.int .i64 0,.nil,.nil,.nil,.nil]) (ay.refl _) ⟨⟨_,Tryz.underlying39,rfl⟩,fun h=>by cases h⟩ (by kernel_rfl)
theorem L9:aL Tryz.prog 40 t40:=ao (.agg [.int .i64 0,.str [],.int .i64 0,.int .i64 0,.nil,.nil,.nil,.nil]) (by simp[ay,kh,Told,t40]) ⟨⟨_,Tryz.underlying40,rfl⟩,fun h=>by cases h⟩ (by kernel_rfl)
theorem Ma:aL Tryz.prog 42 t42:=ao (.aj) (ay.refl _) ⟨_,_,_,Tryz.underlying42⟩ (by kernel_rfl)
theorem Mb:aL Tryz.prog 43 t43:=ao (.aj) (ay.refl _) ⟨_,_,_,Tryz.underlying43⟩ (by kernel_rfl)
theorem Mc:aL Tryz.prog 44 t44:=ao (.aj) (ay.refl _) ⟨_,_,_,Tryz.underlying44⟩ (by kernel_rfl)
theorem Md:aL Tryz.prog 45 t45:=ao (.aj) (ay.refl _) ⟨_,_,_,Tryz.underlying45⟩ (by kernel_rfl)
theorem Me:aL Tryz.prog 46 t46:=ao (.aj) (ay.refl _) ⟨_,_,_,Tryz.underlying46⟩ (by kernel_rfl)
theorem Mf:aL Tryz.prog 47 t47:=ao (.aj) (ay.refl _) ⟨_,_,_,Tryz.underlying47⟩ (by kernel_rfl)
theorem Mg:aL Tryz.prog 48 t48:=ao (.nil) (ay.refl _) Tryz.underlying48 (by kernel_rfl)
theorem Mh:aL Tryz.prog 49 t49:=ao (.agg [.str [],.int .i64 0,.nil]) (ay.refl _) ⟨⟨_,Tryz.underlying49,rfl⟩,fun h=>by cases h⟩ (by kernel_rfl)
theorem Mi:aL Tryz.prog 50 t50:=ao (.agg [.str [],.int .i64 0,.nil]) (by simp[ay,kh,Told,t50]) ⟨⟨_,Tryz.underlying50,rfl⟩,fun h=>by cases h⟩ (by kernel_rfl)
theorem Mj:aL Tryz.prog 51 t51:=ao (.aj) (ay.refl _) ⟨_,_,_,Tryz.underlying51⟩ (by kernel_rfl)
theorem Mk:aL Tryz.prog 52 t52:=ao (.aj) (ay.refl _) ⟨_,_,_,Tryz.underlying52⟩ (by kernel_rfl)
theorem Ml:aL Tryz.prog 53 t53:=ao (.agg [.str [],.int .i64 0,.str [],.int .i64 0,.int .i64 0,.nil,.nil,.nil,.nil]) (ay.refl _) ⟨⟨_,Tryz.underlying53,rfl⟩,fun h=>by cases h⟩ (by kernel_rfl)
theorem Mm:aL Tryz.prog 54 t54:=ao (.agg [.str [],.int .i64 0,.str [],.int .i64 0,.int .i64 0,.nil,.nil,.nil,.nil]) (by simp[ay,kh,Told,t54]) ⟨⟨_,Tryz.underlying54,rfl⟩,fun h=>by cases h⟩ (by kernel_rfl)
theorem Mn:aL Tryz.prog 55 t55:=ao (.aj) (ay.refl _) ⟨_,_,_,Tryz.underlying55⟩ (by kernel_rfl)
theorem Mo:aL Tryz.prog 56 t56:=ao (.aj) (ay.refl _) ⟨_,_,_,Tryz.underlying56⟩ (by kernel_rfl)
theorem Mp:aL Tryz.prog 57 t57:=ao (.aj) (ay.refl _) ⟨_,_,_,Tryz.underlying57⟩ (by kernel_rfl)
theorem Mq:aL Tryz.prog 58 t58:=ao (.aj) (ay.refl _) ⟨_,_,_,Tryz.underlying58⟩ (by kernel_rfl)
theorem Mr:aL Tryz.prog 59 t59:=ao (.agg [.int .i64 0,.str [],.int .i64 0,.nil,.int .i64 0,.str [],.int .i64 0,.int .i64 0,.nil,.nil,.nil,.nil]) (ay.refl _) ⟨⟨_,Tryz.underlying59,rfl⟩,fun h=>by cases h⟩ (by kernel_rfl)
theorem Ms:aL Tryz.prog 60 t60:=ao (.agg [.int .i64 0,.str [],.int .i64 0,.nil,.int .i64 0,.str [],.int .i64 0,.int .i64 0,.nil,.nil,.nil,.nil]) (by simp[ay,kh,Told,t60]) ⟨⟨_,Tryz.underlying60,rfl⟩,fun h=>by cases h⟩ (by kernel_rfl)
theorem Mt:aL Tryz.prog 61 t61:=ao (.aj) (ay.refl _) ⟨_,_,_,Tryz.underlying61⟩ (by kernel_rfl)
theorem Mu:aL Tryz.prog 62 t62:=ao (.bu) (ay.refl _) Tryz.underlying62 (by kernel_rfl)
theorem Mv:aL Tryz.prog 63 t63:=ao (.bu) (ay.refl _) Tryz.underlying63 (by kernel_rfl)
theorem Mw:aL Tryz.prog 64 t64:=ao (.bu) (ay.refl _) Tryz.underlying64 (by kernel_rfl)
theorem Mx:aL Tryz.prog 65 t65:=ao (.aj) (ay.refl _) ⟨_,_,_,Tryz.underlying65⟩ (by kernel_rfl)
theorem My:aL Tryz.prog 66 t66:=ao (.nil) (ay.refl _) Tryz.underlying66 (by kernel_rfl)
theorem Mz:aL Tryz.prog 67 t67:=ao (.aj) (ay.refl _) ⟨_,_,_,Tryz.underlying67⟩ (by kernel_rfl)
theorem MA:aL Tryz.prog 68 t68:=ao (.aj) (ay.refl _) ⟨_,_,_,Tryz.underlying68⟩ (by kernel_rfl)
theorem MB:aL Tryz.prog 69 t69:=ao (.aj) (ay.refl _) ⟨_,_,_,Tryz.underlying69⟩ (by kernel_rfl)
theorem MC:aL Tryz.prog 70 t70:=ao (.aj) (ay.refl _) ⟨_,_,_,Tryz.underlying70⟩ (by kernel_rfl)
theorem MD:aL Tryz.prog 71 t71:=ao (.aX) (ay.refl _) Tryz.underlying71 (by kernel_rfl)
theorem ME:aL Tryz.prog 72 t72:=ao (.agg [.bu,.int .i64 0]) (ay.refl _) ⟨⟨_,Tryz.underlying72,rfl⟩,fun h=>by cases h⟩ (by kernel_rfl)
theorem MF:aL Tryz.prog 73 t73:=ao (.agg [.bu,.int .i64 0]) (ay.refl _) ⟨⟨_,Tryz.underlying73,rfl⟩,fun h=>by cases h⟩ (by kernel_rfl)
theorem MG:aL Tryz.prog 74 t74:=ao (.aj) (ay.refl _) ⟨_,_,_,Tryz.underlying74⟩ (by kernel_rfl)
theorem MH:aL Tryz.prog 75 t75:=ao (.agg [.str [],.int .i64 0,.int .i64 0,.int .i64 0]) (ay.refl _) ⟨⟨_,Tryz.underlying75,rfl⟩,fun _=>jT (by kernel_rfl)⟩ (by kernel_rfl)
theorem MI:aL Tryz.prog 76 t76:=ao (.agg [.str [],.int .i64 0,.int .i64 0,.int .i64 0]) (ay.refl _) ⟨⟨_,Tryz.underlying76,rfl⟩,fun _=>jT (by kernel_rfl)⟩ (by kernel_rfl)
theorem MJ:aL Tryz.prog 77 t77:=ao (.aj) (ay.refl _) ⟨_,_,_,Tryz.underlying77⟩ (by kernel_rfl)
theorem MK:aL Tryz.prog 78 t78:=ao (.aX) (ay.refl _) Tryz.underlying78 (by kernel_rfl)
theorem ML:aL Tryz.prog 79 t79:=ao (.agg [.int .i64 0,.nil]) (ay.refl _) ⟨⟨_,Tryz.underlying79,rfl⟩,fun h=>by cases h⟩ (by kernel_rfl)
theorem MM:aL Tryz.prog 80 t80:=ao (.agg [.int .i64 0,.nil]) (ay.refl _) ⟨⟨_,Tryz.underlying80,rfl⟩,fun h=>by cases h⟩ (by kernel_rfl)
theorem MN:aL Tryz.prog 81 t81:=ao (.aj) (ay.refl _) ⟨_,_,_,Tryz.underlying81⟩ (by kernel_rfl)
theorem MO:aL Tryz.prog 82 t82:=ao (.aj) (ay.refl _) ⟨_,_,_,Tryz.underlying82⟩ (by kernel_rfl)
theorem MP:aL Tryz.prog 83 t83:=ao (.bu) (ay.refl _) Tryz.underlying83 (by kernel_rfl)
theorem MQ:aL Tryz.prog 84 t84:=ao (.aj) (ay.refl _) ⟨_,_,_,Tryz.underlying84⟩ (by kernel_rfl)
theorem MR:aL Tryz.prog 85 t85:=ao (.bu) (ay.refl _) Tryz.underlying85 (by kernel_rfl)
theorem MS:aL Tryz.prog 86 t86:=ao (.aj) (ay.refl _) ⟨_,_,_,Tryz.underlying86⟩ (by kernel_rfl)
theorem MT:aL Tryz.prog 87 t87:=ao (.aj) (ay.refl _) ⟨_,_,_,Tryz.underlying87⟩ (by kernel_rfl)
theorem MU:aL Tryz.prog 88 t88:=ao (.aj) (ay.refl _) ⟨_,_,_,Tryz.underlying88⟩ (by kernel_rfl)
theorem MV:aL Tryz.prog 89 t89:=ao (.aj) (ay.refl _) ⟨_,_,_,Tryz.underlying89⟩ (by kernel_rfl)
theorem MW:aL Tryz.prog 90 t90:=ao (.aj) (ay.refl _) ⟨_,_,_,Tryz.underlying90⟩ (by kernel_rfl)
theorem MX:aL Tryz.prog 91 t91:=ao (.aj) (ay.refl _) ⟨_,_,_,Tryz.underlying91⟩ (by kernel_rfl)
theorem MY:aL Tryz.prog 92 t92:=ao (.aj) (ay.refl _) ⟨_,_,_,Tryz.underlying92⟩ (by kernel_rfl)
theorem MZ:aL Tryz.prog 93 t93:=ao (.aj) (ay.refl _) ⟨_,_,_,Tryz.underlying93⟩ (by kernel_rfl)
theorem M0:aL Tryz.prog 94 t94:=ao (.aj) (ay.refl _) ⟨_,_,_,Tryz.underlying94⟩ (by kernel_rfl)
theorem M1:aL Tryz.prog 95 t95:=ao (.aX) (ay.refl _) Tryz.underlying95 (by kernel_rfl)
theorem M3:aL Tryz.prog 96 t96:=ao (.bu) (ay.refl _) Tryz.underlying96 (by kernel_rfl)
theorem M4:aL Tryz.prog 97 t97:=ao (.agg [.bu]) (ay.refl _) ⟨⟨_,Tryz.underlying97,rfl⟩,fun h=>by cases h⟩ (by kernel_rfl)
theorem M5:aL Tryz.prog 98 t98:=ao (.agg [.bu]) (ay.refl _) ⟨⟨_,Tryz.underlying98,rfl⟩,fun h=>by cases h⟩ (by kernel_rfl)
theorem M6:aL Tryz.prog 99 t99:=ao (.aj) (ay.refl _) ⟨_,_,_,Tryz.underlying99⟩ (by kernel_rfl)
theorem I4:aL Tryz.prog 100 t100:=ao (.aj) (ay.refl _) ⟨_,_,_,Tryz.underlying100⟩ (by kernel_rfl)
theorem I5:aL Tryz.prog 101 t101:=ao (.agg [.str [],.int .i64 0,.int .i64 0,.int .i64 0,.str [],.int .i64 0,.int .i64 0,.int .i64 0,.str [],.int .i64 0,.int .i64 0,.int .i64 0,.str [],.int .i64 0,.int .i64 0,.int .i64 0]) (ay.refl _) Tryz.underlying101 (by kernel_rfl)
theorem I6:aL Tryz.prog 102 t102:=ao (.aj) (ay.refl _) ⟨_,_,_,Tryz.underlying102⟩ (by kernel_rfl)
theorem I7:aL Tryz.prog 103 t103:=ao (.aj) (ay.refl _) ⟨_,_,_,Tryz.underlying103⟩ (by kernel_rfl)
theorem I8:aL Tryz.prog 104 t104:=ao (.aj) (ay.refl _) ⟨_,_,_,Tryz.underlying104⟩ (by kernel_rfl)
theorem I9:aL Tryz.prog 106 t106:=ao (.aj) (ay.refl _) ⟨_,_,_,Tryz.underlying106⟩ (by kernel_rfl)
theorem Ja:aL Tryz.prog 107 t107:=ao (.aj) (ay.refl _) ⟨_,_,_,Tryz.underlying107⟩ (by kernel_rfl)
theorem Jb:aL Tryz.prog 108 t108:=ao (.aj) (ay.refl _) ⟨_,_,_,Tryz.underlying108⟩ (by kernel_rfl)
theorem Jc:aL Tryz.prog 109 t109:=ao (.aj) (ay.refl _) ⟨_,_,_,Tryz.underlying109⟩ (by kernel_rfl)
theorem Jd:aL Tryz.prog 110 t110:=ao (.aj) (ay.refl _) ⟨_,_,_,Tryz.underlying110⟩ (by kernel_rfl)
theorem Je:aL Tryz.prog 111 t111:=ao (.aj) (ay.refl _) ⟨_,_,_,Tryz.underlying111⟩ (by kernel_rfl)
theorem Jf:aL Tryz.prog 112 t112:=ao (.aj) (ay.refl _) ⟨_,_,_,Tryz.underlying112⟩ (by kernel_rfl)
theorem Jg:aL Tryz.prog 114 t114:=ao (.aj) (ay.refl _) ⟨_,_,_,Tryz.underlying114⟩ (by kernel_rfl)
theorem Jh:aL Tryz.prog 115 t115:=ao (.jI true) (ay.refl _) ⟨_,Tryz.underlying115⟩ (by kernel_rfl)
theorem Ji:aL Tryz.prog 116 t116:=ao (.jI true) (ay.refl _) ⟨_,Tryz.underlying116⟩ (by kernel_rfl)
theorem Jj:aL Tryz.prog 118 t118:=ao (.aj) (ay.refl _) ⟨_,_,_,Tryz.underlying118⟩ (by kernel_rfl)
theorem Jk:aL Tryz.prog 119 t119:=ao (.aj) (ay.refl _) ⟨_,_,_,Tryz.underlying119⟩ (by kernel_rfl)
theorem Jl:aL Tryz.prog 120 t120:=ao (.aj) (ay.refl _) ⟨_,_,_,Tryz.underlying120⟩ (by kernel_rfl)
theorem Jm:aL Tryz.prog 121 t121:=ao (.aj) (ay.refl _) ⟨_,_,_,Tryz.underlying121⟩ (by kernel_rfl)
theorem Jn:aL Tryz.prog 122 t122:=ao (.aj) (ay.refl _) ⟨_,_,_,Tryz.underlying122⟩ (by kernel_rfl)
theorem Jo:aL Tryz.prog 123 t123:=ao (.aj) (ay.refl _) ⟨_,_,_,Tryz.underlying123⟩ (by kernel_rfl)
theorem Jp:aL Tryz.prog 124 t124:=ao (.aj) (ay.refl _) ⟨_,_,_,Tryz.underlying124⟩ (by kernel_rfl)
theorem Jq:aL Tryz.prog 125 t125:=ao (.aj) (ay.refl _) ⟨_,_,_,Tryz.underlying125⟩ (by kernel_rfl)
theorem Jr:aL Tryz.prog 126 t126:=ao (.aj) (ay.refl _) ⟨_,_,_,Tryz.underlying126⟩ (by kernel_rfl)
theorem Js:aL Tryz.prog 127 t127:=ao (.aj) (ay.refl _) ⟨_,_,_,Tryz.underlying127⟩ (by kernel_rfl)
theorem Jt:aL Tryz.prog 128 t128:=ao (.aj) (ay.refl _) ⟨_,_,_,Tryz.underlying128⟩ (by kernel_rfl)
theorem Ju:aL Tryz.prog 129 t129:=ao (.aj) (ay.refl _) ⟨_,_,_,Tryz.underlying129⟩ (by kernel_rfl)
theorem Jv:aL Tryz.prog 130 t130:=ao (.aj) (ay.refl _) ⟨_,_,_,Tryz.underlying130⟩ (by kernel_rfl)
theorem Jw:aL Tryz.prog 131 t131:=ao (.aj) (ay.refl _) ⟨_,_,_,Tryz.underlying131⟩ (by kernel_rfl)
theorem Jx:aL Tryz.prog 132 t132:=ao (.aj) (ay.refl _) ⟨_,_,_,Tryz.underlying132⟩ (by kernel_rfl)
theorem Jy:aL Tryz.prog 133 t133:=ao (.aj) (ay.refl _) ⟨_,_,_,Tryz.underlying133⟩ (by kernel_rfl)
theorem Jz:aL Tryz.prog 134 t134:=ao (.aj) (ay.refl _) ⟨_,_,_,Tryz.underlying134⟩ (by kernel_rfl)
theorem JA:aL Tryz.prog 135 t135:=ao (.int .u64 0) (ay.refl _) Tryz.underlying135 (by kernel_rfl)
theorem JB:aL Tryz.prog 136 t136:=ao (.aj) (ay.refl _) ⟨_,_,_,Tryz.underlying136⟩ (by kernel_rfl)
theorem JC:aL Tryz.prog 137 t137:=ao (.aj) (ay.refl _) ⟨_,_,_,Tryz.underlying137⟩ (by kernel_rfl)
theorem JD:aL Tryz.prog 138 t138:=ao (.aj) (ay.refl _) ⟨_,_,_,Tryz.underlying138⟩ (by kernel_rfl)
theorem JE:aL Tryz.prog 140 t140:=ao (.aj) (ay.refl _) ⟨_,_,_,Tryz.underlying140⟩ (by kernel_rfl)
theorem JF:aL Tryz.prog 141 t141:=ao (.bu) (ay.refl _) Tryz.underlying141 (by kernel_rfl)
theorem JG:aL Tryz.prog 142 t142:=ao (.aj) (ay.refl _) ⟨_,_,_,Tryz.underlying142⟩ (by kernel_rfl)
theorem JH:aL Tryz.prog 143 t143:=ao (.aj) (ay.refl _) ⟨_,_,_,Tryz.underlying143⟩ (by kernel_rfl)
theorem JI:aL Tryz.prog 144 t144:=ao (.aj) (ay.refl _) ⟨_,_,_,Tryz.underlying144⟩ (by kernel_rfl)
theorem JJ:aL Tryz.prog 146 t146:=ao (.aj) (ay.refl _) ⟨_,_,_,Tryz.underlying146⟩ (by kernel_rfl)
theorem JK:aL Tryz.prog 147 t147:=ao (.aj) (ay.refl _) ⟨_,_,_,Tryz.underlying147⟩ (by kernel_rfl)
theorem JL:aL Tryz.prog 148 t148:=ao (.aj) (ay.refl _) ⟨_,_,_,Tryz.underlying148⟩ (by kernel_rfl)
theorem JM:aL Tryz.prog 149 t149:=ao (.aj) (ay.refl _) ⟨_,_,_,Tryz.underlying149⟩ (by kernel_rfl)
theorem JN:aL Tryz.prog 150 t150:=ao (.aj) (ay.refl _) ⟨_,_,_,Tryz.underlying150⟩ (by kernel_rfl)
theorem JO:aL Tryz.prog 151 t151:=ao (.aj) (ay.refl _) ⟨_,_,_,Tryz.underlying151⟩ (by kernel_rfl)
theorem JP:aL Tryz.prog 152 t152:=ao (.aj) (ay.refl _) ⟨_,_,_,Tryz.underlying152⟩ (by kernel_rfl)
theorem JQ:aL Tryz.prog 153 t153:=ao (.aj) (ay.refl _) ⟨_,_,_,Tryz.underlying153⟩ (by kernel_rfl)
theorem JR:aL Tryz.prog 154 t154:=ao (.aj) (ay.refl _) ⟨_,_,_,Tryz.underlying154⟩ (by kernel_rfl)
theorem JS:aL Tryz.prog 155 t155:=ao (.int .i64 0) (ay.refl _) Tryz.underlying155 (by kernel_rfl)
theorem JT:aL Tryz.prog 157 t157:=ao (.aj) (ay.refl _) ⟨_,_,_,Tryz.underlying157⟩ (by kernel_rfl)
theorem JU:aL Tryz.prog 158 t158:=ao (.aj) (ay.refl _) ⟨_,_,_,Tryz.underlying158⟩ (by kernel_rfl)
theorem JV:aL Tryz.prog 159 t159:=ao (.aj) (ay.refl _) ⟨_,_,_,Tryz.underlying159⟩ (by kernel_rfl)
theorem JW:aL Tryz.prog 160 t160:=ao (.aj) (ay.refl _) ⟨_,_,_,Tryz.underlying160⟩ (by kernel_rfl)
theorem JX:aL Tryz.prog 161 t161:=ao (.aj) (ay.refl _) ⟨_,_,_,Tryz.underlying161⟩ (by kernel_rfl)
theorem JY:aL Tryz.prog 162 t162:=ao (.aj) (ay.refl _) ⟨_,_,_,Tryz.underlying162⟩ (by kernel_rfl)
theorem JZ:aL Tryz.prog 163 t163:=ao (.int .u32 0) (ay.refl _) Tryz.underlying163 (by kernel_rfl)
theorem J0:aL Tryz.prog 164 t164:=ao (.aj) (ay.refl _) ⟨_,_,_,Tryz.underlying164⟩ (by kernel_rfl)
theorem J1:aL Tryz.prog 165 t165:=ao (.int .u64 0) (ay.refl _) Tryz.underlying165 (by kernel_rfl)
theorem J2:aL Tryz.prog 166 t166:=ao (.aj) (ay.refl _) ⟨_,_,_,Tryz.underlying166⟩ (by kernel_rfl)
theorem J3:aL Tryz.prog 167 t167:=ao (.aj) (ay.refl _) ⟨_,_,_,Tryz.underlying167⟩ (by kernel_rfl)
theorem J4:aL Tryz.prog 168 t168:=ao (.aj) (ay.refl _) ⟨_,_,_,Tryz.underlying168⟩ (by kernel_rfl)
theorem J5:aL Tryz.prog 169 t169:=ao (.aj) (ay.refl _) ⟨_,_,_,Tryz.underlying169⟩ (by kernel_rfl)
theorem J6:aL Tryz.prog 170 t170:=ao (.int .i64 0) (ay.refl _) Tryz.underlying170 (by kernel_rfl)
theorem J7:aL Tryz.prog 171 t171:=ao (.nil) (ay.refl _) Tryz.underlying171 (by kernel_rfl)
theorem J8:aL Tryz.prog 173 t173:=ao (.aj) (ay.refl _) ⟨_,_,_,Tryz.underlying173⟩ (by kernel_rfl)
theorem J9:aL Tryz.prog 174 t174:=ao (.aX) (ay.refl _) Tryz.underlying174 (by kernel_rfl)
theorem Ka:aL Tryz.prog 175 t175:=ao (.aj) (ay.refl _) ⟨_,_,_,Tryz.underlying175⟩ (by kernel_rfl)
theorem Kb:aL Tryz.prog 176 t176:=ao (.aj) (ay.refl _) ⟨_,_,_,Tryz.underlying176⟩ (by kernel_rfl)
theorem Kc:aL Tryz.prog 177 t177:=ao (.aj) (ay.refl _) ⟨_,_,_,Tryz.underlying177⟩ (by kernel_rfl)
theorem Kd:aL Tryz.prog 178 t178:=ao (.aj) (ay.refl _) ⟨_,_,_,Tryz.underlying178⟩ (by kernel_rfl)
theorem Ke:aL Tryz.prog 179 t179:=ao (.int .u64 0) (ay.refl _) Tryz.underlying179 (by kernel_rfl)
theorem Kf:aL Tryz.prog 180 t180:=ao (.aj) (ay.refl _) ⟨_,_,_,Tryz.underlying180⟩ (by kernel_rfl)
theorem Kg:aL Tryz.prog 181 t181:=ao (.aj) (ay.refl _) ⟨_,_,_,Tryz.underlying181⟩ (by kernel_rfl)
theorem Kh:aL Tryz.prog 182 t182:=ao (.aj) (ay.refl _) ⟨_,_,_,Tryz.underlying182⟩ (by kernel_rfl)
theorem Ki:aL Tryz.prog 183 t183:=ao (.aX) (ay.refl _) Tryz.underlying183 (by kernel_rfl)
theorem Kj:aL Tryz.prog 184 t184:=ao (.aj) (ay.refl _) ⟨_,_,_,Tryz.underlying184⟩ (by kernel_rfl)
theorem Kk:aL Tryz.prog 185 t185:=ao (.aj) (ay.refl _) ⟨_,_,_,Tryz.underlying185⟩ (by kernel_rfl)
theorem Kl:aL Tryz.prog 187 t187:=ao (.aj) (ay.refl _) ⟨_,_,_,Tryz.underlying187⟩ (by kernel_rfl)
theorem Km:aL Tryz.prog 188 t188:=ao (.aj) (ay.refl _) ⟨_,_,_,Tryz.underlying188⟩ (by kernel_rfl)
theorem Kn:aL Tryz.prog 189 t189:=ao (.agg [.str [],.str [],.jI true]) (ay.refl _) ⟨⟨_,Tryz.underlying189,rfl⟩,fun h=>by cases h⟩ (by kernel_rfl)
theorem Ko:aL Tryz.prog 190 t190:=ao (.agg [.str [],.str [],.jI true]) (ay.refl _) ⟨⟨_,Tryz.underlying190,rfl⟩,fun h=>by cases h⟩ (by kernel_rfl)
theorem Kp:aL Tryz.prog 191 t191:=ao (.aj) (ay.refl _) ⟨_,_,_,Tryz.underlying191⟩ (by kernel_rfl)
theorem Kq:aL Tryz.prog 192 t192:=ao (.agg [.int .u8 0,.int .u8 0,.int .u8 0,.int .u8 0,.int .u8 0,.int .u8 0,.int .u8 0,.int .u8 0,.int .u8 0,.int .u8 0,.int .u8 0,.int .u8 0,.int .u8 0,.int .u8 0,.int .u8 0,.int .u8 0,.int .u8 0,.int .u8 0,.int .u8 0,.int .u8 0,.int .u8 0,.int .u8 0,.int .u8 0,.int .u8 0]) (ay.refl _) Tryz.underlying192 (by kernel_rfl)
theorem Kr:aL Tryz.prog 193 t193:=ao (.aj) (ay.refl _) ⟨_,_,_,Tryz.underlying193⟩ (by kernel_rfl)
theorem Ks:aL Tryz.prog 195 t195:=ao (.aj) (ay.refl _) ⟨_,_,_,Tryz.underlying195⟩ (by kernel_rfl)
theorem Kt:aL Tryz.prog 196 t196:=ao (.aX) (ay.refl _) Tryz.underlying196 (by kernel_rfl)
theorem Ku:aL Tryz.prog 197 t197:=ao (.aj) (ay.refl _) ⟨_,_,_,Tryz.underlying197⟩ (by kernel_rfl)
theorem Kv:aL Tryz.prog 198 t198:=ao (.aj) (ay.refl _) ⟨_,_,_,Tryz.underlying198⟩ (by kernel_rfl)
theorem Kw:aL Tryz.prog 199 t199:=ao (.aX) (ay.refl _) Tryz.underlying199 (by kernel_rfl)
theorem Kx:aL Tryz.prog 200 t200:=ao (.aX) (ay.refl _) Tryz.underlying200 (by kernel_rfl)
theorem Ky:aL Tryz.prog 201 t201:=ao (.agg [.str []]) (ay.refl _) ⟨⟨_,Tryz.underlying201,rfl⟩,fun _=>jT (by kernel_rfl)⟩ (by kernel_rfl)
theorem Kz:aL Tryz.prog 202 t202:=ao (.agg [.str []]) (ay.refl _) ⟨⟨_,Tryz.underlying202,rfl⟩,fun _=>jT (by kernel_rfl)⟩ (by kernel_rfl)
theorem KA:aL Tryz.prog 203 t203:=ao (.aj) (ay.refl _) ⟨_,_,_,Tryz.underlying203⟩ (by kernel_rfl)
theorem KC:aL Tryz.prog 204 t204:=ao (.agg [.int .u64 0,.int .u64 0,.int .u64 0,.int .u64 0,.int .u64 0,.int .u64 0,.int .u64 0,.int .u64 0,.int .u64 0,.int .u64 0,.int .u64 0,.int .u64 0,.int .u64 0,.int .u64 0,.int .u64 0,.int .u64 0,.int .u64 0,.int .u64 0,.int .u64 0,.int .u64 0]) (ay.refl _) Tryz.underlying204 (by kernel_rfl)
theorem KD:aL Tryz.prog 205 t205:=ao (.agg [.int .u8 0,.int .u8 0,.int .u8 0,.int .u8 0,.int .u8 0,.int .u8 0,.int .u8 0,.int .u8 0,.int .u8 0,.int .u8 0,.int .u8 0,.int .u8 0,.int .u8 0,.int .u8 0,.int .u8 0,.int .u8 0,.int .u8 0,.int .u8 0,.int .u8 0,.int .u8 0,.int .u8 0,.int .u8 0,.int .u8 0,.int .u8 0,.int .u8 0,.int .u8 0,.int .u8 0,.int .u8 0,.int .u8 0,.int .u8 0,.int .u8 0,.int .u8 0,.int .u8 0,.int .u8 0,.int .u8 0,.int .u8 0,.int .u8 0,.int .u8 0,.int .u8 0,.int .u8 0,.int .u8 0,.int .u8 0,.int .u8 0,.int .u8 0,.int .u8 0,.int .u8 0,.int .u8 0,.int .u8 0,.int .u8 0,.int .u8 0,.int .u8 0,.int .u8 0,.int .u8 0,.int .u8 0,.int .u8 0,.int .u8 0,.int .u8 0,.int .u8 0,.int .u8 0,.int .u8 0,.int .u8 0,.int .u8 0,.int .u8 0,.int .u8 0,.int .u8 0]) (ay.refl _) Tryz.underlying205 (by kernel_rfl)
theorem KE:aL Tryz.prog 206 t206:=ao (.agg [.int .u8 0,.int .u8 0,.int .u8 0,.int .u8 0,.int .u8 0,.int .u8 0,.int .u8 0,.int .u8 0,.int .u8 0,.int .u8 0,.int .u8 0,.int .u8 0,.int .u8 0,.int .u8 0,.int .u8 0,.int .u8 0,.int .u8 0,.int .u8 0,.int .u8 0,.int .u8 0,.int .u8 0,.int .u8 0,.int .u8 0,.int .u8 0,.int .u8 0,.int .u8 0,.int .u8 0,.int .u8 0,.int .u8 0,.int .u8 0,.int .u8 0,.int .u8 0]) (ay.refl _) Tryz.underlying206 (by kernel_rfl)
theorem KF:aL Tryz.prog 207 t207:=ao (.agg [.int .u8 0,.int .u8 0,.int .u8 0,.int .u8 0,.int .u8 0,.int .u8 0,.int .u8 0,.int .u8 0,.int .u8 0,.int .u8 0,.int .u8 0,.int .u8 0,.int .u8 0,.int .u8 0,.int .u8 0,.int .u8 0,.int .u8 0,.int .u8 0,.int .u8 0,.int .u8 0,.int .u8 0,.int .u8 0,.int .u8 0,.int .u8 0,.int .u8 0,.int .u8 0,.int .u8 0,.int .u8 0,.int .u8 0,.int .u8 0,.int .u8 0,.int .u8 0,.int .u8 0,.int .u8 0,.int .u8 0,.int .u8 0,.int .u8 0,.int .u8 0,.int .u8 0,.int .u8 0,.int .u8 0,.int .u8 0,.int .u8 0,.int .u8 0,.int .u8 0,.int .u8 0,.int .u8 0,.int .u8 0,.int .u8 0,.int .u8 0,.int .u8 0,.int .u8 0,.int .u8 0,.int .u8 0,.int .u8 0,.int .u8 0,.int .u8 0,.int .u8 0,.int .u8 0,.int .u8 0,.int .u8 0,.int .u8 0,.int .u8 0,.int .u8 0]) (ay.refl _) Tryz.underlying207 (by kernel_rfl)
theorem KG:aL Tryz.prog 208 t208:=ao (.aj) (ay.refl _) ⟨_,_,_,Tryz.underlying208⟩ (by kernel_rfl)
theorem KH:aL Tryz.prog 209 t209:=ao (.agg [.aX,.aX,.aX,.str []]) (ay.refl _) ⟨⟨_,Tryz.underlying209,rfl⟩,fun h=>by cases h⟩ (by kernel_rfl)
theorem KI:aL Tryz.prog 210 t210:=ao (.agg [.aX,.aX,.aX,.str []]) (ay.refl _) ⟨⟨_,Tryz.underlying210,rfl⟩,fun h=>by cases h⟩ (by kernel_rfl)
theorem KJ:aL Tryz.prog 211 t211:=ao (.agg []) (ay.refl _) Tryz.underlying211 (by kernel_rfl)
theorem KK:aL Tryz.prog 212 t212:=ao (.agg []) (ay.refl _) ⟨⟨_,Tryz.underlying212,rfl⟩,fun h=>by cases h⟩ (by kernel_rfl)
theorem KL:aL Tryz.prog 213 t213:=ao (.agg []) (ay.refl _) ⟨⟨_,Tryz.underlying213,rfl⟩,fun h=>by cases h⟩ (by kernel_rfl)
theorem KM:aL Tryz.prog 214 t214:=ao (.aj) (ay.refl _) ⟨_,_,_,Tryz.underlying214⟩ (by kernel_rfl)
theorem KN:aL Tryz.prog 215 t215:=ao (.int .u8 0) (ay.refl _) Tryz.underlying215 (by kernel_rfl)
theorem KO:aL Tryz.prog 216 t216:=ao (.int .u8 0) (ay.refl _) Tryz.underlying216 (by kernel_rfl)
theorem KP:aL Tryz.prog 217 t217:=ao (.aj) (ay.refl _) ⟨_,_,_,Tryz.underlying217⟩ (by kernel_rfl)
theorem KQ:aL Tryz.prog 218 t218:=ao (.int .i32 0) (ay.refl _) Tryz.underlying218 (by kernel_rfl)
theorem KR:aL Tryz.prog 219 t219:=ao (.int .i32 0) (ay.refl _) Tryz.underlying219 (by kernel_rfl)
theorem KS:aL Tryz.prog 220 t220:=ao (.agg [.int .u64 0,.int .u64 0,.int .u32 0,.int .u8 0,.int .u8 0,.int .u8 0,.int .u8 0,.aj,.aX,.int .i32 0,.int .i32 0]) (ay.refl _) ⟨⟨_,Tryz.underlying220,rfl⟩,fun h=>by cases h⟩ (by kernel_rfl)
theorem KT:aL Tryz.prog 221 t221:=ao (.agg [.int .u64 0,.int .u64 0,.int .u32 0,.int .u8 0,.int .u8 0,.int .u8 0,.int .u8 0,.aj,.aX,.int .i32 0,.int .i32 0]) (ay.refl _) ⟨⟨_,Tryz.underlying221,rfl⟩,fun h=>by cases h⟩ (by kernel_rfl)
attribute [go_sem] Ns
theorem tO:Tryz.prog.follows .mixedOrders=true:=by kernel_rfl
theorem aA:aq Tryz.prog TB:=
 aq.cons Nw<|
 aq.cons Nx<|
 aq.cons Ny<|
 aq.cons Nz<|
 aq.cons NA<|
 aq.cons LK<|
 aq.cons LL<|
 aq.cons LM<|
 aq.cons LN<|
 aq.cons LR<|
 aq.cons LS<|
 aq.cons LU<|
 aq.cons LV<|
 aq.cons LW<|
 aq.cons LX<|
 aq.cons LY<|
 aq.cons LZ<|
 aq.cons L0<|
 aq.cons L3<|
 aq.cons L5<|
 aq.cons L6<|
 aq.cons L7<|
 aq.cons L8<|
 aq.cons L9<|
 aq.cons Ma<|
 aq.cons Mb<|
 aq.cons Mc<|
 aq.cons Md<|
 aq.cons Me<|
 aq.cons Mf<|
 aq.cons Mg<|
 aq.cons Mh<|
 aq.cons Mi<|
 aq.cons Mj<|
 aq.cons Mk<|
 aq.cons Ml<|
 aq.cons Mm<|
 aq.cons Mn<|
 aq.cons Mo<|
 aq.cons Mp<|
 aq.cons Mq<|
 aq.cons Mr<|
 aq.cons Ms<|
 aq.cons Mt<|
 aq.cons Mu<|
 aq.cons Mv<|
 aq.cons Mw<|
 aq.cons Mx<|
 aq.cons My<|
 aq.cons Mz<|
 aq.cons MA<|
 aq.cons MB<|
 aq.cons MC<|
 aq.cons MD<|
 aq.cons ME<|
 aq.cons MF<|
 aq.cons MG<|
 aq.cons MH<|
 aq.cons MI<|
 aq.cons MJ<|
 aq.cons MK<|
 aq.cons ML<|
 aq.cons MM<|
 aq.cons MN<|
 aq.cons MO<|
 aq.cons MP<|
 aq.cons MQ<|
 aq.cons MR<|
 aq.cons MS<|
 aq.cons MT<|
 aq.cons MU<|
 aq.cons MV<|
 aq.cons MW<|
 aq.cons MX<|
 aq.cons MY<|
 aq.cons MZ<|
 aq.cons M0<|
 aq.cons M1<|
 aq.cons M3<|
 aq.cons M4<|
 aq.cons M5<|
 aq.cons M6<|
 aq.cons I4<|
 aq.cons I5<|
 aq.cons I6<|
 aq.cons I7<|
 aq.cons I8<|
 aq.cons I9<|
 aq.cons Ja<|
 aq.cons Jb<|
 aq.cons Jc<|
 aq.cons Jd<|
 aq.cons Je<|
 aq.cons Jf<|
 aq.cons Jg<|
 aq.cons Jh<|
 aq.cons Ji<|
 aq.cons Jj<|
 aq.cons Jk<|
 aq.cons Jl<|
 aq.cons Jm<|
 aq.cons Jn<|
 aq.cons Jo<|
 aq.cons Jp<|
 aq.cons Jq<|
 aq.cons Jr<|
 aq.cons Js<|
 aq.cons Jt<|
 aq.cons Ju<|
 aq.cons Jv<|
 aq.cons Jw<|
 aq.cons Jx<|
 aq.cons Jy<|
 aq.cons Jz<|
 aq.cons JA<|
 aq.cons JB<|
 aq.cons JC<|
 aq.cons JD<|
 aq.cons JE<|
 aq.cons JF<|
 aq.cons JG<|
 aq.cons JH<|
 aq.cons JI<|
 aq.cons JJ<|
 aq.cons JK<|
 aq.cons JL<|
 aq.cons JM<|
 aq.cons JN<|
 aq.cons JO<|
 aq.cons JP<|
 aq.cons JQ<|
 aq.cons JR<|
 aq.cons JS<|
 aq.cons JT<|
 aq.cons JU<|
 aq.cons JV<|
 aq.cons JW<|
 aq.cons JX<|
 aq.cons JY<|
 aq.cons JZ<|
 aq.cons J0<|
 aq.cons J1<|
 aq.cons J2<|
 aq.cons J3<|
 aq.cons J4<|
 aq.cons J5<|
 aq.cons J6<|
 aq.cons J7<|
 aq.cons J8<|
 aq.cons J9<|
 aq.cons Ka<|
 aq.cons Kb<|
 aq.cons Kc<|
 aq.cons Kd<|
 aq.cons Ke<|
 aq.cons Kf<|
 aq.cons Kg<|
 aq.cons Kh<|
 aq.cons Ki<|
 aq.cons Kj<|
 aq.cons Kk<|
 aq.cons Kl<|
 aq.cons Km<|
 aq.cons Kn<|
 aq.cons Ko<|
 aq.cons Kp<|
 aq.cons Kq<|
 aq.cons Kr<|
 aq.cons Ks<|
 aq.cons Kt<|
 aq.cons Ku<|
 aq.cons Kv<|
 aq.cons Kw<|
 aq.cons Kx<|
 aq.cons Ky<|
 aq.cons Kz<|
 aq.cons KA<|
 aq.cons KC<|
 aq.cons KD<|
 aq.cons KE<|
 aq.cons KF<|
 aq.cons KG<|
 aq.cons KH<|
 aq.cons KI<|
 aq.cons KJ<|
 aq.cons KK<|
 aq.cons KL<|
 aq.cons KM<|
 aq.cons KN<|
 aq.cons KO<|
 aq.cons KP<|
 aq.cons KQ<|
 aq.cons KR<|
 aq.cons KS<|
 aq.cons KT<|aq.nil
section
theorem aC.all {c:Cx} {α:Type} {sv:α→SV} {enc:α→Value} {ok:α→Prop} (hrep:∀ (c:Cx) x v,aG c (sv x) v↔(v=enc x∧ok x)):∀ {zs:List α} {vs:List Value},aC c (zs.map sv) vs↔(vs=zs.map enc∧∀ x∈zs,ok x)
 |[],vs=>by simp[aC]
 |x::zs,vs=>by
  rw[List.map_cons,aC.ba]
  constructor
  ·rintro⟨u,us,h1,h2,rfl⟩
   obtain⟨rfl,h3⟩:=(hrep c x u).1 h1
   obtain⟨rfl,h4⟩:=(aC.all hrep).1 h2
   exact⟨rfl,fun y hy=>by rcases List.mem_cons.1 hy with rfl|hy;exact h3;exact h4 y hy⟩
  ·rintro⟨rfl,h⟩
   exact⟨_,_,(hrep c x _).2 ⟨rfl,h x (List.mem_cons_self ..)⟩,(aC.all hrep).2 ⟨rfl,fun y hy=>h y (List.mem_cons_of_mem _ hy)⟩,rfl⟩
theorem jO:∀ {vs:List Value},(∀ v∈vs,v.oneCell'=true)→cellsOf vs=vs
 |[],_=>rfl
 |v::vs,h=>by rw[dZ,en (h v (List.mem_cons_self ..)),jO (fun u hu=>h u (List.mem_cons_of_mem _ hu))];rfl
section
variable {P:Program} {G:Gl} {α:Type} [Inhabited α]
open Go.Sort
theorem af.F6 (enc:α→Value) (sv:α→SV) (ok:α→Prop) (hrep:∀ (c:Cx) x v,aG c (sv x) v↔(v=enc x∧ok x)) (hone:∀ x,(enc x).oneCell'=true) (le:α→α→Bool) {f:FuncId}
 (hf:∃ fn,P.funcs[f]? =some fn∧(fn.name== "runtime.NumGoroutine")=false∧fn.body.isNone=false)
 (hc:∀ (ee off cap:Nat) (zs:List α) (w:World),Holds enc w ee off zs.toArray→ee<w.heap.size→zs.length<4611686018427387904→Calls P f #[.slice (some ⟨ee,off,none⟩) zs.length cap] w fun e w'=>
  e= .returned (.tuple #[])∧∃ n os,w'=grow (putRow enc (Sort.ahead w n) ee off (zs.mergeSort le).toArray) os)
 (h0:∀ (p:Option Addr) (cap:Nat) (w:World),Calls P f #[.slice p 0 cap] w fun e w'=>e= .returned (.tuple #[])∧w'=w)
 (id g:Nat) (zs:List α) (H:List ax) (hH:H[id]? =some (.cells g 1 (zs.map sv))) (hl:zs.length<4611686018427387904):
 af P G f [.sl id g 0 zs.length] H (fun r H'=>H'=H.set id (.cells g 1 ((zs.mergeSort le).map sv))∧r= .tuple []):=by
 refine⟨hf,fun c vs e1 hh hG hv=>?_⟩
 obtain⟨v,us,hv1,hv2,rfl⟩:=aC.ba.1 hv
 rw[aC.dk.1 hv2]
 have hB:c.H[id]? =some (.cells g 1 (zs.map sv)):=by rw[e1];exact hH
 simp only[aG,hB] at hv1
 have hperm:=List.mergeSort_perm zs le
 have hlen:(zs.mergeSort le).length=zs.length:=hperm.length_eq
 refine(callsIn_wide (n:=0)).2 ?_
 rcases hv1.2 with h|⟨_,h1,a,cap,rfl,h2,h3,h4⟩
 ·omega
 by_cases hz:zs=[]
 ·subst hz
  refine(h0 a cap c.w).mono ?_
  rintro e w' ⟨rfl,rfl⟩
  refine⟨_,.tuple [],c,rfl,rfl,⟨?_,rfl⟩,hh,by simp only[aG];exact⟨[],aC.bX,rfl⟩,Grow.refl c⟩
  rw[e1]
  obtain⟨hlt,he⟩:=List.getElem?_eq_some_iff.1 hH
  have:(List.mergeSort ([]:List α) le).map sv=[]:=by simp
  rw[this]
  conv=>lhs;rw[← List.set_getElem_self hlt]
  rw[he];rfl
 have hpos:0<zs.length:=List.length_pos_iff.2 hz
 rcases h4 with h4|⟨b,o,cs,Ty,fr,h4,h5,h6,h7⟩
 ·omega
 rcases hh.ee id _ hB with⟨h8,_⟩|⟨b',o',cs',Ty',fr',vs',h8,h9,h10,h11,h12,h13⟩
 ·rw[h4] at h8;cases h8
 rw[h4] at h8;cases h8
 rw[h6] at h9;cases h9
 obtain⟨rfl,hok⟩:=(aC.all hrep).1 h11
 have hall1:∀ l:List α,∀ v∈l.map enc,v.oneCell'=true:=fun l v hv=>by obtain⟨x,_,rfl⟩:=List.mem_map.1 hv;exact hone x
 rw[jO (hall1 zs)] at h13
 have hblk:b<c.w.heap.size:=(Array.getElem?_eq_some_iff.1 h6).1
 have hsz:o+zs.length≤cs.size:=by
  have:=eL h6 h13 (by simpa using hpos)
  simpa using this
 have hthere:c.w.there b o zs.length:=fQ h6 h10 hsz
 have hholds:Holds enc c.w b o zs.toArray:=fun j hj=>by
  have hj':j<zs.length:=by simpa using hj
  refine⟨?_,(hthere j hj').2⟩
  have:=h13 j (enc zs[j]) (by simp[hj'])
  rw[this]
  simp[hj']
 rw[show a=some ⟨b,o,none⟩ by rw[h5];simp]
 refine(hc b o cap zs c.w hholds hblk hl).mono ?_
 rintro e w' ⟨rfl,n,os,rfl⟩
 have hother:∀ k,k<c.w.heap.size→k≠b→(grow (putRow enc (Sort.ahead c.w n) b o (zs.mergeSort le).toArray) os).heap[k]? =c.w.heap[k]? :=fun k hk hne=>by
  rw[heap_grow_old _ _ (by simpa using hk)]
  show(Array.modify c.w.heap b _)[k]? =_
  rw[Array.getElem?_modify,if_neg (fun e=>hne e.symm)]
 have hat:(grow (putRow enc (Sort.ahead c.w n) b o (zs.mergeSort le).toArray) os).heap[b]? =some (.cells (putCells enc o (zs.mergeSort le).toArray cs) Ty fr):=by
  rw[heap_grow_old _ _ (by simpa using hblk)]
  show(Array.modify c.w.heap b _)[b]? =_
  rw[Array.getElem?_modify,if_pos rfl,h6]
  rfl
 have hcsz:(putCells enc o (zs.mergeSort le).toArray cs).size=cs.size:=by simp[putCells]
 obtain⟨t1,t2⟩:=Cx.pF hh (w':=grow (putRow enc (Sort.ahead c.w n) b o (zs.mergeSort le).toArray) os) hB rfl (B':= .cells g 1 ((zs.mergeSort le).map sv)) (c.θ id)
  ⟨g,_,rfl,Nat.le_refl _,fun _=>⟨rfl,by simp[hlen]⟩,fun b' o' h'=> .inr ⟨o',h'⟩⟩
  (fun k hk hno=>hother k hk fun e=>hno o (by rw[h4,e])) (by simp) rfl rfl rfl
  (fun b' cs0 T0 fr0 hb'=>by
   by_cases e:b'=b
   ·subst e
    rw[h6] at hb';cases hb'
    exact⟨_,fr,hat,hcsz⟩
   ·exact⟨cs0,fr0,by rw[hother b' (Array.getElem?_eq_some_iff.1 hb').1 e];exact hb',rfl⟩)
  (fun hg=> .inr ⟨b,o,_,Ty,fr,(zs.mergeSort le).map enc,by simp[h4],hat,by unfold fy;rw[hcsz];exact h10,
   (aC.all hrep).2 ⟨rfl,fun x hx=>hok x (hperm.mem_iff.1 hx)⟩,fun u hu=>by
    have:=hall1 _ u hu
    exact⟨by rw[en this];rfl,fm this⟩,by
    rw[jO (hall1 _)]
    intro j v hj
    rw[im hat]
    obtain⟨hj',hje⟩:=List.getElem?_eq_some_iff.1 hj
    simp only[List.length_map] at hj'
    simp only[List.getElem_map] at hje
    simp only[putCells,Array.getElem?_mapIdx]
    rw[Array.getElem?_eq_getElem (by omega)]
    simp only[Option.map_some]
    rw[if_pos (by constructor;omega;simp;omega)]
    rw[← hje]
    simp only[Nat.add_sub_cancel_left,List.getElem!_toArray,List.getElem!_eq_getElem?_getD]
    rw[List.getElem?_eq_getElem hj'];rfl⟩)
 refine⟨_,.tuple [],_,rfl,rfl,⟨?_,rfl⟩,t2,by simp only[aG];exact⟨[],aC.bX,rfl⟩,t1⟩
 rw[← e1]
end
theorem x7 (c:Cx) (s:List UInt8) (v:Value):aG c (.str s) v↔(v= .string ⟨⟨s⟩⟩∧s.length≤maxLen):=by simp only[aG]
end
section
section
variable {P:Program}
theorem run_next_at (w:World) (ty r bm clk:Nat) (seen:Array Nat) (es:Array MapEntry) (hr:w.heap[r]? =some (.mapIter (some bm) clk seen clk)) (hb:w.heap[bm]? =some (.map es clk)) (hold:∀ x∈es.toList,x.born<clk):
 ((∀ e∈es.toList,seen.contains e.born=true)∧(Instr.next (.pointer (some ⟨r,0,none⟩)) false ty).run P w= .ok (.tuple #[.bool false]) w)∨
 ∃ e∈es.toList,seen.contains e.born=false∧∃ w1:World,(w1=w∨w1=w.drew)∧(Instr.next (.pointer (some ⟨r,0,none⟩)) false ty).run P w= .ok (.tuple #[.bool true,e.key,e.val]) (w1.putObj r (.mapIter (some bm) clk (seen.push e.born) clk)):=by
 simp only[Instr.next,getObj,Sem.run_bind,Sem.run,hr,hb,Result.andThen,next_test_false seen es clk clk hold (Nat.le_refl _),Bool.false_eq_true,if_false]
 generalize hL:Array.filter (fun e=>!seen.contains e.born) es=L
 have mem:∀ e,e∈L.toList↔e∈es.toList∧seen.contains e.born=false:=fun e=>by rw[← hL];simp
 have gi:L.filter (fun x=>decide (x.born<clk))=L:=Array.filter_eq_self.2 (fun x hx=>by simpa using hold x ((mem x).1 (by simpa using hx)).1)
 have new:L.filter (fun x=>decide (x.born≥clk))= #[]:=by
  rw[Array.filter_eq_empty_iff]
  intro x hx
  have:=hold x ((mem x).1 (by simpa using hx)).1
  simp;omega
 simp only[gi,new,Array.append_empty]
 by_cases h0:L.size=0
 ·left
  have hLe:L= #[]:=Array.eq_empty_of_size_eq_zero h0
  refine⟨fun e he=>?_,by subst hLe;simp[choose,Sem.run,Question.forced]⟩
  cases hs:seen.contains e.born with
  |true=>rfl
  |false=>have:=(mem e).2 ⟨he,hs⟩;rw[hLe] at this;cases this
 ·right
  have hne:L.isEmpty=false:=by simp[Array.isEmpty,h0]
  simp only[hne,Bool.false_eq_true,if_false,Array.empty_append,Array.size_map]
  obtain⟨j,w1,hj,hw,hrun⟩:∃ (j:Nat) (w1:World),j<L.size∧(w1=w∨w1=w.drew)∧(choose (Question.mapNext L.size)).run P w= .ok j w1:=by
   by_cases hf:L.size≤1
   ·exact⟨0,w,by omega,.inl rfl,by simp[choose,Sem.run,Question.forced,hf]⟩
   ·exact⟨_,w.drew,Nat.mod_lt _ (by omega),.inr rfl,by
     simp only[choose,Sem.run,Question.forced,decide_eq_true_eq,hf,if_false,Question.cut]
     rfl⟩
  have hheap:w1.heap=w.heap:=by rcases hw with rfl|rfl<;>rfl
  obtain⟨m1,m2⟩:=(mem L[j]).1 (by simp)
  refine⟨L[j],m1,m2,w1,hw,?_⟩
  have hset:∀ o':Obj,(setObj r o').run P w1= .ok () (w1.putObj r o'):=fun o'=>by
   have:w1.heap[r]? =some (.mapIter (some bm) clk seen clk):=by rw[hheap];exact hr
   simp only[setObj,Sem.run,this]
   rfl
  simp only[hrun,Array.getElem?_map,Array.getElem?_eq_getElem hj,Option.map_some,Sem.run_bind,hset,Result.andThen]
  rfl
theorem run_entry_at (w:World) (r bm clk:Nat) (seen:Array Nat) (es:Array MapEntry) (e:MapEntry) (hr:w.heap[r]? =some (.mapIter (some bm) clk (seen.push e.born) clk)) (hb:w.heap[bm]? =some (.map es clk)) (he:e∈es.toList) (hn:(es.toList.map (·.born)).Nodup):
 (Instr.entry (.pointer (some ⟨r,0,none⟩))).run P w= .ok (.tuple #[e.key,e.val]) w:=by
 have hf:es.find? (·.born==e.born)=some e:=by rw[← Array.find?_toList];exact find_born e es.toList hn he
 simp only[Instr.entry,getObj,Sem.run_bind,Sem.run,hr,hb,Result.andThen,Array.back?_push,bne_self_eq_false,Bool.false_eq_true,if_false,hf]
 rfl
theorem vF (w:World) (t k e:TypeId) (bm clk:Nat) (es:Array MapEntry) (ht:P.underlying t=some (.map k e)) (hb:w.heap[bm]? =some (.map es clk)):
 (Instr.range t (.map (some bm))).run P w= .ok (.pointer (some ⟨w.heap.size,0,none⟩)) (w.alloc (.mapIter (some bm) clk #[] clk)):=run_range_map w t k e bm es clk ht hb
end
section
variable {P:Program} {G:Gl} {T:aT} {own:List Nat} {nt B:Nat} {ρ:Option Nat} {C:Cx} {rs:List ResultVar} {R:SV→List ax→Prop} {env env2:Env} {H H':List ax} {k:List It}
variable {all r:List Oper} {ty d j dj:Nat} {op:Op} {pos:String} {after:Array Edge} {v:SV}
theorem aG.oG {θ:Nat→Option (Nat×Nat)} {H:List ax} {w:World} {io:Nat} {kd:Option IntKind} {es:List (SV×SV)} (hm:H[io]? =some (.map kd es)):
 (∀ x v,aG ⟨θ,H,w⟩ x v→aG ⟨θ,H.set io .dead,w⟩ x v)∧(∀ xs vs,aC ⟨θ,H,w⟩ xs vs→aC ⟨θ,H.set io .dead,w⟩ xs vs):=by
 have hlt:=(List.getElem?_eq_some_iff.1 hm).1
 have himm:∀ b,Cx.oc ⟨θ,H,w⟩ b→Cx.oc ⟨θ,H.set io .dead,w⟩ b:=fun b ⟨h1,h2⟩=>⟨h1,fun⟨id,o,⟨B,hB,hl⟩,ht⟩=>h2 ⟨id,o,⟨B,by
  have hB':(H.set io .dead)[id]? =some B:=hB
  rw[List.getElem?_set] at hB'
  split at hB'
  ·cases hB';cases hl
  ·exact hB',hl⟩,ht⟩⟩
 have hget:∀ id:Nat,(H.set io .dead)[id]? =if io=id then some .dead else H[id]? :=fun id=>by
  rw[List.getElem?_set]
  by_cases e:io=id
  ·rw[if_pos e,if_pos e,if_pos (e ▸ hlt)]
  ·rw[if_neg e,if_neg e]
 apply SV.both
 ·intro x h1 h2 h3 h4 h5 h6 v h
  cases x with
  |agg fs=>exact absurd rfl (h1 fs)
  |list n xs=>exact absurd rfl (h2 n xs)
  |kC y=>exact absurd rfl (h3 y)
  |fn f a b=>exact absurd rfl (h4 f a b)
  |tuple xs=>exact absurd rfl (h5 xs)
  |fe b clk born kd ks vs=>exact absurd rfl (h6 b clk born kd ks vs)
  |ptr id g i off=>
   simp only[aG,hget] at h ⊢
   by_cases e:io=id
   ·simp only[if_pos e];exact⟨h.1,trivial⟩
   ·simp only[if_neg e];exact h
  |sl id g off len=>
   simp only[aG,hget] at h ⊢
   by_cases e:io=id
   ·simp only[if_pos e];exact⟨h.1,trivial⟩
   ·simp only[if_neg e];exact h
  |map id=>
   simp only[aG,hget] at h ⊢
   by_cases e:io=id
   ·simp only[if_pos e];exact⟨h.1,trivial⟩
   ·simp only[if_neg e];exact h
  |it id=>
   simp only[aG,hget] at h ⊢
   by_cases e:io=id
   ·simp only[if_pos e];exact⟨h.1,trivial⟩
   ·simp only[if_neg e];exact h
  |_=>exact h
 ·intro fs ih v h
  simp only[aG] at h ⊢
  obtain⟨vs,h1,h2⟩:=h
  exact⟨vs,ih vs h1,h2⟩
 ·intro sz xs ih v h
  simp only[aG] at h ⊢
  obtain⟨a,cap,h0,h1,h2,h3⟩:=h
  refine⟨a,cap,h0,h1,h2,?_⟩
  rcases h3 with h3|⟨b,o,vs,h3,h4,h5,h6,h7⟩
  ·exact .inl h3
  ·exact .inr ⟨b,o,vs,h3,ih vs h4,h5,h6,himm b h7⟩
 ·intro x ih v h
  simp only[aG] at h ⊢
  obtain⟨b,o,u,h0,h1,h2,h3,h4⟩:=h
  exact⟨b,o,u,h0,ih u h1,h2,h3,himm b h4⟩
 ·intro f xs ys ih1 ih2 v h
  simp only[aG] at h ⊢
  obtain⟨us,vs,h0,h1,h2⟩:=h
  exact⟨us,vs,ih1 us h0,ih2 vs h1,h2⟩
 ·intro xs ih v h
  simp only[aG] at h ⊢
  obtain⟨vs,h0,h1⟩:=h
  exact⟨vs,ih vs h0,h1⟩
 ·intro b clk born kd ks vs ih1 ih2 v h
  simp only[aG] at h ⊢
  obtain⟨h0,h1,ents,h2,h3,h4,h5,h6,h7⟩:=h
  exact⟨h0,himm b h1,ents,h2,h3,h4,ih1 _ h5,ih2 _ h6,h7⟩
 ·intro vs h;simpa [aC] using h
 ·intro x xs ih1 ih2 vs h
  obtain⟨u,us,h1,h2,h3⟩:=aC.ba.1 h
  exact aC.ba.2 ⟨u,us,ih1 u h1,ih2 us h2,h3⟩
theorem ck.lists {c:Cx}:∀ {es:List (SV×SV)} {l:List MapEntry},ck c es l→aC c (es.map Prod.fst) (l.map (·.key))∧aC c (es.map Prod.snd) (l.map (·.val))
 |[],l,h=>by simp only[ck] at h;subst h;exact⟨aC.bX,aC.bX⟩
 |(q,x)::es,l,h=>by
  simp only[ck] at h
  obtain⟨e,es',h1,h2,h3,rfl⟩:=h
  obtain⟨a,b⟩:=ck.lists h3
  exact⟨aC.bB h1 a,aC.bB h2 b⟩
theorem ck.mono {c c':Cx} (hr:∀ x v,aG c x v→aG c' x v):∀ {es:List (SV×SV)} {l:List MapEntry},ck c es l→ck c' es l
 |[],l,h=>by simpa [ck] using h
 |(q,x)::es,l,h=>by
  simp only[ck] at h ⊢
  obtain⟨e,es',h1,h2,h3,h4⟩:=h
  exact⟨e,es',hr _ _ h1,hr _ _ h2,ck.mono hr h3,h4⟩
theorem Cx.kill {θ:Nat→Option (Nat×Nat)} {H:List ax} {w:World} {io:Nat} {kd:Option IntKind} {es:List (SV×SV)} (hm:H[io]? =some (.map kd es)) (hc:aO ⟨θ,H,w⟩) (hC:C.H.length≤io):
 aO ⟨θ,H.set io .dead,w⟩∧(∀ C0:Cx,C0.H.length≤io→Grow C0 ⟨θ,H,w⟩→Grow C0 ⟨θ,H.set io .dead,w⟩)∧
 ∃ b clk born,θ io=some (b,0)∧born.length=es.length∧born.Nodup∧aG ⟨θ,H.set io .dead,w⟩ (.fe b clk born kd (es.map Prod.fst) (es.map Prod.snd)) (.map (some b)):=by
 have hlt:=(List.getElem?_eq_some_iff.1 hm).1
 have hget:∀ (id:Nat) (B:ax),(H.set io .dead)[id]? =some B→B= .dead∨(id≠io∧H[id]? =some B):=fun id B hB=>by
  rw[List.getElem?_set] at hB
  split at hB
  ·cases hB;exact .inl rfl
  ·rename_i h;exact .inr ⟨fun e=>h e.symm,hB⟩
 obtain⟨rk,rkl⟩:=aG.oG (θ:=θ) (w:=w) hm
 refine⟨⟨fun id B hB=>?_,fun i j b o o' ⟨Bi,h1,h2⟩ ⟨Bj,h3,h4⟩ h5 h6=>?_⟩,fun C0 h0 hg=>?_,?_⟩
 ·rcases hget id B hB with rfl|⟨_,hB⟩
  ·trivial
  ·have hb:=hc.ee id B hB
   cases B with
   |dead=>trivial
   |obj o=>exact hb
   |cells g sz vals=>
    rcases hb with hb|⟨b,o,cs,T,fr,vs,h1,h2,h3,h4,h5,h6⟩
    ·exact .inl hb
    ·exact .inr ⟨b,o,cs,T,fr,vs,h1,h2,h3,rkl _ _ h4,h5,h6⟩
   |map kd es=>
    obtain⟨b,ents,clk,h1,h2,h3,h4⟩:=hb
    exact⟨b,ents,clk,h1,h2,ck.mono rk h3,h4⟩
 ·rcases hget i Bi h1 with rfl|⟨_,h1⟩
  ·cases h2
  ·rcases hget j Bj h3 with rfl|⟨_,h3⟩
   ·cases h4
   ·exact hc.inj i j b o o' ⟨Bi,h1,h2⟩ ⟨Bj,h3,h4⟩ h5 h6
 ·refine⟨hg.os,hg.tape,hg.output,hg.size,hg.gi,hg.shape,fun id B hB=>?_,fun id b o hn hl ht=>?_⟩
  ·obtain⟨B',h1,h2⟩:=hg.ids id B hB
   have hid:id<C0.H.length:=(List.getElem?_eq_some_iff.1 hB).1
   exact⟨B',by show(H.set io .dead)[id]? =_;rw[List.getElem?_set_ne (by omega)];exact h1,h2⟩
  ·obtain⟨B,h1,h2⟩:=hl
   rcases hget id B h1 with rfl|⟨_,h1⟩
   ·cases h2
   ·exact hg.new id b o hn ⟨B,h1,h2⟩ ht
 ·obtain⟨b,ents,clk,h1,h2,h3,h4,h5⟩:=hc.ee io _ hm
  obtain⟨l1,l2⟩:=(ck.mono rk h3).lists
  refine⟨b,clk,ents.toList.map (·.born),h1,?_,h5.2.1,?_⟩
  ·have:=l1.length;simp only[List.length_map] at this ⊢;exact this.symm ▸ rfl
  ·simp only[aG]
   refine⟨trivial,⟨(Array.getElem?_eq_some_iff.1 h2).1,fun⟨id,o,⟨B,hB,hl⟩,ht⟩=>?_⟩,ents,h2,h5,rfl,l1,l2,fun x hx=>?_⟩
   ·rcases hget id B hB with rfl|⟨hne,hB⟩
    ·cases hl
    ·exact hne (hc.inj id io b o 0 ⟨B,hB,hl⟩ ⟨_,hm,rfl⟩ ht h1)
   ·obtain⟨p,hp,rfl⟩:=List.mem_map.1 hx
    exact h4 p hp
theorem Hu {c0:Code} {t io:Nat} {kd:Option IntKind} {es:List (SV×SV)} (hm:H[io]? =some (.map kd es)) (hC:C.H.length≤io) (hB:eS G C.H.length) (ht:look env t=some (.map io))
 (h:∀ b clk born,born.length=es.length→born.Nodup→(Out P G T own nt ρ C rs R) (.code c0::k) .normal ((t,.fe b clk born kd (es.map Prod.fst) (es.map Prod.snd))::env) (H.set io .dead)):(Out P G T own nt ρ C rs R) (.code c0::k) .normal env H:=by
 rintro⟨θ,Hc,w⟩ a hc hi hg
 simp only at hc
 subst hc
 obtain⟨k1,k2,b,clk,born,k3,k4,k5,k6⟩:=Cx.kill (C:=C) hm hi.heap hC
 refine h b clk born k4 k5 ⟨θ,Hc.set io .dead,w⟩ a rfl ⟨k1,⟨fun p hp=>(aG.oG hm).1 _ _ (hi.gn.1 p hp),fun C0 h0=>k2 C0 (Nat.le_trans (hB C0 h0) hC) (hi.gn.2 C0 h0)⟩,hi.size,fun t' x hx=>?_,?_⟩ (k2 C hC hg)
 ·simp only[look] at hx
  split at hx
  ·rename_i e
   cases hx
   subst e
   have hv:=hi.env t' _ ht
   simp only[aG,hm] at hv
   obtain⟨_,b',e1,e2⟩:=hv
   rw[k3] at e1
   cases e1
   rw[e2];exact k6
  ·exact(aG.oG hm).1 _ _ (hi.env t' x hx)
 ·refine⟨fun d hd=>?_,hi.gm.2⟩
  obtain⟨r,q1,q2,q3,q4⟩:=hi.gm.1 d hd
  refine⟨r,q1,q2,⟨q3.1,fun⟨id,o,⟨B,hB',hl⟩,ht'⟩=>q3.2 ⟨id,o,⟨B,?_,hl⟩,ht'⟩⟩,q4⟩
  have hB2:(Hc.set io .dead)[id]? =some B:=hB'
  rw[List.getElem?_set] at hB2
  split at hB2
  ·split at hB2
   ·cases hB2;cases hl
   ·cases hB2
  ·exact hB2
theorem xo {c0:Code} {t id g off len sz:Nat} {vals:List SV} (hb:H[id]? =some (.cells g sz vals)) (ht:look env t=some (.sl id g off len)) (hl:off+len≤vals.length)
 (h:(Out P G T own nt ρ C rs R) (.code c0::k) .normal ((t,.sl id (g+1) off len)::env) (H.set id (.cells (g+1) sz (vals.take (off+len))))):(Out P G T own nt ρ C rs R) (.code c0::k) .normal env H:=by
 rintro⟨θ,Hc,w⟩ a hc hi hg
 simp only at hc
 subst hc
 have hlt:=(List.getElem?_eq_some_iff.1 hb).1
 have hv:=hi.env t _ ht
 simp only[aG,hb] at hv
 obtain⟨hone,hv⟩:=hv
 rcases hv with hv|⟨_,_,a0,cap,e1,e2,e3,e4⟩
 ·exact absurd hv (Nat.lt_irrefl _)
 obtain⟨g1,g2⟩:=Cx.pF (c:=⟨θ,Hc,w⟩) (w':=w) hi.heap hb rfl (B':= .cells (g+1) sz (vals.take (off+len))) (θ id)
  ⟨g+1,_,rfl,Nat.le_succ _,fun e=>absurd e (Nat.ne_of_lt (Nat.lt_succ_self _)),fun b o hb=> .inr ⟨o,hb⟩⟩ (fun _ _ _=>rfl) (Nat.le_refl _) rfl rfl rfl (fun b cs T fr h=>⟨cs,fr,h,rfl⟩)
  (fun g1=>by
   rcases hi.heap.ee id _ hb with⟨h1,rfl⟩|⟨b0,o0,cs,Ty,fr,vs,h1,h2,h3,h4,h5,h6⟩
   ·exact .inl ⟨by simpa using h1,by simp⟩
   ·exact .inr ⟨b0,o0,cs,Ty,fr,vs.take (off+len),by simpa using h1,h2,h3,((h4.take _).grow g1),fun u hu=>h5 u (List.mem_of_mem_take hu),gy h6 _⟩)
 refine h { θ:=fun i=>if i=id then θ id else θ i,H:=Hc.set id (.cells (g+1) sz (vals.take (off+len))),w:=w} a rfl ⟨g2,hi.gn.grow g1,hi.size,fun t' x hx=>?_,hi.gm.grow g1⟩ (hg.trans g1)
 simp only[look] at hx
 split at hx
 ·rename_i e
  cases hx
  subst e
  simp only[aG,List.getElem?_set_self hlt]
  refine⟨hone,.inr ⟨trivial,by rw[List.length_take];omega,a0,cap,e1,e2,e3,?_⟩⟩
  rcases e4 with⟨h1,h2⟩|⟨b,o,cs,T',fr,h1,h2,h3,h4⟩
  ·refine .inl ⟨h1,h2.elim .inl fun h=> .inr ?_⟩
   rw[List.length_take];omega
  ·exact .inr ⟨b,o,cs,T',fr,by simpa using h1,h2,h3,h4⟩
 ·exact(hi.env t' x hx).grow g1
theorem Bm (t sz:Nat) {c0:Code} (ht:look env t=some .nil) (h:(Out P G T own nt ρ C rs R) (.code c0::k) .normal ((t,.sl H.length 0 0 0)::env) (H++[.cells 0 sz []])):(Out P G T own nt ρ C rs R) (.code c0::k) .normal env H:=by
 intro c a hc hi hg
 obtain⟨g1,g2⟩:=Cx.fresh hi.heap (w':=c.w) c.w.heap.size (Nat.le_refl _) 0 none (.inl rfl) (.cells 0 sz []) (fun _ _=>rfl) (Nat.le_refl _) rfl rfl rfl (fun _=> .inl ⟨by simp,rfl⟩)
 generalize hc2:(⟨fun i=>if i=c.H.length then none else c.θ i,c.H++[.cells 0 sz []],c.w⟩:Cx)=c2 at g1 g2
 have hH:c2.H=H++[.cells 0 sz []]:=by rw[← hc2];show c.H++_=_;rw[hc]
 have hw:c2.w=c.w:=by rw[← hc2]
 rw[← hw]
 refine h c2 a hH ⟨g2,hi.gn.grow g1,hi.size,fun t' x hx=>?_,hi.gm.grow g1⟩ (hg.trans g1)
 simp only[look] at hx
 split at hx
 ·rename_i e
  cases hx
  subst e
  have hv:=hi.env t' _ ht
  simp only[aG] at hv
  rw[hv]
  simp only[aG,hH]
  refine⟨rfl,?_⟩
  simp only[List.getElem?_append_right (Nat.le_refl _),Nat.sub_self,List.getElem?_cons_zero]
  exact .inr ⟨trivial,Nat.le_refl _,none,0,rfl,Nat.le_refl _,Nat.zero_le _,.inl ⟨rfl,.inr (Nat.le_refl _)⟩⟩
 ·exact(hi.env t' x hx).grow g1
theorem Dg {x:Operand} {t bm clk:Nat} {born:List Nat} {kd:Option IntKind} {ks vs:List SV} {ti:TI} (h1:ev G env x=some (.fe bm clk born kd ks vs)) (h2:dB T t=some (kd,ti)) (hd:Nat.blt d nt=true)
 (hk:(Out P G T own nt ρ C rs R) (.ops all r::k) .normal ((d,.it H.length)::env) (H++[.obj (.mapIter (some bm) clk #[] clk)])):(Out P G T own nt ρ C rs R) (.ops all (⟨some d,.range t x,ty,pos,after,none⟩::r)::k) .normal env H:=by
 refine OW.law (R0:=fun y H'=>y= .it H.length∧H'=H++[.obj (.mapIter (some bm) clk #[] clk)]) rfl rfl hd (fun hT c a o' hs hc hi hg next Q hn=>?_) (fun y H' hy=>by obtain⟨rfl,rfl⟩:=hy;exact hk)
 have hv:=bP hi h1
 simp only[aG] at hv
 obtain⟨e1,e2,ents,e3,_⟩:=hv
 have hu:∃ kk e,P.underlying t=some (.map kk e):=by
  unfold dB at h2
  split at h2
  ·rename_i q;exact⟨_,_,(hT _ _ q).1⟩
  ·cases h2
 obtain⟨kk,e,hu⟩:=hu
 obtain⟨g1,g2⟩:=Cx.fresh hi.heap (w':=c.w.alloc (.mapIter (some bm) clk #[] clk)) c.w.heap.size (Nat.le_refl _) 0 (some (c.w.heap.size,0)) (.inr rfl) (.obj (.mapIter (some bm) clk #[] clk)) (fun b hb=>Go.RowKit.Below.heap_alloc _ _ b hb) (by simp) rfl rfl rfl
  (fun _=>⟨c.w.heap.size,by simp,World.alloc_heap_new _ _,fun ds e=>by cases e⟩)
 obtain⟨s1,s2,s3⟩:=hs
 refine ez (u:= .pointer (some ⟨c.w.heap.size,0,none⟩)) (w':=c.w.alloc (.mapIter (some bm) clk #[] clk)) (by rw[s2];intro _ e;cases e) ?_ ?_
 ·simp[execOp,s2,e1,vF c.w t kk e bm clk ents hu e3]
 ·rw[s1]
  have:=hn (.it c.H.length) _ (.pointer (some ⟨c.w.heap.size,0,none⟩)) (by rw[hc];exact⟨rfl,rfl⟩) g2 (by
   simp only[aG]
   refine⟨rfl,?_⟩
   simp only[List.getElem?_append_right (Nat.le_refl _),Nat.sub_self,List.getElem?_cons_zero]
   exact⟨c.w.heap.size,by simp,rfl⟩) g1
  exact this
theorem aC.at {c:Cx} {α:Type} {f:α→Value}:∀ {xs:List SV} {l:List α},aC c xs (l.map f)→∀ {i:Nat} {e:α},l[i]? =some e→∃ x,xs[i]? =some x∧aG c x (f e)
 |[],l,h,i,e,he=>by
  have:=aC.dk.1 h
  rw[List.map_eq_nil_iff] at this
  subst this;cases he
 |x::xs,l,h,i,e,he=>by
  cases l with
  |nil=>cases he
  |cons y l=>
   obtain⟨u,us,h1,h2,h3⟩:=aC.ba.1 h
   rw[List.map_cons,List.cons.injEq] at h3
   obtain⟨rfl,rfl⟩:=h3
   cases i with
   |zero=>cases he;exact⟨x,rfl,h1⟩
   |succ i=>exact aC.at h2 (i:=i) he
theorem Fz {x:Operand} {tm iid bm clk:Nat} {seen:Array Nat} {born:List Nat} {kd:Option IntKind} {ks vs:List SV} (h1:ev G env x=some (.it iid)) (h2:look env tm=some (.fe bm clk born kd ks vs)) (h3:H[iid]? =some (.obj (.mapIter (some bm) clk seen clk))) (hd:Nat.blt d nt=true)
 (hk0:(∀ b∈born,seen.contains b=true)→(Out P G T own nt ρ C rs R) (.ops all r::k) .normal ((d,.tuple [.bool false])::env) H)
 (hk1:∀ (i b:Nat) (q y:SV),born[i]? =some b→seen.contains b=false→ks[i]? =some q→vs[i]? =some y→(Out P G T own nt ρ C rs R) (.ops all r::k) .normal ((d,.tuple [.bool true,q,y])::env) (H.set iid (.obj (.mapIter (some bm) clk (seen.push b) clk)))):
 (Out P G T own nt ρ C rs R) (.ops all (⟨some d,.next x false,ty,pos,after,none⟩::r)::k) .normal env H:=by
 refine OW.law (R0:=fun z H'=>((∀ b∈born,seen.contains b=true)∧z= .tuple [.bool false]∧H'=H)∨∃ (i b:Nat) (q y:SV),born[i]? =some b∧seen.contains b=false∧ks[i]? =some q∧vs[i]? =some y∧z= .tuple [.bool true,q,y]∧H'=H.set iid (.obj (.mapIter (some bm) clk (seen.push b) clk)))
  rfl rfl hd (fun hT c a o' hs hc hi hg next Q hn=>?_) (fun z H' hz=>by
   rcases hz with⟨q1,rfl,rfl⟩|⟨i,b,q,y,q1,q2,q3,q4,rfl,rfl⟩
   ·exact hk0 q1
   ·exact hk1 i b q y q1 q2 q3 q4)
 have hv:=bP hi h1
 have hm:=hi.env tm _ h2
 rw[← hc] at h3
 simp only[aG,h3] at hv
 obtain⟨_,rb,r1,r2⟩:=hv
 simp only[aG] at hm
 obtain⟨_,m1,ents,m2,m3,m4,m5,m6,m7⟩:=hm
 obtain⟨b',q1,q2⟩:=oM hi.heap h3
 rw[r1] at q1;cases q1
 obtain⟨s1,s2,s3⟩:=hs
 have r2':a.eval x= .pointer (some ⟨rb,0,none⟩):=r2
 rcases run_next_at (P:=P) c.w o'.type rb bm clk seen ents q2 m2 m3.1 with⟨n1,n2⟩|⟨e,n1,n2,w1,n3,n4⟩
 ·refine ez (u:= .tuple #[.bool false]) (w':=c.w) (by rw[s2];intro _ e;cases e) ?_ ?_
  ·simp[execOp,s2,r2',n2]
  ·rw[s1]
   exact hn (.tuple [.bool false]) c _ (.inl ⟨fun b hb=>by
    rw[← m4] at hb
    obtain⟨e,he,rfl⟩:=List.mem_map.1 hb
    exact n1 e he,rfl,hc⟩) hi.heap (by simp only[aG];exact⟨[.bool false],aC.bB (bj c false) aC.bX,rfl⟩) (Grow.refl c)
 ·obtain⟨i,hi'⟩:=List.getElem?_of_mem n1
  obtain⟨y1,y2,y3⟩:=aC.at m5 hi'
  obtain⟨z1,z2,z3⟩:=aC.at m6 hi'
  have hb:born[i]? =some e.born:=by rw[← m4,List.getElem?_map,hi'];rfl
  obtain⟨c1,hc1,hg1,hh1⟩:∃ c1:Cx,c1={ c with w:=w1}∧Grow c c1∧aO c1:=by
   have:=Cx.world hi.heap (w':=w1) (fun b _=>by rcases n3 with rfl|rfl<;>rfl) (by rcases n3 with rfl|rfl<;>exact Nat.le_refl _) (by rcases n3 with rfl|rfl<;>rfl) (by rcases n3 with rfl|rfl<;>rfl) (by rcases n3 with rfl|rfl<;>rfl)
   exact⟨_,rfl,this.1,this.2⟩
  obtain⟨c2,g1,g2,g3,g4⟩:=nL (o:= .mapIter (some bm) clk seen clk) (o':= .mapIter (some bm) clk (seen.push e.born) clk) hh1 (id:=iid) (b:=rb) (by rw[hc1];exact h3) (by rw[hc1];exact r1) rfl (fun _ _ _ e=>by cases e) (fun _ e=>by cases e)
  refine ez (u:= .tuple #[.bool true,e.key,e.val]) (w':=w1.putObj rb (.mapIter (some bm) clk (seen.push e.born) clk)) (by rw[s2];intro _ e;cases e) ?_ ?_
  ·simp[execOp,s2,r2',n4]
  ·rw[s1]
   have:=hn (.tuple [.bool true,y1,z1]) c2 (.tuple #[.bool true,e.key,e.val]) (.inr ⟨i,e.born,y1,z1,hb,n2,y2,z2,rfl,by rw[g1,hc1];show c.H.set _ _=_;rw[hc]⟩) g4 (by
    simp only[aG]
    exact⟨[.bool true,e.key,e.val],aC.bB (bj c2 true) (aC.bB (y3.grow (hg1.trans g3)) (aC.bB (z3.grow (hg1.trans g3)) aC.bX)),rfl⟩) (hg1.trans g3)
   rw[g2,hc1] at this
   exact this
theorem Db {x:Operand} {tm iid bm clk i b:Nat} {seen:Array Nat} {born:List Nat} {kd:Option IntKind} {ks vs:List SV} {q y:SV} (h1:ev G env x=some (.it iid)) (h2:look env tm=some (.fe bm clk born kd ks vs)) (h3:H[iid]? =some (.obj (.mapIter (some bm) clk (seen.push b) clk)))
 (hb:born[i]? =some b) (hq:ks[i]? =some q) (hy:vs[i]? =some y) (hd:Nat.blt d nt=true)
 (hk:(Out P G T own nt ρ C rs R) (.ops all r::k) .normal ((d,.tuple [q,y])::env) H):
 (Out P G T own nt ρ C rs R) (.ops all (⟨some d,.entry x,ty,pos,after,none⟩::r)::k) .normal env H:=by
 refine OW.law (R0:=fun z H'=>z= .tuple [q,y]∧H'=H) rfl rfl hd (fun hT c a o' hs hc hi hg next Q hn=>?_) (fun z H' hz=>by obtain⟨rfl,rfl⟩:=hz;exact hk)
 have hv:=bP hi h1
 have hm:=hi.env tm _ h2
 rw[← hc] at h3
 simp only[aG,h3] at hv
 obtain⟨_,rb,r1,r2⟩:=hv
 simp only[aG] at hm
 obtain⟨_,m1,ents,m2,m3,m4,m5,m6,m7⟩:=hm
 obtain⟨b',q1,q2⟩:=oM hi.heap h3
 rw[r1] at q1;cases q1
 obtain⟨s1,s2,s3⟩:=hs
 have r2':a.eval x= .pointer (some ⟨rb,0,none⟩):=r2
 rw[← m4,List.getElem?_map] at hb
 obtain⟨e,he,rfl⟩:=Option.map_eq_some_iff.1 hb
 obtain⟨y1,y2,y3⟩:=aC.at m5 he
 obtain⟨z1,z2,z3⟩:=aC.at m6 he
 rw[hq] at y2;cases y2
 rw[hy] at z2;cases z2
 refine ez (u:= .tuple #[e.key,e.val]) (w':=c.w) (by rw[s2];intro _ e;cases e) ?_ ?_
 ·simp[execOp,s2,r2',run_entry_at (P:=P) c.w rb bm clk seen ents e q2 m2 (List.mem_of_getElem? he) m3.2.1]
 ·rw[s1]
  exact hn (.tuple [q,y]) c _ ⟨rfl,hc⟩ hi.heap (by simp only[aG];exact⟨[e.key,e.val],aC.bB y3 (aC.bB z3 aC.bX),rfl⟩) (Grow.refl c)
end
end
section
open Go Go.ChangeShapes Go.WideShapes Go.RowKit
def x5 (W:World):Cx:=⟨fun _=>none,[],W⟩
theorem AO {W:World} {b:Nat} (h:b<W.heap.size):(x5 W).oc b:=⟨h,fun⟨_,_,_,ht⟩=>by cases ht⟩
theorem H5 (W:World):aO (x5 W):=⟨fun id B h=>by simp[x5] at h,fun i j b o o' _ _ h=>by cases h⟩
section
variable {H:Type} {enc:TypeId×Value→H} {P:Program} {W:World} {sp:Nat→Bool}
def Good (W:World) (xs:List SV) (cs:List Value):Prop:=aC (x5 W) xs cs∧∀ v∈cs,v.oneCell'=true
def Rd (enc:TypeId×Value→H) (P:Program) (W:World) (sp:Nat→Bool) (n:Nat) (t:TypeId) {α:Type} (f:α→List SV) (wt:α→Nat):Prop:=
 ∀ cs x,DataW.trod enc P W 0 sp true n t cs=some x→∃ a:α,Good W (f a) cs∧cs.length=P.cellsOf t∧wt a≤Rows.uptoBulk x.1
theorem Good.nil:Good W [] []:=⟨aC.bX,by simp⟩
theorem Good.append {xs ys:List SV} {cs ds:List Value} (h:Good W xs cs) (h':Good W ys ds):Good W (xs++ys) (cs++ds):=
 ⟨h.1.append h'.1,fun v hv=>(List.mem_append.1 hv).elim (h.2 v) (h'.2 v)⟩
theorem Good.cut {xs ys:List SV} {cs:List Value} {o k:Nat} (h:Good W xs ((cs.drop o).take k)) (h':Good W ys (cs.drop (o+k))):Good W (xs++ys) (cs.drop o):=by
 have:=h.append h'
 rwa[← List.drop_drop,List.take_append_drop] at this
theorem Good.one {x:SV} {v:Value} (h:aG (x5 W) x v) (hv:v.oneCell'=true):Good W [x] [v]:=
 ⟨by simp only[aC];exact⟨v,[],h,rfl,rfl⟩,by simpa using hv⟩
theorem Ey {k:IntKind} {n:Int} (h:(Lit.int k n).wf=true):k.min≤n∧n≤k.max:=by
 simpa [Lit.wf] using h
theorem H6 {n:Nat} {t:TypeId} {k:IntKind} (ht:P.underlying t=some (.int k)) (hc:P.cellsOf t=1):Rd enc P W sp n t (fun i:Int=>[.int k i]) (fun _=>1):=by
 intro cs x h
 obtain⟨i,rfl,rfl,hw⟩:=DataW.trod_int ht h
 exact⟨i,.one (by simp only[aG];exact⟨trivial,Ey hw⟩) rfl,by simp[hc],by simp[Rows.uptoBulk]⟩
theorem H7 {n:Nat} {t:TypeId} (ht:P.underlying t=some .string) (hc:P.cellsOf t=1):Rd enc P W sp n t (fun s:aE=>[.str s]) (fun s=>s.length+1):=by
 intro cs x h
 obtain⟨i,rfl,rfl,hs⟩:=DataW.trod_string ht h
 exact⟨i.data.toList,.one (by simp only[aG];exact⟨trivial,by simpa using hs⟩) rfl,by simp[hc],by simp[Rows.uptoBulk]⟩
theorem oY {a:Addr} {n:Nat} {cs:List Value} (hn:0<n) (h:W.cells? 0 a n=some cs):a.spot=none∧cs.length=n∧W.rangeAt a.block a.off cs∧a.block<W.heap.size:=by
 obtain⟨_,hl,hc⟩:=World.cells?_some h
 have h0:=hc 0 hn
 obtain⟨c0,e0⟩:∃ c0,cs[0]? =some c0:=⟨cs[0],by simp[hl,hn]⟩
 rw[e0] at h0
 have hs:a.spot=none:=by simpa [Addr.add] using World.cell?_spot h0
 obtain⟨b,o,s⟩:=a
 cases hs
 refine⟨rfl,hl,fun j v hv=>?_,?_⟩
 ·have hj:j<n:=by
   rcases Nat.lt_or_ge j n with h1|h1
   ·exact h1
   ·rw[List.getElem?_eq_none (by omega)] at hv;cases hv
  have:=hc j hj
  rwa[Addr.add_mid,hv] at this
 ·have h1:W.cell? ⟨b,o,none⟩=some c0:=by simpa [Addr.add] using h0
  have:W.heap[b]? ≠none:=fun e=>by simp[World.cell?,e] at h1
  simpa using this
def bx (b:Bool) (x:List SV):SV:=if b then .agg x else x.headD .nil
def Hk (b:Bool) (v:List Value):Value:=if b then .agg v.toArray else v.headD (.bool false)
theorem Hj {b:Bool} {xs:List SV} {cs:List Value} {n:Nat} (h:Good W xs cs) (hl:cs.length=n) (hb:b=true∨n=1):aG (x5 W) (bx b xs) (Hk b cs)∧(Hk b cs).cells.toList=cs:=by
 cases b with
 |true=>exact⟨by simp only[bx,Hk,aG,if_true];exact⟨cs,h.1,h.2,rfl⟩,by simp[Hk,Value.cells]⟩
 |false=>
  have hn:n=1:=by simpa using hb
  subst hn
  match cs,hl with
  |[v],_=>
   obtain⟨h1,h2⟩:=h
   match xs,h1 with
   |[],h1=>simp[aC] at h1
   |x::xs,h1=>
    simp only[aC] at h1
    obtain⟨u,us,h3,_,h4⟩:=h1
    cases h4
    have hv:v.oneCell'=true:=h2 v (by simp)
    exact⟨h3,by cases v<;>simp_all [Hk,Value.cells,Value.oneCell']⟩
theorem pw {α:Type} {e:TypeId} {b:Bool} {f:α→List SV} {wt:α→Nat} {n m:Nat} (hsz:P.cellsOf e=n) (hn:0<n) (hb:b=true∨n=1) (he:Rd enc P W sp m e f wt):
 ∀ (len:Nat) (ee off:Nat) (elems:List (DataW H×List MemPlace)),elems.length=len→
  (∀ i,i<len→(W.cells? 0 ⟨ee,off+i*n,none⟩ n).bind (DataW.trod enc P W 0 sp true m e)=elems[i]?)→
  ∃ (l:List α) (vs:List Value),l.length=len∧aC (x5 W) (l.map fun x=>bx b (f x)) vs∧(∀ u∈vs,u.cells.size=n∧ct u)∧W.rangeAt ee off (cellsOf vs)∧(len=0∨ee<W.heap.size)∧
   (l.map wt).sum≤Rows.uptoBulkAll (elems.map (·.1))
 |0,ee,off,elems,hl,_=>by
  have:elems=[]:=List.length_eq_zero_iff.1 hl
  subst this
  exact⟨[],[],rfl,aC.bX,by simp,by intro j v hv;simp[cellsOf] at hv,.inl rfl,by simp⟩
 |len+1,ee,off,[],hl,_=>by simp at hl
 |len+1,ee,off,y::elems,hl,hi=>by
  have h0:=hi 0 (by omega)
  simp only[Nat.zero_mul,Nat.add_zero,List.getElem?_cons_zero,Option.bind_eq_some_iff] at h0
  obtain⟨cs,hc,ht⟩:=h0
  obtain⟨_,hlen,hr,hblk⟩:=oY hn hc
  obtain⟨a,ha,_,hw⟩:=he cs y ht
  obtain⟨l,vs,h1,h2,h3,h4,_,h5⟩:=pw hsz hn hb he len ee (off+n) elems (by simpa using hl) (fun i hi'=>by
   have:=hi (i+1) (by omega)
   rw[List.getElem?_cons_succ] at this
   rw[← this]
   have:off+n+i*n=off+(i+1)*n:=by rw[Nat.succ_mul];omega
   rw[this])
  obtain⟨h6,h7⟩:=Hj (b:=b) ha hlen hb
  refine⟨a::l,Hk b cs::vs,by simp[h1],?_,?_,?_,.inr hblk,?_⟩
  ·simp only[List.map_cons,aC];exact⟨_,_,h6,h2,rfl⟩
  ·intro u hu
   rcases List.mem_cons.1 hu with rfl|hu
   ·refine⟨by rw[← Array.length_toList,h7,hlen],fun v hv=>?_⟩
    rw[h7] at hv
    exact ha.2 v hv
   ·exact h3 u hu
  ·have:cellsOf (Hk b cs::vs)=cs++cellsOf vs:=by simp[cellsOf,h7]
   rw[this]
   exact fA hr (by rw[hlen];exact h4)
  ·simp only[List.map_cons,List.sum_cons,Rows.uptoBulkAll];omega
theorem jD {α:Type} {t e:TypeId} (b:Bool) {f:α→List SV} {wt:α→Nat} {n N:Nat} (ht:P.underlying t=some (.slice e)) (hc:P.cellsOf t=1) (hsz:P.cellsOf e=n) (hn:0<n) (hb:b=true∨n=1)
 (he:∀ m,N=m+1→Rd enc P W sp m e f wt):Rd enc P W sp N t (fun l:List α=>[.list n (l.map fun x=>bx b (f x))]) (fun l=>1+(l.map wt).sum):=by
 intro cs x h
 rcases DataW.trod_slice ht h with⟨rfl,rfl⟩|⟨a,len,cap,elems,rest,m,rfl,rfl,rfl,_,hlc,hcm,hel,hi,_⟩
 ·exact⟨[],.one (by simp only[aG];exact⟨none,0,rfl,Nat.le_refl _,Nat.zero_le _,.inl rfl⟩) rfl,by simp[hc],by simp[Rows.uptoBulk]⟩
 ·rw[hsz] at hi
  rcases Nat.eq_zero_or_pos len with rfl|hpos
  ·have:elems=[]:=List.length_eq_zero_iff.1 hel
   subst this
   exact⟨[],.one (by simp only[aG];exact⟨some a,cap,rfl,Nat.zero_le _,hcm,.inl rfl⟩) rfl,by simp[hc],by simp[Rows.uptoBulk]⟩
  ·have h0:=hi 0 hpos
   obtain⟨y0,hy0⟩:∃ y,elems[0]? =some y:=⟨elems[0],by simp[hel,hpos]⟩
   rw[hy0,Option.bind_eq_some_iff] at h0
   obtain⟨cs0,hc0,_⟩:=h0
   have hs:a.spot=none:=by
    have:=(oY hn hc0).1
    simpa [Addr.add] using this
   obtain⟨ee,off,s⟩:=a
   cases hs
   obtain⟨l,vs,h1,h2,h3,h4,h5,h6⟩:=pw hsz hn hb (he m rfl) len ee off elems hel (fun i hi'=>by
    have:=hi i hi'
    rwa[Addr.add_mid] at this)
   refine⟨l,.one ?_ rfl,by simp[hc],by simp only[Rows.uptoBulk];omega⟩
   simp only[aG]
   refine⟨some ⟨ee,off,none⟩,cap,by simp[h1],by simpa [h1] using hlc,hcm,.inr ⟨ee,off,vs,rfl,h2,h3,h4,?_⟩⟩
   rcases h5 with h5|h5
   ·omega
   ·exact AO h5
theorem AF {α:Type}:∀ {xs:List α},xs.length=2→∃ z0 z1,xs=[z0,z1]
 |[z0,z1],_=>⟨z0,z1,rfl⟩
theorem DF {α:Type}:∀ {xs:List α},xs.length=5→∃ z0 z1 z2 z3 z4,xs=[z0,z1,z2,z3,z4]
 |[z0,z1,z2,z3,z4],_=>⟨z0,z1,z2,z3,z4,rfl⟩
theorem Bx {α:Type}:∀ {xs:List α},xs.length=8→∃ z0 z1 z2 z3 z4 z5 z6 z7,xs=[z0,z1,z2,z3,z4,z5,z6,z7]
 |[z0,z1,z2,z3,z4,z5,z6,z7],_=>⟨z0,z1,z2,z3,z4,z5,z6,z7,rfl⟩
theorem cD {cs:List Value} {xs:List (DataW H×List MemPlace)} {fs:Array Field} {n:Nat}
 (hf:∀ (i:Nat) (f:Field),fs[i]? =some f→DataW.trod enc P W 0 sp true n f.type ((cs.drop f.offset).take (P.cellsOf f.type))=xs[i]?) (i:Nat) {t:Nat} (o k:Nat)
 (h:(fs[i]?).map (fun f=>(f.type,f.offset))=some (t,o)) (hk:P.cellsOf t=k) {α:Type} {g:α→List SV} {wt:α→Nat} (hr:Rd enc P W sp n t g wt) (hl:i<xs.length):
 ∃ (y:DataW H×List MemPlace) (a:α),xs[i]? =some y∧Good W (g a) ((cs.drop o).take k)∧wt a≤Rows.uptoBulk y.1:=by
 cases hi:fs[i]? with
 |none=>rw[hi] at h;cases h
 |some f=>
  rw[hi] at h
  simp only[Option.map_some,Option.some.injEq,Prod.mk.injEq] at h
  obtain⟨rfl,rfl⟩:=h
  subst hk
  have hy:xs[i]? =some xs[i]:=by simp[hl]
  obtain⟨a,h1,_,h2⟩:=hr _ _ ((hf i f hi).trans hy)
  exact⟨_,a,hy,h1,h2⟩
end
theorem sE {α:Type} (f:List α→Nat) (g:α→Nat) (h0:f []=0) (h1:∀ x l,f (x::l)=g x+f l):∀ l,f l=(l.map g).sum
 |[]=>by simp[h0]
 |x::l=>by rw[h1,sE f g h0 h1 l];simp
theorem zK (l:List aE):db l=(l.map fun s=>s.length+1).sum:=sE db _ (by simp[db]) (fun x l=>by simp only[db];omega) l
theorem cE (l:List Ex):cw l=(l.map Ex.wt).sum:=sE cw _ (by simp[cw]) (fun x l=>by simp only[cw]) l
theorem cg (l:List Bd):aM l=(l.map Bd.wt).sum:=sE aM _ (by simp[aM]) (fun x l=>by simp only[aM]) l
theorem fC (l:List Al):cU l=(l.map Al.wt).sum:=sE cU _ (by simp[cU]) (fun x l=>by simp only[cU]) l
theorem Grow.below {W W':World} {c':Cx} (h:Grow (x5 W) c') (e:c'.w=W'):Below W.heap.size W W':=by
 subst e
 exact⟨h.os,h.tape,h.output,h.size,fun k hk=>h.gi k hk (AO hk).2⟩
section
variable {H:Type} {enc:TypeId×Value→H} {P:Program} {W W':World}
theorem mu (hl:laidOutB P=true) (hb:Below W.heap.size W W') {sp:Nat→Bool}:∀ {ts:List TypeId} {vs:List Value} {ds:List (DataW H)} {ps:List MemPlace},
 (∀ t∈ts,P.readableRec t=true∧t<P.types.size)→DataW.TrodAll enc P W 0 (fun _=>true) true ts vs ds ps→(∀ p∈ps,p.block<W.heap.size)→(∀ p∈ps,sp p.block=true)→
 DataW.TrodAll enc P W' 0 sp true ts vs ds ps
 |[],vs,ds,ps,_,h,_,_=>by
  obtain⟨rfl,rfl,rfl⟩:=trodAll_nil h
  exact trodAll_mk0
 |t::ts,vs,ds,ps,hr,h,hlt,hs=>by
  obtain⟨v,vs',d,ds',p,q,rfl,rfl,rfl,h1,h2⟩:=trodAll_cons h
  refine trodAll_cons_mk (WideElems.Trod_stays hl (hr t (by simp)).1 (hr t (by simp)).2 h1 (fun x hx=>hb.same (hlt x (by simp[hx]))) (fun x hx=>hs x (by simp[hx]))) ?_
  exact mu hl hb (fun t ht=>hr t (by simp[ht])) h2 (fun x hx=>hlt x (by simp[hx])) (fun x hx=>hs x (by simp[hx]))
theorem DD (hl:laidOutB P=true) {f:Func} {s:ChangeSpec} (hsv:s.vars=[]) {args:Array Value} {ds gs:List (DataW H)} {before:List MemPlace}
 (hW:DataW.Whole enc P f.params.toList s.vars false W args.toList ds gs before) (hr:∀ t∈f.params.toList,P.readableRec t=true∧t<P.types.size)
 {tb:TypeId} (hrt:f.resultTypes= #[tb]) (htb:P.underlying tb=some .bool) (h1:(s.fn H (ds++gs)).results=[.lit (.bool true)]) (h2:(s.fn H (ds++gs)).args=ds) (h3:(s.fn H (ds++gs)).vars=[])
 (hb:Below W.heap.size W W'):s.post enc P f false true false false W args (.bool true) W':=by
 have hW0:=hW
 obtain⟨p,q,hA,hV,rfl,_,_⟩:=hW
 rw[hsv] at hV
 obtain⟨rfl,rfl⟩:=trodVars_none hV
 have hlt:∀ x∈p,x.block<W.heap.size:=fun x hx=>hW0.lt x (by simp[hx])
 refine⟨ds,[],p++[],[],p,[],hW0,?_,?_,?_,?_,fun h=>by cases h⟩
 ·rw[hrt,h1]
  exact trodAll_cons_mk (p':=[]) (shut_bool htb true) trodAll_mk0
 ·rw[h2]
  exact mu hl hb hr hA hlt (fun x hx=>by simpa using hlt x hx)
 ·rw[hsv,h3];rfl
 ·exact World.keptBut_mono (fun x hx=>⟨hx,.inr (.inl (by simpa using hx))⟩) (hb.frame (· ∈p++[]))
end
end
section
open Go Go.ChangeShapes Go.WideShapes Go.RowKit
section
variable {H:Type} {enc:TypeId×Value→H} {W:World} {sp:Nat→Bool}
theorem lA (n:Nat):Rd enc Tryz.prog W sp n 9 (fun s:aE=>[.str s]) (fun s=>s.length+1):=H7 (by kernel_rfl) (by kernel_rfl)
theorem fZ (n:Nat):Rd enc Tryz.prog W sp n 3 (fun i:Int=>[.int .i64 i]) (fun _=>1):=H6 (by kernel_rfl) (by kernel_rfl)
theorem tW (n:Nat):Rd enc Tryz.prog W sp n 36 (fun l:List aE=>[.list 1 (l.map .str)]) (fun l=>1+db l):=by
 have h:=jD (enc:=enc) (P:=Tryz.prog) (W:=W) (sp:=sp) (t:=36) (e:=9) false (f:=fun s:aE=>[SV.str s]) (wt:=fun s=>s.length+1) (n:=1) (N:=n) (by kernel_rfl) (by kernel_rfl) (by kernel_rfl) (by omega) (.inr rfl) (fun m _=>lA m)
 intro cs x hx
 obtain⟨a,h1,h2,h3⟩:=h cs x hx
 exact⟨a,h1,h2,by show 1+db a≤_;rw[zK];exact h3⟩
theorem C3 (k:Int) (s:aE) (n o:Int) (l:List aE) (ae:List Ex) (binds:List Bd) (alts:List Al):
 (Ex.mk k s n o l ae binds alts).cells=[.int .i64 k]++([.str s]++([.int .i64 n]++([.int .i64 o]++([.list 1 (l.map .str)]++([.list 8 (ae.map fun x=>bx true x.cells)]++([.list 9 (binds.map fun x=>bx true x.cells)]++([.list 12 (alts.map fun x=>bx true x.cells)]++[]))))))):=by
 simp only[Ex.cells,bh,aV,bG];rfl
theorem Gd (n:Nat):Rd enc Tryz.prog W sp n 40 Ex.cells Ex.wt∧Rd enc Tryz.prog W sp n 54 Bd.cells Bd.wt∧Rd enc Tryz.prog W sp n 60 Al.cells Al.wt:=by
 induction n using Nat.strongRecOn with
 |_ n ih=>
 have hE:Rd enc Tryz.prog W sp n 40 Ex.cells Ex.wt:=by
  intro cs x hx
  obtain⟨xs,m,rfl,rfl,hl,hlen,hf⟩:=DataW.trod_struct Tryz.underlying40 hx
  obtain⟨z0,z1,z2,z3,z4,z5,z6,z7,rfl⟩:=Bx (show xs.length=8 from hlen)
  have hsz:Tryz.prog.cellsOf 40=8:=by kernel_rfl
  have hsubs:∀ m',m=m'+1→Rd enc Tryz.prog W sp m' 40 Ex.cells Ex.wt:=fun m' e=>(ih m' (by omega)).1
  have hbinds:∀ m',m=m'+1→Rd enc Tryz.prog W sp m' 54 Bd.cells Bd.wt:=fun m' e=>(ih m' (by omega)).2.1
  have halts:∀ m',m=m'+1→Rd enc Tryz.prog W sp m' 60 Al.cells Al.wt:=fun m' e=>(ih m' (by omega)).2.2
  obtain⟨y0,k,e0,g0,w0⟩:=cD hf 0 0 1 (by kernel_rfl) (by kernel_rfl) (fZ m) (by simp)
  obtain⟨y1,s,e1,g1,w1⟩:=cD hf 1 1 1 (by kernel_rfl) (by kernel_rfl) (lA m) (by simp)
  obtain⟨y2,i,e2,g2,w2⟩:=cD hf 2 2 1 (by kernel_rfl) (by kernel_rfl) (fZ m) (by simp)
  obtain⟨y3,o,e3,g3,w3⟩:=cD hf 3 3 1 (by kernel_rfl) (by kernel_rfl) (fZ m) (by simp)
  obtain⟨y4,l,e4,g4,w4⟩:=cD hf 4 4 1 (by kernel_rfl) (by kernel_rfl) (tW m) (by simp)
  obtain⟨y5,ae,e5,g5,w5⟩:=cD hf 5 5 1 (by kernel_rfl) (by kernel_rfl) (jD (t:=37) (e:=40) true (by kernel_rfl) (by kernel_rfl) (n:=8) (by kernel_rfl) (by omega) (.inl rfl) hsubs) (by simp)
  obtain⟨y6,binds,e6,g6,w6⟩:=cD hf 6 6 1 (by kernel_rfl) (by kernel_rfl) (jD (t:=23) (e:=54) true (by kernel_rfl) (by kernel_rfl) (n:=9) (by kernel_rfl) (by omega) (.inl rfl) hbinds) (by simp)
  obtain⟨y7,alts,e7,g7,w7⟩:=cD hf 7 7 1 (by kernel_rfl) (by kernel_rfl) (jD (t:=38) (e:=60) true (by kernel_rfl) (by kernel_rfl) (n:=12) (by kernel_rfl) (by omega) (.inl rfl) halts) (by simp)
  rw[hsz] at hl
  refine⟨.mk k s i o l ae binds alts,?_,by rw[hsz,hl],?_⟩
  ·rw[C3,← List.drop_zero (l:=cs)]
   refine .cut g0 (.cut g1 (.cut g2 (.cut g3 (.cut g4 (.cut g5 (.cut g6 (.cut g7 ?_)))))))
   rw[List.drop_eq_nil_of_le (by omega)]
   exact .nil
  ·cases e0;cases e1;cases e2;cases e3;cases e4;cases e5;cases e6;cases e7
   simp only[Rows.uptoBulk,Rows.uptoBulkAll,List.map_cons,List.map_nil,Ex.wt,cE,cg,fC]
   omega
 have hE':∀ m,n=m+1→Rd enc Tryz.prog W sp m 40 Ex.cells Ex.wt:=fun m e=>(ih m (by omega)).1
 refine⟨hE,?_,?_⟩
 ·intro cs x hx
  obtain⟨xs,m,hm,rfl,hl,hlen,hf⟩:=DataW.trod_struct Tryz.underlying54 hx
  obtain⟨z0,z1,rfl⟩:=AF (show xs.length=2 from hlen)
  have hsz:Tryz.prog.cellsOf 54=9:=by kernel_rfl
  obtain⟨y0,s,e0,g0,w0⟩:=cD hf 0 0 1 (by kernel_rfl) (by kernel_rfl) (lA m) (by simp)
  obtain⟨y1,e,e1,g1,w1⟩:=cD hf 1 1 8 (by kernel_rfl) (by kernel_rfl) (hE' m hm) (by simp)
  rw[hsz] at hl
  refine⟨.mk s e,?_,by rw[hsz,hl],?_⟩
  ·have:(Bd.mk s e).cells=[.str s]++(e.cells++[]):=by simp[Bd.cells]
   rw[this,← List.drop_zero (l:=cs)]
   refine .cut g0 (.cut g1 ?_)
   rw[List.drop_eq_nil_of_le (by omega)]
   exact .nil
  ·cases e0;cases e1
   simp only[Rows.uptoBulk,Rows.uptoBulkAll,List.map_cons,List.map_nil,Bd.wt]
   omega
 ·intro cs x hx
  obtain⟨xs,m,hm,rfl,hl,hlen,hf⟩:=DataW.trod_struct Tryz.underlying60 hx
  obtain⟨z0,z1,z2,z3,z4,rfl⟩:=DF (show xs.length=5 from hlen)
  have hsz:Tryz.prog.cellsOf 60=12:=by kernel_rfl
  obtain⟨y0,k,e0,g0,w0⟩:=cD hf 0 0 1 (by kernel_rfl) (by kernel_rfl) (fZ m) (by simp)
  obtain⟨y1,s,e1,g1,w1⟩:=cD hf 1 1 1 (by kernel_rfl) (by kernel_rfl) (lA m) (by simp)
  obtain⟨y2,i,e2,g2,w2⟩:=cD hf 2 2 1 (by kernel_rfl) (by kernel_rfl) (fZ m) (by simp)
  obtain⟨y3,l,e3,g3,w3⟩:=cD hf 3 3 1 (by kernel_rfl) (by kernel_rfl) (tW m) (by simp)
  obtain⟨y4,e,e4,g4,w4⟩:=cD hf 4 4 8 (by kernel_rfl) (by kernel_rfl) (hE' m hm) (by simp)
  rw[hsz] at hl
  refine⟨.mk k s i l e,?_,by rw[hsz,hl],?_⟩
  ·have:(Al.mk k s i l e).cells=[.int .i64 k]++([.str s]++([.int .i64 i]++([.list 1 (l.map .str)]++(e.cells++[])))):=by simp[Al.cells]
   rw[this,← List.drop_zero (l:=cs)]
   refine .cut g0 (.cut g1 (.cut g2 (.cut g3 (.cut g4 ?_))))
   rw[List.drop_eq_nil_of_le (by omega)]
   exact .nil
  ·cases e0;cases e1;cases e2;cases e3;cases e4
   simp only[Rows.uptoBulk,Rows.uptoBulkAll,List.map_cons,List.map_nil,Al.wt]
   omega
end
end
def idxFrom:Nat→List (List UInt8)→List UInt8→Int
 |_,[],_=> -1
 |i,x::r,v=>if v=x then i else idxFrom (i+1) r v
theorem rh (G:Gl) (l:List (List UInt8)) (v:List UInt8) (H:List ax) (hl:l.length<4611686018427387904):
 af Tryz.prog G 28 [.list 1 (l.map .str),.str v] H (fun r H'=>H'=H∧r= .int .i64 (idxFrom 0 l v)):=by
 refine af.aD TB [] aA _ Tryz.func28 rfl (by decide) Tryz.ntmps28 (by simp) rfl (by simp only[ap,Nat.reduceAdd];rfl) fun C R' hR hC hcl hB=>?_;have X:=aF;have hC':=congrArg List.length hC
 (refine bL ?_;with_reducible repeat' first|exact trivial|(apply ad.mk<;>intro hb)|apply av.mk)
 ·refine az (fun i:Nat=>[(0,.list 1 (l.map .str)),(1,.str v),(4,.int .i64 0),(7,.int .i64 l.length),(8,.int .i64 i)]) (fun _=>H) (fun i=>l.length - i) (fun i=>i≤l.length∧idxFrom i (l.drop i) v=idxFrom 0 l v) 0 (by simp) (Wk.sub ?_) ?_
  ·simp (decide:=true) [bg,look]
  intro K i hi hK
  (refine bL ?_;with_reducible repeat' first|exact trivial|(apply ad.mk<;>intro hb)|apply av.mk)
  ·have hi':i<l.length:=by omega
   rw[List.drop_eq_getElem_cons hi',idxFrom,if_pos hb] at hi
   exact Fin.out hR ⟨rfl,by rw[← hi.2];rfl⟩
  ·have hi':i<l.length:=by omega
   rw[List.drop_eq_getElem_cons hi',idxFrom,if_neg hb] at hi
   exact hK _ _ (i+1) (by omega) ⟨hi',hi.2⟩ (Wk.sub (by simp[bg,look]))
  ·rw[List.drop_of_length_le (by omega),idxFrom] at hi
   exact Fin.out hR ⟨rfl,by rw[← hi.2];rfl⟩
theorem jY:∀ (l:List aE) (v:aE) (i:Nat),(idxFrom i l v= -1∧v∉l)∨((i:Int)≤idxFrom i l v∧v∈l)
 |[],v,i=> .inl ⟨rfl,by simp⟩
 |x::r,v,i=>by
  rw[idxFrom]
  split
  ·rename_i h;exact .inr ⟨Int.le_refl _,by simp[h]⟩
  ·rename_i h
   rcases jY r v (i+1) with h1|h1
   ·exact .inl ⟨h1.1,by simp[h,h1.2]⟩
   ·exact .inr ⟨by omega,by simp[h1.2]⟩
theorem mh (G:Gl) (l:List aE) (v:aE) (H:List ax) (hl:l.length<4611686018427387904):
 af Tryz.prog G 86 [.list 1 (l.map .str),.str v] H (fun r H'=>H'=H∧r= .bool (decide (v∈l))):=by
 refine af.aD TB [] aA _ Tryz.func86 rfl (by decide) Tryz.ntmps86 (by simp) rfl (by simp only[ap,Nat.reduceAdd];rfl) fun C R' hR hC hcl hB=>?_;have X:=aF;have hC':=congrArg List.length hC
 (refine bL ?_;with_reducible repeat' first|exact trivial|(apply ad.mk<;>intro hb)|apply av.mk)
 refine pP (xs:=[.list 1 (l.map .str),.str v]) (by exact cq) rfl (rh G l v H hl) ?_
 rintro r H' ⟨rfl,rfl⟩
 (refine bL ?_;with_reducible repeat' first|exact trivial|(apply ad.mk<;>intro hb)|apply av.mk)
 refine Fin.out hR ⟨rfl,?_⟩
 rcases jY l v 0 with h|h
 ·simp[h.1,h.2,bq]
 ·simp only[h.2,decide_true,SV.bool.injEq,decide_eq_true_eq,bq];omega
theorem ji (G:Gl) (l:List aE) (v:aE) (H:List ax) (hl:l.length<4611686018427387904):
 af Tryz.prog G 18 [.list 1 (l.map .str),.str v] H (fun r H'=>H'=H∧r= .bool (decide (v∈l))):=by
 refine af.aD TB [] aA _ Tryz.func18 rfl (by decide) Tryz.ntmps18 (by simp) rfl (by simp only[ap,Nat.reduceAdd];rfl) fun C R' hR hC hcl hB=>?_;have X:=aF;have hC':=congrArg List.length hC
 (refine bL ?_;with_reducible repeat' first|exact trivial|(apply ad.mk<;>intro hb)|apply av.mk)
 refine az (fun i:Nat=>[(0,.list 1 (l.map .str)),(1,.str v),(5,.int .i64 i)]) (fun _=>H) (fun i=>l.length - i) (fun i=>i≤l.length∧v∉l.take i) 0 (by simp) (Wk.sub (by simp[bg,look])) ?_
 intro K i hi hK
 (refine bL ?_;with_reducible repeat' first|exact trivial|(apply ad.mk<;>intro hb)|apply av.mk)
 ·have hi':i<l.length:=by omega
  exact Fin.out hR ⟨rfl,by rw[decide_eq_true (by rw[← hb];exact List.getElem_mem hi')];rfl⟩
 ·have hi':i<l.length:=by omega
  exact hK _ _ (i+1) (by omega) ⟨hi',by rw[List.take_succ_eq_append_getElem hi',List.mem_append];simp only[hi.2,List.mem_singleton,false_or];exact fun h=>hb h.symm⟩ (Wk.sub (by simp[bg,look]))
 ·have:l.take i=l:=List.take_of_length_le (by omega)
  exact Fin.out hR ⟨rfl,by rw[decide_eq_false (by rw[← this];exact hi.2)];rfl⟩
def oh (op:Int):Int:=if 1≤op∧op≤8 then 2 else if op=10 then 1 else if op=9∨op=11 then 0 else -1
theorem Ac (G:Gl) (hG:au G) (op:Int) (H:List ax):af Tryz.prog G 93 [.int .i64 op] H (fun r H'=>H'=H∧r= .int .i64 (oh op)):=by
 refine af.aD TB [] aA _ Tryz.func93 rfl (by decide) Tryz.ntmps93 (by simp) rfl (by simp only[ap,Nat.reduceAdd];rfl) fun C R' hR hC hcl hB=>?_;have X:=aF;have hC':=congrArg List.length hC
 (refine bL ?_;with_reducible repeat' first|exact trivial|(apply ad.mk<;>intro hb)|apply av.mk)
 all_goals
  refine Fin.out hR ⟨rfl,?_⟩
  simp only[bq,oh]
  repeat' (first|rfl|split|(exfalso;omega))
theorem nN (G:Gl) (hG:au G) (e:Ex) (H:List ax) (hw:e.wt<4294967296):af Tryz.prog G 94 [e.sv] H (fun r H'=>H'=H∧r= .list 8 (ag e.parts)):=by
 obtain⟨kd,nm,nn,op,names,ae,binds,alts⟩:=e
 have hlen:=Ex.cm kd nm nn op names ae binds alts
 refine af.aD TB [3] aA _ Tryz.func94 rfl (by decide) Tryz.ntmps94 (by simp) rfl (by simp only[ap,Nat.reduceAdd];rfl) fun C R' hR hC hcl hB=>?_;have X:=aF;have hC':=congrArg List.length hC
 have hC':C.H.length=H.length:=by rw[hC]
 (refine bL ?_;with_reducible repeat' first|exact trivial|(apply ad.mk<;>intro hb)|apply av.mk)
 refine az (fun i:Nat=>[(1,.ptr H.length 0 0 0),(3,.sl (H.length+1) 0 0 (ae.length+i)),(4,.int .i64 i)]) (fun i=>H++[.cells 0 8 [.agg [.int .i64 kd,.str nm,.int .i64 nn,.int .i64 op,.list 1 (names.map .str),.list 8 (ag ae),.list 9 (ah binds),.list 12 (aw alts)]],.cells 0 8 (ag ae++(binds.take i).map fun b=> .agg b.e.cells)])
  (fun i=>binds.length - i) (fun i=>i≤binds.length) 0 (Nat.zero_le _) ?_ ?_
 ·simp only[List.take_zero,List.map_nil,List.append_nil,Nat.add_zero]
  exact aY (n0:=H.length) [(H.length,0),(H.length+1,0)] hG hB (by rw[hC]) hcl
 ·intro K i hi hK
  (refine bL ?_;with_reducible repeat' first|exact trivial|(apply ad.mk<;>intro hb)|apply av.mk)
  ·refine hK _ _ (i+1) (by omega) (by omega) ?_
   simp only[List.take_succ_eq_append_getElem (show i<binds.length by omega),List.map_append,List.map_cons,List.map_nil]
   exact aY (n0:=H.length) [(H.length,0),(H.length+1,0)] hG hB (by rw[hC]) hcl
  ·have hi':i=binds.length:=by omega
   subst hi'
   simp only[List.take_length]
   refine az (fun i:Nat=>[(1,.ptr H.length 0 0 0),(3,.sl (H.length+1) 0 0 (ae.length+binds.length+i)),(5,.int .i64 i)]) (fun i=>H++[.cells 0 8 [.agg [.int .i64 kd,.str nm,.int .i64 nn,.int .i64 op,.list 1 (names.map .str),.list 8 (ag ae),.list 9 (ah binds),.list 12 (aw alts)]],.cells 0 8 (ag ae++((binds.map fun b=> .agg b.e.cells)++(alts.take i).map fun a=> .agg a.body.cells))])
    (fun i=>alts.length - i) (fun i=>i≤alts.length) 0 (Nat.zero_le _) ?_ ?_
   ·simp only[List.take_zero,List.map_nil,List.append_nil,Nat.add_zero]
    exact aY (n0:=H.length) [(H.length,0),(H.length+1,0)] hG hB (by rw[hC]) hcl
   ·intro K2 i hi hK2
    (refine bL ?_;with_reducible repeat' first|exact trivial|(apply ad.mk<;>intro hb)|apply av.mk)
    ·refine hK2 _ _ (i+1) (by omega) (by omega) ?_
     simp only[List.take_succ_eq_append_getElem (show i<alts.length by omega),List.map_append,List.map_cons,List.map_nil]
     exact aY (n0:=H.length) [(H.length,0),(H.length+1,0)] hG hB (by rw[hC]) hcl
    ·have hi':i=alts.length:=by omega
     subst hi'
     have hpe:ag (Ex.mk kd nm nn op names ae binds alts).parts=ag ae++((binds.map fun b=> .agg b.e.cells)++alts.map fun a=> .agg a.body.cells):=by
      simp only[Ex.bM,bh,List.map_append,List.map_map];rfl
     refine Fin.bY (n0:=H.length) hR (by simp) hC' hcl (bE.sf (by exact dq) (by omega) (by simp) ?_ (dF _ _)) ⟨rfl,rfl⟩
     rw[hpe,List.drop_zero,List.take_length]
     exact List.take_of_length_le (by simp[cR])
def La (H:List ax):SV→List ax→Prop:=fun r H'=>H'=H∧∃ b,r= .bool b

def tl (s:aE) (n:Int) (b:Bool):SV:= .agg [.str s,.int .i64 n,.bool b]
def dR (k:Int) (l:List aE) (binds:List Bd):List aE:=if k=3 then l else if k=5 then binds.map Bd.name else []
mutual
def vw (s:aE):Ex→Nat
 | .mk k nm _ _ l ae binds alts=>if k=1 then (if nm=s then 1 else 0) else if s∈dR k l binds then 0 else BI s ae+BH s binds+BG s (k=6∧nm=s) alts
def BI (s:aE):List Ex→Nat
 |[]=>0
 |e::r=>vw s e+BI s r
def xS (s:aE):Bd→Nat
 | .mk _ e=>vw s e
def BH (s:aE):List Bd→Nat
 |[]=>0
 |b::r=>xS s b+BH s r
def xQ (s:aE) (c:Prop) [Decidable c]:Al→Nat
 | .mk _ _ _ l e=>if s∈l∨c then 0 else vw s e
def BG (s:aE) (c:Prop) [Decidable c]:List Al→Nat
 |[]=>0
 |a::r=>xQ s c a+BG s c r
end
mutual
def HE (s:aE) (b:Bool):Ex→Bool
 | .mk k nm _ _ l ae binds alts=>if k=1 then (b&&decide (nm=s)) else if s∈dR k l binds then false else GP s (b||decide (k=3)) ae||GO s (b||decide (k=3)) binds||GN s (b||decide (k=3)) (k=6∧nm=s) alts
def GP (s:aE) (b:Bool):List Ex→Bool
 |[]=>false
 |e::r=>HE s b e||GP s b r
def HG (s:aE) (b:Bool):Bd→Bool
 | .mk _ e=>HE s b e
def GO (s:aE) (b:Bool):List Bd→Bool
 |[]=>false
 |x::r=>HG s b x||GO s b r
def HF (s:aE) (b:Bool) (c:Prop) [Decidable c]:Al→Bool
 | .mk _ _ _ l e=>if s∈l∨c then false else HE s b e
def GN (s:aE) (b:Bool) (c:Prop) [Decidable c]:List Al→Bool
 |[]=>false
 |a::r=>HF s b c a||GN s b c r
end
theorem DY (s:aE) (b:Bd):xS s b=vw s b.e:=by cases b;rw[xS];rfl
theorem DW (s:aE) (c:Prop) [Decidable c] (a:Al):xQ s c a=if s∈a.names∨c then 0 else vw s a.body:=by cases a;rw[xQ];rfl
mutual
theorem zA (s:aE):∀ e:Ex,vw s e≤e.wt
 | .mk k nm n o l ae binds alts=>by
  have h1:=AM s ae
  have h2:=AK s binds
  have h3:=AJ s (k=6∧nm=s) alts
  simp only[vw,Ex.wt]
  split
  ·split<;>omega
  ·split<;>omega
theorem AM (s:aE):∀ l:List Ex,BI s l≤cw l
 |[]=>Nat.le_refl _
 |e::r=>by have h1:=zA s e;have h2:=AM s r;simp only[BI,cw];omega
theorem DZ (s:aE):∀ b:Bd,xS s b≤b.wt
 | .mk n e=>by have h1:=zA s e;simp only[xS,Bd.wt];omega
theorem AK (s:aE):∀ l:List Bd,BH s l≤aM l
 |[]=>Nat.le_refl _
 |e::r=>by have h1:=DZ s e;have h2:=AK s r;simp only[BH,aM];omega
theorem DX (s:aE) (c:Prop) [Decidable c]:∀ b:Al,xQ s c b≤b.wt
 | .mk k nm n l e=>by have h1:=zA s e;simp only[xQ,Al.wt];split<;>omega
theorem AJ (s:aE) (c:Prop) [Decidable c]:∀ l:List Al,BG s c l≤cU l
 |[]=>Nat.le_refl _
 |e::r=>by have h1:=DX s c e;have h2:=AJ s c r;simp only[BG,cU];omega
end
theorem Al.sO (a:Al):a.names.length≤a.wt:=by cases a;simp only[Al.wt,Al.names];have:=ff ‹_›;omega

theorem Al.hY {kd:Int} {nm:aE} {nn op:Int} {names:List aE} {ae:List Ex} {binds:List Bd} {alts:List Al} {i:Nat} (h:i<alts.length):alts[i].names.length≤(Ex.mk kd nm nn op names ae binds alts).wt:=by
 have h1:=ek (List.getElem_mem h)
 have h2:=Al.sO alts[i]
 simp only[Ex.wt]
 omega
end Go.Proofs.YtehfihnfeakmaaaGreatDoor
