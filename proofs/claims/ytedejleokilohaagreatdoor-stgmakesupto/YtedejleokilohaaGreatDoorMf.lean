/- A part of the proof: Tab, SwI, SwJ, SwK, X2, SwL, SwM. Names and spaces are cut short by program. -/
import Derived.Test.YtedejleokilohaaGreatDoorMe
import Derived.Test.YtedejleokilohaaGreatDoorChecked
import Derived.KernelRfl
import Derived.Sort.Grow
import Derived.Laws.IdiomRangeMap
import Derived.Test.YtedejleokilohaaGreatDoorRows
import Derived.WalkKit
import Derived.ProofKit
import Derived.OpenShut
import Derived.JoinedCond
import Derived.Carry
import Derived.ChangeMaps5
import Derived.ChangeSame
set_option linter.unusedSimpArgs false
set_option linter.unusedVariables false
set_option maxRecDepth 10000
set_option maxHeartbeats 4000000
namespace Go.Proofs.YtedejleokilohaaGreatDoor
open Go
def t2:TI:=⟨.int .i64,1,8,.int .i64 0⟩
def t3:TI:=⟨.int .i64,1,8,.int .i64 0⟩
def t4:TI:=⟨.bool,1,1,.bool false⟩
def t5:TI:=⟨.int .u8,1,1,.int .u8 0⟩
def t9:TI:=⟨.str,1,16,.str []⟩
def t20:TI:=⟨.gW,1,16,.gW true⟩
def t21:TI:=⟨.int .i32,1,4,.int .i32 0⟩
def t22:TI:=⟨.slice 67,1,24,.nil⟩
def t23:TI:=⟨.slice 53,1,24,.nil⟩
def t24:TI:=⟨.struct [(0,22),(1,23)] false,2,48,.agg [.nil,.nil]⟩
def t25:TI:=⟨.struct [(0,22),(1,23)] false,2,48,.agg [.nil,.nil]⟩
def t26:TI:=⟨.func,1,8,.ae⟩
def t27:TI:=⟨.func,1,8,.ae⟩
def t28:TI:=⟨.slice 40,1,24,.nil⟩
def t29:TI:=⟨.struct [(0,22),(1,28)] false,2,48,.agg [.nil,.nil]⟩
def t30:TI:=⟨.struct [(0,22),(1,28)] false,2,48,.agg [.nil,.nil]⟩
def t31:TI:=⟨.int .i64,1,8,.int .i64 0⟩
def t33:TI:=⟨.func,1,8,.ae⟩
def t34:TI:=⟨.func,1,8,.ae⟩
def t35:TI:=⟨.func,1,8,.ae⟩
def t36:TI:=⟨.slice 9,1,24,.nil⟩
def t37:TI:=⟨.slice 58,1,24,.nil⟩
def t38:TI:=⟨.slice 44,1,24,.nil⟩
def t39:TI:=⟨.struct [(0,9),(1,3),(2,36),(3,36),(4,4),(5,9),(6,37),(7,38)] false,8,144,.agg [.str [],.int .i64 0,.nil,.nil,.bool false,.str [],.nil,.nil]⟩
def t40:TI:=⟨.struct [(0,9),(1,3),(2,36),(3,36),(4,4),(5,9),(6,37),(7,38)] false,8,144,.agg [.str [],.int .i64 0,.list 1 [],.list 1 [],.bool false,.str [],.list 2 [],.list 7 []]⟩
def t41:TI:=⟨.func,1,8,.ae⟩
def t42:TI:=⟨.slice 93,1,24,.nil⟩
def t43:TI:=⟨.struct [(0,3),(1,9),(2,3),(3,37),(4,38),(5,28),(6,42)] false,7,128,.agg [.int .i64 0,.str [],.int .i64 0,.nil,.nil,.nil,.nil]⟩
def t44:TI:=⟨.struct [(0,3),(1,9),(2,3),(3,37),(4,38),(5,28),(6,42)] false,7,128,.agg [.int .i64 0,.str [],.int .i64 0,.list 2 [],.list 7 [],.list 8 [],.list 11 []]⟩
def t45:TI:=⟨.map 9 4,1,8,.bM⟩
def t47:TI:=⟨.func,1,8,.ae⟩
def t48:TI:=⟨.slice 51,1,24,.nil⟩
def t49:TI:=⟨.slice 131,1,24,.nil⟩
def t50:TI:=⟨.struct [(0,3),(1,9),(2,3),(3,3),(4,36),(5,48),(6,23),(7,49)] false,8,136,.agg [.int .i64 0,.str [],.int .i64 0,.int .i64 0,.nil,.nil,.nil,.nil]⟩
def t51:TI:=⟨.struct [(0,3),(1,9),(2,3),(3,3),(4,36),(5,48),(6,23),(7,49)] false,8,136,.agg [.int .i64 0,.str [],.int .i64 0,.int .i64 0,.list 1 [],.list 8 [],.list 9 [],.list 12 []]⟩
def t52:TI:=⟨.struct [(0,9),(1,51)] false,9,152,.agg [.str [],.int .i64 0,.str [],.int .i64 0,.int .i64 0,.nil,.nil,.nil,.nil]⟩
def t53:TI:=⟨.struct [(0,9),(1,51)] false,9,152,.agg [.str [],.int .i64 0,.str [],.int .i64 0,.int .i64 0,.list 1 [],.list 8 [],.list 9 [],.list 12 []]⟩
def t54:TI:=⟨.func,1,8,.ae⟩
def t55:TI:=⟨.func,1,8,.ae⟩
def t56:TI:=⟨.func,1,8,.ae⟩
def t57:TI:=⟨.struct [(0,9),(1,3)] true,2,24,.agg [.str [],.int .i64 0]⟩
def t58:TI:=⟨.struct [(0,9),(1,3)] true,2,24,.agg [.str [],.int .i64 0]⟩
def t59:TI:=⟨.func,1,8,.ae⟩
def t60:TI:=⟨.func,1,8,.ae⟩
def t61:TI:=⟨.func,1,8,.ae⟩
def t62:TI:=⟨.ptr 64,1,8,.aV⟩
def t63:TI:=⟨.struct [(0,3),(1,45)] false,2,16,.agg [.int .i64 0,.bM]⟩
def t64:TI:=⟨.struct [(0,3),(1,45)] false,2,16,.agg [.int .i64 0,.bM]⟩
def t65:TI:=⟨.func,1,8,.ae⟩
def t66:TI:=⟨.struct [(0,9),(1,3),(2,3),(3,3)] true,4,40,.agg [.str [],.int .i64 0,.int .i64 0,.int .i64 0]⟩
def t67:TI:=⟨.struct [(0,9),(1,3),(2,3),(3,3)] true,4,40,.agg [.str [],.int .i64 0,.int .i64 0,.int .i64 0]⟩
def t68:TI:=⟨.func,1,8,.ae⟩
def t69:TI:=⟨.ptr 71,1,8,.aV⟩
def t70:TI:=⟨.struct [(0,3),(1,36)] false,2,32,.agg [.int .i64 0,.nil]⟩
def t71:TI:=⟨.struct [(0,3),(1,36)] false,2,32,.agg [.int .i64 0,.nil]⟩
def t72:TI:=⟨.func,1,8,.ae⟩
def t73:TI:=⟨.func,1,8,.ae⟩
def t74:TI:=⟨.func,1,8,.ae⟩
def t75:TI:=⟨.func,1,8,.ae⟩
def t76:TI:=⟨.func,1,8,.ae⟩
def t77:TI:=⟨.func,1,8,.ae⟩
def t78:TI:=⟨.func,1,8,.ae⟩
def t79:TI:=⟨.func,1,8,.ae⟩
def t80:TI:=⟨.func,1,8,.ae⟩
def t81:TI:=⟨.ptr 84,1,8,.aV⟩
def t82:TI:=⟨.map 9 67,1,8,.bM⟩
def t83:TI:=⟨.struct [(0,82)] false,1,8,.agg [.bM]⟩
def t84:TI:=⟨.struct [(0,82)] false,1,8,.agg [.bM]⟩
def t85:TI:=⟨.func,1,8,.ae⟩
def t86:TI:=⟨.map 9 3,1,8,.bM⟩
def t87:TI:=⟨.func,1,8,.ae⟩
def t88:TI:=⟨.func,1,8,.ae⟩
def t89:TI:=⟨.array 4 67,16,160,.agg [.str [],.int .i64 0,.int .i64 0,.int .i64 0,.str [],.int .i64 0,.int .i64 0,.int .i64 0,.str [],.int .i64 0,.int .i64 0,.int .i64 0,.str [],.int .i64 0,.int .i64 0,.int .i64 0]⟩
def t90:TI:=⟨.func,1,8,.ae⟩
def t91:TI:=⟨.func,1,8,.ae⟩
def t92:TI:=⟨.struct [(0,3),(1,9),(2,3),(3,36),(4,44)] false,11,184,.agg [.int .i64 0,.str [],.int .i64 0,.nil,.int .i64 0,.str [],.int .i64 0,.nil,.nil,.nil,.nil]⟩
def t93:TI:=⟨.struct [(0,3),(1,9),(2,3),(3,36),(4,44)] false,11,184,.agg [.int .i64 0,.str [],.int .i64 0,.list 1 [],.int .i64 0,.str [],.int .i64 0,.list 2 [],.list 7 [],.list 8 [],.list 11 []]⟩
def t94:TI:=⟨.func,1,8,.ae⟩
def t95:TI:=⟨.func,1,8,.ae⟩
def t96:TI:=⟨.func,1,8,.ae⟩
def t97:TI:=⟨.func,1,8,.ae⟩
def t98:TI:=⟨.func,1,8,.ae⟩
def t99:TI:=⟨.func,1,8,.ae⟩
def t101:TI:=⟨.func,1,8,.ae⟩
def t102:TI:=⟨.gW,1,16,.gW true⟩
def t103:TI:=⟨.gW,1,16,.gW true⟩
def t105:TI:=⟨.func,1,8,.ae⟩
def t106:TI:=⟨.func,1,8,.ae⟩
def t107:TI:=⟨.func,1,8,.ae⟩
def t108:TI:=⟨.func,1,8,.ae⟩
def t109:TI:=⟨.func,1,8,.ae⟩
def t110:TI:=⟨.slice 114,1,24,.nil⟩
def t112:TI:=⟨.func,1,8,.ae⟩
def t113:TI:=⟨.struct [(0,28),(1,9),(2,44)] false,9,168,.agg [.nil,.str [],.int .i64 0,.str [],.int .i64 0,.nil,.nil,.nil,.nil]⟩
def t114:TI:=⟨.struct [(0,28),(1,9),(2,44)] false,9,168,.agg [.nil,.str [],.int .i64 0,.str [],.int .i64 0,.nil,.nil,.nil,.nil]⟩
def t115:TI:=⟨.func,1,8,.ae⟩
def t116:TI:=⟨.func,1,8,.ae⟩
def t117:TI:=⟨.func,1,8,.ae⟩
def t118:TI:=⟨.func,1,8,.ae⟩
def t119:TI:=⟨.func,1,8,.ae⟩
def t120:TI:=⟨.func,1,8,.ae⟩
def t121:TI:=⟨.func,1,8,.ae⟩
def t122:TI:=⟨.func,1,8,.ae⟩
def t123:TI:=⟨.func,1,8,.ae⟩
def t124:TI:=⟨.int .u64,1,8,.int .u64 0⟩
def t125:TI:=⟨.func,1,8,.ae⟩
def t126:TI:=⟨.func,1,8,.ae⟩
def t127:TI:=⟨.func,1,8,.ae⟩
def t128:TI:=⟨.func,1,8,.ae⟩
def t129:TI:=⟨.func,1,8,.ae⟩
def t130:TI:=⟨.struct [(0,3),(1,9),(2,3),(3,36),(4,51)] false,12,192,.agg [.int .i64 0,.str [],.int .i64 0,.nil,.int .i64 0,.str [],.int .i64 0,.int .i64 0,.nil,.nil,.nil,.nil]⟩
def t131:TI:=⟨.struct [(0,3),(1,9),(2,3),(3,36),(4,51)] false,12,192,.agg [.int .i64 0,.str [],.int .i64 0,.list 1 [],.int .i64 0,.str [],.int .i64 0,.int .i64 0,.list 1 [],.list 8 [],.list 9 [],.list 12 []]⟩
def t132:TI:=⟨.func,1,8,.ae⟩
def t134:TI:=⟨.func,1,8,.ae⟩
def t135:TI:=⟨.map 3 4,1,8,.bM⟩
def t136:TI:=⟨.func,1,8,.ae⟩
def t137:TI:=⟨.struct [(0,9),(1,3),(2,4)] true,3,32,.agg [.str [],.int .i64 0,.bool false]⟩
def t138:TI:=⟨.struct [(0,9),(1,3),(2,4)] true,3,32,.agg [.str [],.int .i64 0,.bool false]⟩
def t139:TI:=⟨.func,1,8,.ae⟩
def t140:TI:=⟨.func,1,8,.ae⟩
def t141:TI:=⟨.func,1,8,.ae⟩
def t142:TI:=⟨.func,1,8,.ae⟩
def t143:TI:=⟨.func,1,8,.ae⟩
def t144:TI:=⟨.func,1,8,.ae⟩
def t145:TI:=⟨.func,1,8,.ae⟩
def t146:TI:=⟨.func,1,8,.ae⟩
def t147:TI:=⟨.func,1,8,.ae⟩
def t148:TI:=⟨.func,1,8,.ae⟩
def t149:TI:=⟨.func,1,8,.ae⟩
def t151:TI:=⟨.func,1,8,.ae⟩
def t152:TI:=⟨.func,1,8,.ae⟩
def t154:TI:=⟨.func,1,8,.ae⟩
def t155:TI:=⟨.func,1,8,.ae⟩
def t156:TI:=⟨.func,1,8,.ae⟩
def t157:TI:=⟨.func,1,8,.ae⟩
def t158:TI:=⟨.func,1,8,.ae⟩
def t159:TI:=⟨.func,1,8,.ae⟩
def t160:TI:=⟨.func,1,8,.ae⟩
def t161:TI:=⟨.func,1,8,.ae⟩
def t162:TI:=⟨.func,1,8,.ae⟩
def t163:TI:=⟨.int .i64,1,8,.int .i64 0⟩
def t165:TI:=⟨.func,1,8,.ae⟩
def t166:TI:=⟨.func,1,8,.ae⟩
def t167:TI:=⟨.func,1,8,.ae⟩
def t168:TI:=⟨.func,1,8,.ae⟩
def t169:TI:=⟨.func,1,8,.ae⟩
def t170:TI:=⟨.func,1,8,.ae⟩
def t171:TI:=⟨.int .u32,1,4,.int .u32 0⟩
def t172:TI:=⟨.func,1,8,.ae⟩
def t173:TI:=⟨.int .u64,1,8,.int .u64 0⟩
def t174:TI:=⟨.func,1,8,.ae⟩
def t175:TI:=⟨.ptr 138,1,8,.aV⟩
def t176:TI:=⟨.func,1,8,.ae⟩
def t177:TI:=⟨.func,1,8,.ae⟩
def t178:TI:=⟨.int .i64,1,8,.int .i64 0⟩
def t179:TI:=⟨.slice 5,1,24,.nil⟩
def t181:TI:=⟨.func,1,8,.ae⟩
def t182:TI:=⟨.ptr 200,1,8,.aV⟩
def t183:TI:=⟨.func,1,8,.ae⟩
def t184:TI:=⟨.func,1,8,.ae⟩
def t185:TI:=⟨.func,1,8,.ae⟩
def t186:TI:=⟨.func,1,8,.ae⟩
def t187:TI:=⟨.func,1,8,.ae⟩
def t188:TI:=⟨.func,1,8,.ae⟩
def t189:TI:=⟨.func,1,8,.ae⟩
def t190:TI:=⟨.int .u64,1,8,.int .u64 0⟩
def t191:TI:=⟨.func,1,8,.ae⟩
def t192:TI:=⟨.func,1,8,.ae⟩
def t193:TI:=⟨.func,1,8,.ae⟩
def t194:TI:=⟨.ptr 3,1,8,.aV⟩
def t195:TI:=⟨.func,1,8,.ae⟩
def t197:TI:=⟨.func,1,8,.ae⟩
def t198:TI:=⟨.func,1,8,.ae⟩
def t199:TI:=⟨.struct [(0,9),(1,9),(2,103)] false,3,48,.agg [.str [],.str [],.gW true]⟩
def t200:TI:=⟨.struct [(0,9),(1,9),(2,103)] false,3,48,.agg [.str [],.str [],.gW true]⟩
def t201:TI:=⟨.func,1,8,.ae⟩
def t202:TI:=⟨.array 24 5,24,24,.agg [.int .u8 0,.int .u8 0,.int .u8 0,.int .u8 0,.int .u8 0,.int .u8 0,.int .u8 0,.int .u8 0,.int .u8 0,.int .u8 0,.int .u8 0,.int .u8 0,.int .u8 0,.int .u8 0,.int .u8 0,.int .u8 0,.int .u8 0,.int .u8 0,.int .u8 0,.int .u8 0,.int .u8 0,.int .u8 0,.int .u8 0,.int .u8 0]⟩
def t203:TI:=⟨.func,1,8,.ae⟩
def t205:TI:=⟨.func,1,8,.ae⟩
def t206:TI:=⟨.func,1,8,.ae⟩
def t207:TI:=⟨.func,1,8,.ae⟩
def t208:TI:=⟨.ptr 190,1,8,.aV⟩
def t209:TI:=⟨.func,1,8,.ae⟩
def t210:TI:=⟨.func,1,8,.ae⟩
def t211:TI:=⟨.ptr 5,1,8,.aV⟩
def t212:TI:=⟨.ptr 214,1,8,.aV⟩
def t213:TI:=⟨.struct [(0,9)] true,1,16,.agg [.str []]⟩
def t214:TI:=⟨.struct [(0,9)] true,1,16,.agg [.str []]⟩
def t215:TI:=⟨.func,1,8,.ae⟩
def t216:TI:=⟨.array 20 173,20,160,.agg [.int .u64 0,.int .u64 0,.int .u64 0,.int .u64 0,.int .u64 0,.int .u64 0,.int .u64 0,.int .u64 0,.int .u64 0,.int .u64 0,.int .u64 0,.int .u64 0,.int .u64 0,.int .u64 0,.int .u64 0,.int .u64 0,.int .u64 0,.int .u64 0,.int .u64 0,.int .u64 0]⟩
def t217:TI:=⟨.array 65 5,65,65,.agg [.int .u8 0,.int .u8 0,.int .u8 0,.int .u8 0,.int .u8 0,.int .u8 0,.int .u8 0,.int .u8 0,.int .u8 0,.int .u8 0,.int .u8 0,.int .u8 0,.int .u8 0,.int .u8 0,.int .u8 0,.int .u8 0,.int .u8 0,.int .u8 0,.int .u8 0,.int .u8 0,.int .u8 0,.int .u8 0,.int .u8 0,.int .u8 0,.int .u8 0,.int .u8 0,.int .u8 0,.int .u8 0,.int .u8 0,.int .u8 0,.int .u8 0,.int .u8 0,.int .u8 0,.int .u8 0,.int .u8 0,.int .u8 0,.int .u8 0,.int .u8 0,.int .u8 0,.int .u8 0,.int .u8 0,.int .u8 0,.int .u8 0,.int .u8 0,.int .u8 0,.int .u8 0,.int .u8 0,.int .u8 0,.int .u8 0,.int .u8 0,.int .u8 0,.int .u8 0,.int .u8 0,.int .u8 0,.int .u8 0,.int .u8 0,.int .u8 0,.int .u8 0,.int .u8 0,.int .u8 0,.int .u8 0,.int .u8 0,.int .u8 0,.int .u8 0,.int .u8 0]⟩
def t218:TI:=⟨.func,1,8,.ae⟩
def t219:TI:=⟨.array 32 5,32,32,.agg [.int .u8 0,.int .u8 0,.int .u8 0,.int .u8 0,.int .u8 0,.int .u8 0,.int .u8 0,.int .u8 0,.int .u8 0,.int .u8 0,.int .u8 0,.int .u8 0,.int .u8 0,.int .u8 0,.int .u8 0,.int .u8 0,.int .u8 0,.int .u8 0,.int .u8 0,.int .u8 0,.int .u8 0,.int .u8 0,.int .u8 0,.int .u8 0,.int .u8 0,.int .u8 0,.int .u8 0,.int .u8 0,.int .u8 0,.int .u8 0,.int .u8 0,.int .u8 0]⟩
def t220:TI:=⟨.array 64 5,64,64,.agg [.int .u8 0,.int .u8 0,.int .u8 0,.int .u8 0,.int .u8 0,.int .u8 0,.int .u8 0,.int .u8 0,.int .u8 0,.int .u8 0,.int .u8 0,.int .u8 0,.int .u8 0,.int .u8 0,.int .u8 0,.int .u8 0,.int .u8 0,.int .u8 0,.int .u8 0,.int .u8 0,.int .u8 0,.int .u8 0,.int .u8 0,.int .u8 0,.int .u8 0,.int .u8 0,.int .u8 0,.int .u8 0,.int .u8 0,.int .u8 0,.int .u8 0,.int .u8 0,.int .u8 0,.int .u8 0,.int .u8 0,.int .u8 0,.int .u8 0,.int .u8 0,.int .u8 0,.int .u8 0,.int .u8 0,.int .u8 0,.int .u8 0,.int .u8 0,.int .u8 0,.int .u8 0,.int .u8 0,.int .u8 0,.int .u8 0,.int .u8 0,.int .u8 0,.int .u8 0,.int .u8 0,.int .u8 0,.int .u8 0,.int .u8 0,.int .u8 0,.int .u8 0,.int .u8 0,.int .u8 0,.int .u8 0,.int .u8 0,.int .u8 0,.int .u8 0]⟩
def t221:TI:=⟨.struct [(0,17),(1,17),(2,17),(3,9)] false,4,40,.agg [.aV,.aV,.aV,.str []]⟩
def t222:TI:=⟨.struct [(0,17),(1,17),(2,17),(3,9)] false,4,40,.agg [.aV,.aV,.aV,.str []]⟩
def t223:TI:=⟨.array 0 16,0,0,.agg []⟩
def t224:TI:=⟨.struct [(0,223)] false,0,0,.agg []⟩
def t225:TI:=⟨.struct [(0,223)] false,0,0,.agg []⟩
def t226:TI:=⟨.func,1,8,.ae⟩
def t227:TI:=⟨.int .u8,1,1,.int .u8 0⟩
def t228:TI:=⟨.int .u8,1,1,.int .u8 0⟩
def t229:TI:=⟨.func,1,8,.ae⟩
def t230:TI:=⟨.int .i32,1,4,.int .i32 0⟩
def t231:TI:=⟨.int .i32,1,4,.int .i32 0⟩
def t232:TI:=⟨.struct [(0,12),(1,12),(2,171),(3,227),(4,5),(5,5),(6,228),(7,229),(8,211),(9,230),(10,231)] false,11,48,.agg [.int .u64 0,.int .u64 0,.int .u32 0,.int .u8 0,.int .u8 0,.int .u8 0,.int .u8 0,.ae,.aV,.int .i32 0,.int .i32 0]⟩
def t233:TI:=⟨.struct [(0,12),(1,12),(2,171),(3,227),(4,5),(5,5),(6,228),(7,229),(8,211),(9,230),(10,231)] false,11,48,.agg [.int .u64 0,.int .u64 0,.int .u32 0,.int .u8 0,.int .u8 0,.int .u8 0,.int .u8 0,.ae,.aV,.int .i32 0,.int .i32 0]⟩
def TB:aE:=[(2,t2),(3,t3),(4,t4),(5,t5),(9,t9),(20,t20),(21,t21),(22,t22),(23,t23),(24,t24),(25,t25),(26,t26),(27,t27),(28,t28),(29,t29),(30,t30),(31,t31),(33,t33),(34,t34),(35,t35),(36,t36),(37,t37),(38,t38),(39,t39),(40,t40),(41,t41),(42,t42),(43,t43),(44,t44),(45,t45),(47,t47),(48,t48),(49,t49),(50,t50),(51,t51),(52,t52),(53,t53),(54,t54),(55,t55),(56,t56),(57,t57),(58,t58),(59,t59),(60,t60),(61,t61),(62,t62),(63,t63),(64,t64),(65,t65),(66,t66),(67,t67),(68,t68),(69,t69),(70,t70),(71,t71),(72,t72),(73,t73),(74,t74),(75,t75),(76,t76),(77,t77),(78,t78),(79,t79),(80,t80),(81,t81),(82,t82),(83,t83),(84,t84),(85,t85),(86,t86),(87,t87),(88,t88),(89,t89),(90,t90),(91,t91),(92,t92),(93,t93),(94,t94),(95,t95),(96,t96),(97,t97),(98,t98),(99,t99),(101,t101),(102,t102),(103,t103),(105,t105),(106,t106),(107,t107),(108,t108),(109,t109),(110,t110),(112,t112),(113,t113),(114,t114),(115,t115),(116,t116),(117,t117),(118,t118),(119,t119),(120,t120),(121,t121),(122,t122),(123,t123),(124,t124),(125,t125),(126,t126),(127,t127),(128,t128),(129,t129),(130,t130),(131,t131),(132,t132),(134,t134),(135,t135),(136,t136),(137,t137),(138,t138),(139,t139),(140,t140),(141,t141),(142,t142),(143,t143),(144,t144),(145,t145),(146,t146),(147,t147),(148,t148),(149,t149),(151,t151),(152,t152),(154,t154),(155,t155),(156,t156),(157,t157),(158,t158),(159,t159),(160,t160),(161,t161),(162,t162),(163,t163),(165,t165),(166,t166),(167,t167),(168,t168),(169,t169),(170,t170),(171,t171),(172,t172),(173,t173),(174,t174),(175,t175),(176,t176),(177,t177),(178,t178),(179,t179),(181,t181),(182,t182),(183,t183),(184,t184),(185,t185),(186,t186),(187,t187),(188,t188),(189,t189),(190,t190),(191,t191),(192,t192),(193,t193),(194,t194),(195,t195),(197,t197),(198,t198),(199,t199),(200,t200),(201,t201),(202,t202),(203,t203),(205,t205),(206,t206),(207,t207),(208,t208),(209,t209),(210,t210),(211,t211),(212,t212),(213,t213),(214,t214),(215,t215),(216,t216),(217,t217),(218,t218),(219,t219),(220,t220),(221,t221),(222,t222),(223,t223),(224,t224),(225,t225),(226,t226),(227,t227),(228,t228),(229,t229),(230,t230),(231,t231),(232,t232),(233,t233)]
set_option maxRecDepth 10000 in
theorem MY:aE.get TB 2=some ⟨.int .i64,1,8,.int .i64 0⟩∧
 aE.get TB 3=some ⟨.int .i64,1,8,.int .i64 0⟩∧
 aE.get TB 4=some ⟨.bool,1,1,.bool false⟩∧
 aE.get TB 5=some ⟨.int .u8,1,1,.int .u8 0⟩∧
 aE.get TB 9=some ⟨.str,1,16,.str []⟩∧
 aE.get TB 20=some ⟨.gW,1,16,.gW true⟩∧
 aE.get TB 21=some ⟨.int .i32,1,4,.int .i32 0⟩∧
 aE.get TB 22=some ⟨.slice 67,1,24,.nil⟩∧
 aE.get TB 23=some ⟨.slice 53,1,24,.nil⟩∧
 aE.get TB 24=some ⟨.struct [(0,22),(1,23)] false,2,48,.agg [.nil,.nil]⟩∧
 aE.get TB 25=some ⟨.struct [(0,22),(1,23)] false,2,48,.agg [.nil,.nil]⟩∧
 aE.get TB 26=some ⟨.func,1,8,.ae⟩∧
 aE.get TB 27=some ⟨.func,1,8,.ae⟩∧
 aE.get TB 28=some ⟨.slice 40,1,24,.nil⟩∧
 aE.get TB 29=some ⟨.struct [(0,22),(1,28)] false,2,48,.agg [.nil,.nil]⟩∧
 aE.get TB 30=some ⟨.struct [(0,22),(1,28)] false,2,48,.agg [.nil,.nil]⟩∧
 aE.get TB 31=some ⟨.int .i64,1,8,.int .i64 0⟩∧
 aE.get TB 33=some ⟨.func,1,8,.ae⟩∧
 aE.get TB 34=some ⟨.func,1,8,.ae⟩∧
 aE.get TB 35=some ⟨.func,1,8,.ae⟩∧
 aE.get TB 36=some ⟨.slice 9,1,24,.nil⟩∧
 aE.get TB 37=some ⟨.slice 58,1,24,.nil⟩∧
 aE.get TB 38=some ⟨.slice 44,1,24,.nil⟩∧
 aE.get TB 39=some ⟨.struct [(0,9),(1,3),(2,36),(3,36),(4,4),(5,9),(6,37),(7,38)] false,8,144,.agg [.str [],.int .i64 0,.nil,.nil,.bool false,.str [],.nil,.nil]⟩∧
 aE.get TB 40=some ⟨.struct [(0,9),(1,3),(2,36),(3,36),(4,4),(5,9),(6,37),(7,38)] false,8,144,.agg [.str [],.int .i64 0,.list 1 [],.list 1 [],.bool false,.str [],.list 2 [],.list 7 []]⟩∧
 aE.get TB 41=some ⟨.func,1,8,.ae⟩∧
 aE.get TB 42=some ⟨.slice 93,1,24,.nil⟩∧
 aE.get TB 43=some ⟨.struct [(0,3),(1,9),(2,3),(3,37),(4,38),(5,28),(6,42)] false,7,128,.agg [.int .i64 0,.str [],.int .i64 0,.nil,.nil,.nil,.nil]⟩∧
 aE.get TB 44=some ⟨.struct [(0,3),(1,9),(2,3),(3,37),(4,38),(5,28),(6,42)] false,7,128,.agg [.int .i64 0,.str [],.int .i64 0,.list 2 [],.list 7 [],.list 8 [],.list 11 []]⟩∧
 aE.get TB 45=some ⟨.map 9 4,1,8,.bM⟩∧
 aE.get TB 47=some ⟨.func,1,8,.ae⟩∧
 aE.get TB 48=some ⟨.slice 51,1,24,.nil⟩∧
 aE.get TB 49=some ⟨.slice 131,1,24,.nil⟩∧
 aE.get TB 50=some ⟨.struct [(0,3),(1,9),(2,3),(3,3),(4,36),(5,48),(6,23),(7,49)] false,8,136,.agg [.int .i64 0,.str [],.int .i64 0,.int .i64 0,.nil,.nil,.nil,.nil]⟩∧
 aE.get TB 51=some ⟨.struct [(0,3),(1,9),(2,3),(3,3),(4,36),(5,48),(6,23),(7,49)] false,8,136,.agg [.int .i64 0,.str [],.int .i64 0,.int .i64 0,.list 1 [],.list 8 [],.list 9 [],.list 12 []]⟩∧
 aE.get TB 52=some ⟨.struct [(0,9),(1,51)] false,9,152,.agg [.str [],.int .i64 0,.str [],.int .i64 0,.int .i64 0,.nil,.nil,.nil,.nil]⟩∧
 aE.get TB 53=some ⟨.struct [(0,9),(1,51)] false,9,152,.agg [.str [],.int .i64 0,.str [],.int .i64 0,.int .i64 0,.list 1 [],.list 8 [],.list 9 [],.list 12 []]⟩∧
 aE.get TB 54=some ⟨.func,1,8,.ae⟩∧
 aE.get TB 55=some ⟨.func,1,8,.ae⟩∧
 aE.get TB 56=some ⟨.func,1,8,.ae⟩∧
 aE.get TB 57=some ⟨.struct [(0,9),(1,3)] true,2,24,.agg [.str [],.int .i64 0]⟩∧
 aE.get TB 58=some ⟨.struct [(0,9),(1,3)] true,2,24,.agg [.str [],.int .i64 0]⟩∧
 aE.get TB 59=some ⟨.func,1,8,.ae⟩∧
 aE.get TB 60=some ⟨.func,1,8,.ae⟩∧
 aE.get TB 61=some ⟨.func,1,8,.ae⟩∧
 aE.get TB 62=some ⟨.ptr 64,1,8,.aV⟩∧
 aE.get TB 63=some ⟨.struct [(0,3),(1,45)] false,2,16,.agg [.int .i64 0,.bM]⟩∧
 aE.get TB 64=some ⟨.struct [(0,3),(1,45)] false,2,16,.agg [.int .i64 0,.bM]⟩∧
 aE.get TB 65=some ⟨.func,1,8,.ae⟩∧
 aE.get TB 66=some ⟨.struct [(0,9),(1,3),(2,3),(3,3)] true,4,40,.agg [.str [],.int .i64 0,.int .i64 0,.int .i64 0]⟩∧
 aE.get TB 67=some ⟨.struct [(0,9),(1,3),(2,3),(3,3)] true,4,40,.agg [.str [],.int .i64 0,.int .i64 0,.int .i64 0]⟩∧
 aE.get TB 68=some ⟨.func,1,8,.ae⟩∧
 aE.get TB 69=some ⟨.ptr 71,1,8,.aV⟩∧
 aE.get TB 70=some ⟨.struct [(0,3),(1,36)] false,2,32,.agg [.int .i64 0,.nil]⟩∧
 aE.get TB 71=some ⟨.struct [(0,3),(1,36)] false,2,32,.agg [.int .i64 0,.nil]⟩∧
 aE.get TB 72=some ⟨.func,1,8,.ae⟩∧
 aE.get TB 73=some ⟨.func,1,8,.ae⟩∧
 aE.get TB 74=some ⟨.func,1,8,.ae⟩∧
 aE.get TB 75=some ⟨.func,1,8,.ae⟩∧
 aE.get TB 76=some ⟨.func,1,8,.ae⟩∧
 aE.get TB 77=some ⟨.func,1,8,.ae⟩∧
 aE.get TB 78=some ⟨.func,1,8,.ae⟩∧
 aE.get TB 79=some ⟨.func,1,8,.ae⟩∧
 aE.get TB 80=some ⟨.func,1,8,.ae⟩∧
 aE.get TB 81=some ⟨.ptr 84,1,8,.aV⟩∧
 aE.get TB 82=some ⟨.map 9 67,1,8,.bM⟩∧
 aE.get TB 83=some ⟨.struct [(0,82)] false,1,8,.agg [.bM]⟩∧
 aE.get TB 84=some ⟨.struct [(0,82)] false,1,8,.agg [.bM]⟩∧
 aE.get TB 85=some ⟨.func,1,8,.ae⟩∧
 aE.get TB 86=some ⟨.map 9 3,1,8,.bM⟩∧
 aE.get TB 87=some ⟨.func,1,8,.ae⟩∧
 aE.get TB 88=some ⟨.func,1,8,.ae⟩∧
 aE.get TB 89=some ⟨.array 4 67,16,160,.agg [.str [],.int .i64 0,.int .i64 0,.int .i64 0,.str [],.int .i64 0,.int .i64 0,.int .i64 0,.str [],.int .i64 0,.int .i64 0,.int .i64 0,.str [],.int .i64 0,.int .i64 0,.int .i64 0]⟩∧
 aE.get TB 90=some ⟨.func,1,8,.ae⟩∧
 aE.get TB 91=some ⟨.func,1,8,.ae⟩∧
 aE.get TB 92=some ⟨.struct [(0,3),(1,9),(2,3),(3,36),(4,44)] false,11,184,.agg [.int .i64 0,.str [],.int .i64 0,.nil,.int .i64 0,.str [],.int .i64 0,.nil,.nil,.nil,.nil]⟩∧
 aE.get TB 93=some ⟨.struct [(0,3),(1,9),(2,3),(3,36),(4,44)] false,11,184,.agg [.int .i64 0,.str [],.int .i64 0,.list 1 [],.int .i64 0,.str [],.int .i64 0,.list 2 [],.list 7 [],.list 8 [],.list 11 []]⟩∧
 aE.get TB 94=some ⟨.func,1,8,.ae⟩∧
 aE.get TB 95=some ⟨.func,1,8,.ae⟩∧
 aE.get TB 96=some ⟨.func,1,8,.ae⟩∧
 aE.get TB 97=some ⟨.func,1,8,.ae⟩∧
 aE.get TB 98=some ⟨.func,1,8,.ae⟩∧
 aE.get TB 99=some ⟨.func,1,8,.ae⟩∧
 aE.get TB 101=some ⟨.func,1,8,.ae⟩∧
 aE.get TB 102=some ⟨.gW,1,16,.gW true⟩∧
 aE.get TB 103=some ⟨.gW,1,16,.gW true⟩∧
 aE.get TB 105=some ⟨.func,1,8,.ae⟩∧
 aE.get TB 106=some ⟨.func,1,8,.ae⟩∧
 aE.get TB 107=some ⟨.func,1,8,.ae⟩∧
 aE.get TB 108=some ⟨.func,1,8,.ae⟩∧
 aE.get TB 109=some ⟨.func,1,8,.ae⟩∧
 aE.get TB 110=some ⟨.slice 114,1,24,.nil⟩∧
 aE.get TB 112=some ⟨.func,1,8,.ae⟩∧
 aE.get TB 113=some ⟨.struct [(0,28),(1,9),(2,44)] false,9,168,.agg [.nil,.str [],.int .i64 0,.str [],.int .i64 0,.nil,.nil,.nil,.nil]⟩∧
 aE.get TB 114=some ⟨.struct [(0,28),(1,9),(2,44)] false,9,168,.agg [.nil,.str [],.int .i64 0,.str [],.int .i64 0,.nil,.nil,.nil,.nil]⟩∧
 aE.get TB 115=some ⟨.func,1,8,.ae⟩∧
 aE.get TB 116=some ⟨.func,1,8,.ae⟩∧
 aE.get TB 117=some ⟨.func,1,8,.ae⟩∧
 aE.get TB 118=some ⟨.func,1,8,.ae⟩∧
 aE.get TB 119=some ⟨.func,1,8,.ae⟩∧
 aE.get TB 120=some ⟨.func,1,8,.ae⟩∧
 aE.get TB 121=some ⟨.func,1,8,.ae⟩∧
 aE.get TB 122=some ⟨.func,1,8,.ae⟩∧
 aE.get TB 123=some ⟨.func,1,8,.ae⟩∧
 aE.get TB 124=some ⟨.int .u64,1,8,.int .u64 0⟩∧
 aE.get TB 125=some ⟨.func,1,8,.ae⟩∧
 aE.get TB 126=some ⟨.func,1,8,.ae⟩∧
 aE.get TB 127=some ⟨.func,1,8,.ae⟩∧
 aE.get TB 128=some ⟨.func,1,8,.ae⟩∧
 aE.get TB 129=some ⟨.func,1,8,.ae⟩∧
 aE.get TB 130=some ⟨.struct [(0,3),(1,9),(2,3),(3,36),(4,51)] false,12,192,.agg [.int .i64 0,.str [],.int .i64 0,.nil,.int .i64 0,.str [],.int .i64 0,.int .i64 0,.nil,.nil,.nil,.nil]⟩∧
 aE.get TB 131=some ⟨.struct [(0,3),(1,9),(2,3),(3,36),(4,51)] false,12,192,.agg [.int .i64 0,.str [],.int .i64 0,.list 1 [],.int .i64 0,.str [],.int .i64 0,.int .i64 0,.list 1 [],.list 8 [],.list 9 [],.list 12 []]⟩∧
 aE.get TB 132=some ⟨.func,1,8,.ae⟩∧
 aE.get TB 134=some ⟨.func,1,8,.ae⟩∧
 aE.get TB 135=some ⟨.map 3 4,1,8,.bM⟩∧
 aE.get TB 136=some ⟨.func,1,8,.ae⟩∧
 aE.get TB 137=some ⟨.struct [(0,9),(1,3),(2,4)] true,3,32,.agg [.str [],.int .i64 0,.bool false]⟩∧
 aE.get TB 138=some ⟨.struct [(0,9),(1,3),(2,4)] true,3,32,.agg [.str [],.int .i64 0,.bool false]⟩∧
 aE.get TB 139=some ⟨.func,1,8,.ae⟩∧
 aE.get TB 140=some ⟨.func,1,8,.ae⟩∧
 aE.get TB 141=some ⟨.func,1,8,.ae⟩∧
 aE.get TB 142=some ⟨.func,1,8,.ae⟩∧
 aE.get TB 143=some ⟨.func,1,8,.ae⟩∧
 aE.get TB 144=some ⟨.func,1,8,.ae⟩∧
 aE.get TB 145=some ⟨.func,1,8,.ae⟩∧
 aE.get TB 146=some ⟨.func,1,8,.ae⟩∧
 aE.get TB 147=some ⟨.func,1,8,.ae⟩∧
 aE.get TB 148=some ⟨.func,1,8,.ae⟩∧
 aE.get TB 149=some ⟨.func,1,8,.ae⟩∧
 aE.get TB 151=some ⟨.func,1,8,.ae⟩∧
 aE.get TB 152=some ⟨.func,1,8,.ae⟩∧
 aE.get TB 154=some ⟨.func,1,8,.ae⟩∧
 aE.get TB 155=some ⟨.func,1,8,.ae⟩∧
 aE.get TB 156=some ⟨.func,1,8,.ae⟩∧
 aE.get TB 157=some ⟨.func,1,8,.ae⟩∧
 aE.get TB 158=some ⟨.func,1,8,.ae⟩∧
 aE.get TB 159=some ⟨.func,1,8,.ae⟩∧
 aE.get TB 160=some ⟨.func,1,8,.ae⟩∧
 aE.get TB 161=some ⟨.func,1,8,.ae⟩∧
 aE.get TB 162=some ⟨.func,1,8,.ae⟩∧
 aE.get TB 163=some ⟨.int .i64,1,8,.int .i64 0⟩∧
 aE.get TB 165=some ⟨.func,1,8,.ae⟩∧
 aE.get TB 166=some ⟨.func,1,8,.ae⟩∧
 aE.get TB 167=some ⟨.func,1,8,.ae⟩∧
 aE.get TB 168=some ⟨.func,1,8,.ae⟩∧
 aE.get TB 169=some ⟨.func,1,8,.ae⟩∧
 aE.get TB 170=some ⟨.func,1,8,.ae⟩∧
 aE.get TB 171=some ⟨.int .u32,1,4,.int .u32 0⟩∧
 aE.get TB 172=some ⟨.func,1,8,.ae⟩∧
 aE.get TB 173=some ⟨.int .u64,1,8,.int .u64 0⟩∧
 aE.get TB 174=some ⟨.func,1,8,.ae⟩∧
 aE.get TB 175=some ⟨.ptr 138,1,8,.aV⟩∧
 aE.get TB 176=some ⟨.func,1,8,.ae⟩∧
 aE.get TB 177=some ⟨.func,1,8,.ae⟩∧
 aE.get TB 178=some ⟨.int .i64,1,8,.int .i64 0⟩∧
 aE.get TB 179=some ⟨.slice 5,1,24,.nil⟩∧
 aE.get TB 181=some ⟨.func,1,8,.ae⟩∧
 aE.get TB 182=some ⟨.ptr 200,1,8,.aV⟩∧
 aE.get TB 183=some ⟨.func,1,8,.ae⟩∧
 aE.get TB 184=some ⟨.func,1,8,.ae⟩∧
 aE.get TB 185=some ⟨.func,1,8,.ae⟩∧
 aE.get TB 186=some ⟨.func,1,8,.ae⟩∧
 aE.get TB 187=some ⟨.func,1,8,.ae⟩∧
 aE.get TB 188=some ⟨.func,1,8,.ae⟩∧
 aE.get TB 189=some ⟨.func,1,8,.ae⟩∧
 aE.get TB 190=some ⟨.int .u64,1,8,.int .u64 0⟩∧
 aE.get TB 191=some ⟨.func,1,8,.ae⟩∧
 aE.get TB 192=some ⟨.func,1,8,.ae⟩∧
 aE.get TB 193=some ⟨.func,1,8,.ae⟩∧
 aE.get TB 194=some ⟨.ptr 3,1,8,.aV⟩∧
 aE.get TB 195=some ⟨.func,1,8,.ae⟩∧
 aE.get TB 197=some ⟨.func,1,8,.ae⟩∧
 aE.get TB 198=some ⟨.func,1,8,.ae⟩∧
 aE.get TB 199=some ⟨.struct [(0,9),(1,9),(2,103)] false,3,48,.agg [.str [],.str [],.gW true]⟩∧
 aE.get TB 200=some ⟨.struct [(0,9),(1,9),(2,103)] false,3,48,.agg [.str [],.str [],.gW true]⟩∧
 aE.get TB 201=some ⟨.func,1,8,.ae⟩∧
 aE.get TB 202=some ⟨.array 24 5,24,24,.agg [.int .u8 0,.int .u8 0,.int .u8 0,.int .u8 0,.int .u8 0,.int .u8 0,.int .u8 0,.int .u8 0,.int .u8 0,.int .u8 0,.int .u8 0,.int .u8 0,.int .u8 0,.int .u8 0,.int .u8 0,.int .u8 0,.int .u8 0,.int .u8 0,.int .u8 0,.int .u8 0,.int .u8 0,.int .u8 0,.int .u8 0,.int .u8 0]⟩∧
 aE.get TB 203=some ⟨.func,1,8,.ae⟩∧
 aE.get TB 205=some ⟨.func,1,8,.ae⟩∧
 aE.get TB 206=some ⟨.func,1,8,.ae⟩∧
 aE.get TB 207=some ⟨.func,1,8,.ae⟩∧
 aE.get TB 208=some ⟨.ptr 190,1,8,.aV⟩∧
 aE.get TB 209=some ⟨.func,1,8,.ae⟩∧
 aE.get TB 210=some ⟨.func,1,8,.ae⟩∧
 aE.get TB 211=some ⟨.ptr 5,1,8,.aV⟩∧
 aE.get TB 212=some ⟨.ptr 214,1,8,.aV⟩∧
 aE.get TB 213=some ⟨.struct [(0,9)] true,1,16,.agg [.str []]⟩∧
 aE.get TB 214=some ⟨.struct [(0,9)] true,1,16,.agg [.str []]⟩∧
 aE.get TB 215=some ⟨.func,1,8,.ae⟩∧
 aE.get TB 216=some ⟨.array 20 173,20,160,.agg [.int .u64 0,.int .u64 0,.int .u64 0,.int .u64 0,.int .u64 0,.int .u64 0,.int .u64 0,.int .u64 0,.int .u64 0,.int .u64 0,.int .u64 0,.int .u64 0,.int .u64 0,.int .u64 0,.int .u64 0,.int .u64 0,.int .u64 0,.int .u64 0,.int .u64 0,.int .u64 0]⟩∧
 aE.get TB 217=some ⟨.array 65 5,65,65,.agg [.int .u8 0,.int .u8 0,.int .u8 0,.int .u8 0,.int .u8 0,.int .u8 0,.int .u8 0,.int .u8 0,.int .u8 0,.int .u8 0,.int .u8 0,.int .u8 0,.int .u8 0,.int .u8 0,.int .u8 0,.int .u8 0,.int .u8 0,.int .u8 0,.int .u8 0,.int .u8 0,.int .u8 0,.int .u8 0,.int .u8 0,.int .u8 0,.int .u8 0,.int .u8 0,.int .u8 0,.int .u8 0,.int .u8 0,.int .u8 0,.int .u8 0,.int .u8 0,.int .u8 0,.int .u8 0,.int .u8 0,.int .u8 0,.int .u8 0,.int .u8 0,.int .u8 0,.int .u8 0,.int .u8 0,.int .u8 0,.int .u8 0,.int .u8 0,.int .u8 0,.int .u8 0,.int .u8 0,.int .u8 0,.int .u8 0,.int .u8 0,.int .u8 0,.int .u8 0,.int .u8 0,.int .u8 0,.int .u8 0,.int .u8 0,.int .u8 0,.int .u8 0,.int .u8 0,.int .u8 0,.int .u8 0,.int .u8 0,.int .u8 0,.int .u8 0,.int .u8 0]⟩∧
 aE.get TB 218=some ⟨.func,1,8,.ae⟩∧
 aE.get TB 219=some ⟨.array 32 5,32,32,.agg [.int .u8 0,.int .u8 0,.int .u8 0,.int .u8 0,.int .u8 0,.int .u8 0,.int .u8 0,.int .u8 0,.int .u8 0,.int .u8 0,.int .u8 0,.int .u8 0,.int .u8 0,.int .u8 0,.int .u8 0,.int .u8 0,.int .u8 0,.int .u8 0,.int .u8 0,.int .u8 0,.int .u8 0,.int .u8 0,.int .u8 0,.int .u8 0,.int .u8 0,.int .u8 0,.int .u8 0,.int .u8 0,.int .u8 0,.int .u8 0,.int .u8 0,.int .u8 0]⟩∧
 aE.get TB 220=some ⟨.array 64 5,64,64,.agg [.int .u8 0,.int .u8 0,.int .u8 0,.int .u8 0,.int .u8 0,.int .u8 0,.int .u8 0,.int .u8 0,.int .u8 0,.int .u8 0,.int .u8 0,.int .u8 0,.int .u8 0,.int .u8 0,.int .u8 0,.int .u8 0,.int .u8 0,.int .u8 0,.int .u8 0,.int .u8 0,.int .u8 0,.int .u8 0,.int .u8 0,.int .u8 0,.int .u8 0,.int .u8 0,.int .u8 0,.int .u8 0,.int .u8 0,.int .u8 0,.int .u8 0,.int .u8 0,.int .u8 0,.int .u8 0,.int .u8 0,.int .u8 0,.int .u8 0,.int .u8 0,.int .u8 0,.int .u8 0,.int .u8 0,.int .u8 0,.int .u8 0,.int .u8 0,.int .u8 0,.int .u8 0,.int .u8 0,.int .u8 0,.int .u8 0,.int .u8 0,.int .u8 0,.int .u8 0,.int .u8 0,.int .u8 0,.int .u8 0,.int .u8 0,.int .u8 0,.int .u8 0,.int .u8 0,.int .u8 0,.int .u8 0,.int .u8 0,.int .u8 0,.int .u8 0]⟩∧
 aE.get TB 221=some ⟨.struct [(0,17),(1,17),(2,17),(3,9)] false,4,40,.agg [.aV,.aV,.aV,.str []]⟩∧
 aE.get TB 222=some ⟨.struct [(0,17),(1,17),(2,17),(3,9)] false,4,40,.agg [.aV,.aV,.aV,.str []]⟩∧
 aE.get TB 223=some ⟨.array 0 16,0,0,.agg []⟩∧
 aE.get TB 224=some ⟨.struct [(0,223)] false,0,0,.agg []⟩∧
 aE.get TB 225=some ⟨.struct [(0,223)] false,0,0,.agg []⟩∧
 aE.get TB 226=some ⟨.func,1,8,.ae⟩∧
 aE.get TB 227=some ⟨.int .u8,1,1,.int .u8 0⟩∧
 aE.get TB 228=some ⟨.int .u8,1,1,.int .u8 0⟩∧
 aE.get TB 229=some ⟨.func,1,8,.ae⟩∧
 aE.get TB 230=some ⟨.int .i32,1,4,.int .i32 0⟩∧
 aE.get TB 231=some ⟨.int .i32,1,4,.int .i32 0⟩∧
 aE.get TB 232=some ⟨.struct [(0,12),(1,12),(2,171),(3,227),(4,5),(5,5),(6,228),(7,229),(8,211),(9,230),(10,231)] false,11,48,.agg [.int .u64 0,.int .u64 0,.int .u32 0,.int .u8 0,.int .u8 0,.int .u8 0,.int .u8 0,.ae,.aV,.int .i32 0,.int .i32 0]⟩∧
 aE.get TB 233=some ⟨.struct [(0,12),(1,12),(2,171),(3,227),(4,5),(5,5),(6,228),(7,229),(8,211),(9,230),(10,231)] false,11,48,.agg [.int .u64 0,.int .u64 0,.int .u32 0,.int .u8 0,.int .u8 0,.int .u8 0,.int .u8 0,.ae,.aV,.int .i32 0,.int .i32 0]⟩:=
 ⟨rfl,rfl,rfl,rfl,rfl,rfl,rfl,rfl,rfl,rfl,rfl,rfl,rfl,rfl,rfl,rfl,rfl,rfl,rfl,rfl,rfl,rfl,rfl,rfl,rfl,rfl,rfl,rfl,rfl,rfl,rfl,rfl,rfl,rfl,rfl,rfl,rfl,rfl,rfl,rfl,rfl,rfl,rfl,rfl,rfl,rfl,rfl,rfl,rfl,rfl,rfl,rfl,rfl,rfl,rfl,rfl,rfl,rfl,rfl,rfl,rfl,rfl,rfl,rfl,rfl,rfl,rfl,rfl,rfl,rfl,rfl,rfl,rfl,rfl,rfl,rfl,rfl,rfl,rfl,rfl,rfl,rfl,rfl,rfl,rfl,rfl,rfl,rfl,rfl,rfl,rfl,rfl,rfl,rfl,rfl,rfl,rfl,rfl,rfl,rfl,rfl,rfl,rfl,rfl,rfl,rfl,rfl,rfl,rfl,rfl,rfl,rfl,rfl,rfl,rfl,rfl,rfl,rfl,rfl,rfl,rfl,rfl,rfl,rfl,rfl,rfl,rfl,rfl,rfl,rfl,rfl,rfl,rfl,rfl,rfl,rfl,rfl,rfl,rfl,rfl,rfl,rfl,rfl,rfl,rfl,rfl,rfl,rfl,rfl,rfl,rfl,rfl,rfl,rfl,rfl,rfl,rfl,rfl,rfl,rfl,rfl,rfl,rfl,rfl,rfl,rfl,rfl,rfl,rfl,rfl,rfl,rfl,rfl,rfl,rfl,rfl,rfl,rfl,rfl,rfl,rfl,rfl,rfl,rfl,rfl,rfl,rfl,rfl,rfl,rfl,rfl,rfl,rfl,rfl,rfl,rfl,rfl,rfl,rfl,rfl,rfl,rfl,rfl,rfl,rfl,rfl,rfl⟩
theorem M8:aN Tryz.prog 2 t2:=ah (.int .i64 0) (ay.refl _) Tryz.underlying2 (by kernel_rfl)
theorem M9:aN Tryz.prog 3 t3:=ah (.int .i64 0) (ay.refl _) Tryz.underlying3 (by kernel_rfl)
theorem Na:aN Tryz.prog 4 t4:=ah (.bool false) (ay.refl _) Tryz.underlying4 (by kernel_rfl)
theorem Nb:aN Tryz.prog 5 t5:=ah (.int .u8 0) (ay.refl _) Tryz.underlying5 (by kernel_rfl)
theorem Nc:aN Tryz.prog 9 t9:=ah (.str []) (ay.refl _) Tryz.underlying9 (by kernel_rfl)
theorem Lf:aN Tryz.prog 20 t20:=ah (.gW true) (ay.refl _) ⟨_,Tryz.underlying20⟩ (by kernel_rfl)
theorem Lg:aN Tryz.prog 21 t21:=ah (.int .i32 0) (ay.refl _) Tryz.underlying21 (by kernel_rfl)
theorem Lh:aN Tryz.prog 22 t22:=ah (.nil) (ay.refl _) Tryz.underlying22 (by kernel_rfl)
theorem Li:aN Tryz.prog 23 t23:=ah (.nil) (ay.refl _) Tryz.underlying23 (by kernel_rfl)
theorem Lj:aN Tryz.prog 24 t24:=ah (.agg [.nil,.nil]) (ay.refl _) ⟨⟨_,Tryz.underlying24,rfl⟩,fun h=>by cases h⟩ (by kernel_rfl)
theorem Lk:aN Tryz.prog 25 t25:=ah (.agg [.nil,.nil]) (ay.refl _) ⟨⟨_,Tryz.underlying25,rfl⟩,fun h=>by cases h⟩ (by kernel_rfl)
theorem Ll:aN Tryz.prog 26 t26:=ah (.ae) (ay.refl _) ⟨_,_,_,Tryz.underlying26⟩ (by kernel_rfl)
theorem Lm:aN Tryz.prog 27 t27:=ah (.ae) (ay.refl _) ⟨_,_,_,Tryz.underlying27⟩ (by kernel_rfl)
theorem Ln:aN Tryz.prog 28 t28:=ah (.nil) (ay.refl _) Tryz.underlying28 (by kernel_rfl)
theorem Lo:aN Tryz.prog 29 t29:=ah (.agg [.nil,.nil]) (ay.refl _) ⟨⟨_,Tryz.underlying29,rfl⟩,fun h=>by cases h⟩ (by kernel_rfl)
theorem Lp:aN Tryz.prog 30 t30:=ah (.agg [.nil,.nil]) (ay.refl _) ⟨⟨_,Tryz.underlying30,rfl⟩,fun h=>by cases h⟩ (by kernel_rfl)
theorem Lq:aN Tryz.prog 31 t31:=ah (.int .i64 0) (ay.refl _) Tryz.underlying31 (by kernel_rfl)
theorem Lr:aN Tryz.prog 33 t33:=ah (.ae) (ay.refl _) ⟨_,_,_,Tryz.underlying33⟩ (by kernel_rfl)
theorem Ls:aN Tryz.prog 34 t34:=ah (.ae) (ay.refl _) ⟨_,_,_,Tryz.underlying34⟩ (by kernel_rfl)
theorem Lt:aN Tryz.prog 35 t35:=ah (.ae) (ay.refl _) ⟨_,_,_,Tryz.underlying35⟩ (by kernel_rfl)
theorem Lu:aN Tryz.prog 36 t36:=ah (.nil) (ay.refl _) Tryz.underlying36 (by kernel_rfl)
theorem Lv:aN Tryz.prog 37 t37:=ah (.nil) (ay.refl _) Tryz.underlying37 (by kernel_rfl)
theorem Lw:aN Tryz.prog 38 t38:=ah (.nil) (ay.refl _) Tryz.underlying38 (by kernel_rfl)
theorem Lx:aN Tryz.prog 39 t39:=ah (.agg [.str [],.int .i64 0,.nil,.nil,.bool false,.str [],.nil,.nil]) (ay.refl _) ⟨⟨_,Tryz.underlying39,rfl⟩,fun h=>by cases h⟩ (by kernel_rfl)
theorem Ly:aN Tryz.prog 40 t40:=ah (.agg [.str [],.int .i64 0,.nil,.nil,.bool false,.str [],.nil,.nil]) (by simp[ay,iT,Told,t40]) ⟨⟨_,Tryz.underlying40,rfl⟩,fun h=>by cases h⟩ (by kernel_rfl)
theorem Lz:aN Tryz.prog 41 t41:=ah (.ae) (ay.refl _) ⟨_,_,_,Tryz.underlying41⟩ (by kernel_rfl)
theorem LA:aN Tryz.prog 42 t42:=ah (.nil) (ay.refl _) Tryz.underlying42 (by kernel_rfl)
theorem LC:aN Tryz.prog 43 t43:=ah (.agg [.int .i64 0,.str [],.int .i64 0,.nil,.nil,.nil,.nil]) (ay.refl _) ⟨⟨_,Tryz.underlying43,rfl⟩,fun h=>by cases h⟩ (by kernel_rfl)
theorem LD:aN Tryz.prog 44 t44:=ah (.agg [.int .i64 0,.str [],.int .i64 0,.nil,.nil,.nil,.nil]) (by simp[ay,iT,Told,t44]) ⟨⟨_,Tryz.underlying44,rfl⟩,fun h=>by cases h⟩ (by kernel_rfl)
theorem LF:aN Tryz.prog 45 t45:=ah (.bM) (ay.refl _) Tryz.underlying45 (by kernel_rfl)
theorem LG:aN Tryz.prog 47 t47:=ah (.ae) (ay.refl _) ⟨_,_,_,Tryz.underlying47⟩ (by kernel_rfl)
theorem LH:aN Tryz.prog 48 t48:=ah (.nil) (ay.refl _) Tryz.underlying48 (by kernel_rfl)
theorem LI:aN Tryz.prog 49 t49:=ah (.nil) (ay.refl _) Tryz.underlying49 (by kernel_rfl)
theorem LJ:aN Tryz.prog 50 t50:=ah (.agg [.int .i64 0,.str [],.int .i64 0,.int .i64 0,.nil,.nil,.nil,.nil]) (ay.refl _) ⟨⟨_,Tryz.underlying50,rfl⟩,fun h=>by cases h⟩ (by kernel_rfl)
theorem LK:aN Tryz.prog 51 t51:=ah (.agg [.int .i64 0,.str [],.int .i64 0,.int .i64 0,.nil,.nil,.nil,.nil]) (by simp[ay,iT,Told,t51]) ⟨⟨_,Tryz.underlying51,rfl⟩,fun h=>by cases h⟩ (by kernel_rfl)
theorem LL:aN Tryz.prog 52 t52:=ah (.agg [.str [],.int .i64 0,.str [],.int .i64 0,.int .i64 0,.nil,.nil,.nil,.nil]) (ay.refl _) ⟨⟨_,Tryz.underlying52,rfl⟩,fun h=>by cases h⟩ (by kernel_rfl)
theorem LM:aN Tryz.prog 53 t53:=ah (.agg [.str [],.int .i64 0,.str [],.int .i64 0,.int .i64 0,.nil,.nil,.nil,.nil]) (by simp[ay,iT,Told,t53]) ⟨⟨_,Tryz.underlying53,rfl⟩,fun h=>by cases h⟩ (by kernel_rfl)
theorem LN:aN Tryz.prog 54 t54:=ah (.ae) (ay.refl _) ⟨_,_,_,Tryz.underlying54⟩ (by kernel_rfl)
theorem LQ:aN Tryz.prog 55 t55:=ah (.ae) (ay.refl _) ⟨_,_,_,Tryz.underlying55⟩ (by kernel_rfl)
theorem LR:aN Tryz.prog 56 t56:=ah (.ae) (ay.refl _) ⟨_,_,_,Tryz.underlying56⟩ (by kernel_rfl)
theorem LS:aN Tryz.prog 57 t57:=ah (.agg [.str [],.int .i64 0]) (ay.refl _) ⟨⟨_,Tryz.underlying57,rfl⟩,fun _=>fa (by kernel_rfl)⟩ (by kernel_rfl)
theorem LU:aN Tryz.prog 58 t58:=ah (.agg [.str [],.int .i64 0]) (ay.refl _) ⟨⟨_,Tryz.underlying58,rfl⟩,fun _=>fa (by kernel_rfl)⟩ (by kernel_rfl)
theorem LV:aN Tryz.prog 59 t59:=ah (.ae) (ay.refl _) ⟨_,_,_,Tryz.underlying59⟩ (by kernel_rfl)
theorem LW:aN Tryz.prog 60 t60:=ah (.ae) (ay.refl _) ⟨_,_,_,Tryz.underlying60⟩ (by kernel_rfl)
theorem LX:aN Tryz.prog 61 t61:=ah (.ae) (ay.refl _) ⟨_,_,_,Tryz.underlying61⟩ (by kernel_rfl)
theorem LY:aN Tryz.prog 62 t62:=ah (.aV) (ay.refl _) Tryz.underlying62 (by kernel_rfl)
theorem LZ:aN Tryz.prog 63 t63:=ah (.agg [.int .i64 0,.bM]) (ay.refl _) ⟨⟨_,Tryz.underlying63,rfl⟩,fun h=>by cases h⟩ (by kernel_rfl)
theorem L0:aN Tryz.prog 64 t64:=ah (.agg [.int .i64 0,.bM]) (ay.refl _) ⟨⟨_,Tryz.underlying64,rfl⟩,fun h=>by cases h⟩ (by kernel_rfl)
theorem L3:aN Tryz.prog 65 t65:=ah (.ae) (ay.refl _) ⟨_,_,_,Tryz.underlying65⟩ (by kernel_rfl)
theorem L5:aN Tryz.prog 66 t66:=ah (.agg [.str [],.int .i64 0,.int .i64 0,.int .i64 0]) (ay.refl _) ⟨⟨_,Tryz.underlying66,rfl⟩,fun _=>fa (by kernel_rfl)⟩ (by kernel_rfl)
theorem L6:aN Tryz.prog 67 t67:=ah (.agg [.str [],.int .i64 0,.int .i64 0,.int .i64 0]) (ay.refl _) ⟨⟨_,Tryz.underlying67,rfl⟩,fun _=>fa (by kernel_rfl)⟩ (by kernel_rfl)
theorem L7:aN Tryz.prog 68 t68:=ah (.ae) (ay.refl _) ⟨_,_,_,Tryz.underlying68⟩ (by kernel_rfl)
theorem L8:aN Tryz.prog 69 t69:=ah (.aV) (ay.refl _) Tryz.underlying69 (by kernel_rfl)
theorem L9:aN Tryz.prog 70 t70:=ah (.agg [.int .i64 0,.nil]) (ay.refl _) ⟨⟨_,Tryz.underlying70,rfl⟩,fun h=>by cases h⟩ (by kernel_rfl)
theorem Ma:aN Tryz.prog 71 t71:=ah (.agg [.int .i64 0,.nil]) (ay.refl _) ⟨⟨_,Tryz.underlying71,rfl⟩,fun h=>by cases h⟩ (by kernel_rfl)
theorem Mb:aN Tryz.prog 72 t72:=ah (.ae) (ay.refl _) ⟨_,_,_,Tryz.underlying72⟩ (by kernel_rfl)
theorem Mc:aN Tryz.prog 73 t73:=ah (.ae) (ay.refl _) ⟨_,_,_,Tryz.underlying73⟩ (by kernel_rfl)
theorem Md:aN Tryz.prog 74 t74:=ah (.ae) (ay.refl _) ⟨_,_,_,Tryz.underlying74⟩ (by kernel_rfl)
theorem Me:aN Tryz.prog 75 t75:=ah (.ae) (ay.refl _) ⟨_,_,_,Tryz.underlying75⟩ (by kernel_rfl)
theorem Mf:aN Tryz.prog 76 t76:=ah (.ae) (ay.refl _) ⟨_,_,_,Tryz.underlying76⟩ (by kernel_rfl)
theorem Mg:aN Tryz.prog 77 t77:=ah (.ae) (ay.refl _) ⟨_,_,_,Tryz.underlying77⟩ (by kernel_rfl)
theorem Mh:aN Tryz.prog 78 t78:=ah (.ae) (ay.refl _) ⟨_,_,_,Tryz.underlying78⟩ (by kernel_rfl)
theorem Mi:aN Tryz.prog 79 t79:=ah (.ae) (ay.refl _) ⟨_,_,_,Tryz.underlying79⟩ (by kernel_rfl)
theorem Mj:aN Tryz.prog 80 t80:=ah (.ae) (ay.refl _) ⟨_,_,_,Tryz.underlying80⟩ (by kernel_rfl)
theorem Mk:aN Tryz.prog 81 t81:=ah (.aV) (ay.refl _) Tryz.underlying81 (by kernel_rfl)
theorem Ml:aN Tryz.prog 82 t82:=ah (.bM) (ay.refl _) Tryz.underlying82 (by kernel_rfl)
theorem Mm:aN Tryz.prog 83 t83:=ah (.agg [.bM]) (ay.refl _) ⟨⟨_,Tryz.underlying83,rfl⟩,fun h=>by cases h⟩ (by kernel_rfl)
theorem Mn:aN Tryz.prog 84 t84:=ah (.agg [.bM]) (ay.refl _) ⟨⟨_,Tryz.underlying84,rfl⟩,fun h=>by cases h⟩ (by kernel_rfl)
theorem Mo:aN Tryz.prog 85 t85:=ah (.ae) (ay.refl _) ⟨_,_,_,Tryz.underlying85⟩ (by kernel_rfl)
theorem Mp:aN Tryz.prog 86 t86:=ah (.bM) (ay.refl _) Tryz.underlying86 (by kernel_rfl)
theorem Mq:aN Tryz.prog 87 t87:=ah (.ae) (ay.refl _) ⟨_,_,_,Tryz.underlying87⟩ (by kernel_rfl)
theorem Mr:aN Tryz.prog 88 t88:=ah (.ae) (ay.refl _) ⟨_,_,_,Tryz.underlying88⟩ (by kernel_rfl)
theorem Ms:aN Tryz.prog 89 t89:=ah (.agg [.str [],.int .i64 0,.int .i64 0,.int .i64 0,.str [],.int .i64 0,.int .i64 0,.int .i64 0,.str [],.int .i64 0,.int .i64 0,.int .i64 0,.str [],.int .i64 0,.int .i64 0,.int .i64 0]) (ay.refl _) Tryz.underlying89 (by kernel_rfl)
theorem Mt:aN Tryz.prog 90 t90:=ah (.ae) (ay.refl _) ⟨_,_,_,Tryz.underlying90⟩ (by kernel_rfl)
theorem Mu:aN Tryz.prog 91 t91:=ah (.ae) (ay.refl _) ⟨_,_,_,Tryz.underlying91⟩ (by kernel_rfl)
theorem Mv:aN Tryz.prog 92 t92:=ah (.agg [.int .i64 0,.str [],.int .i64 0,.nil,.int .i64 0,.str [],.int .i64 0,.nil,.nil,.nil,.nil]) (ay.refl _) ⟨⟨_,Tryz.underlying92,rfl⟩,fun h=>by cases h⟩ (by kernel_rfl)
theorem Mw:aN Tryz.prog 93 t93:=ah (.agg [.int .i64 0,.str [],.int .i64 0,.nil,.int .i64 0,.str [],.int .i64 0,.nil,.nil,.nil,.nil]) (by simp[ay,iT,Told,t93]) ⟨⟨_,Tryz.underlying93,rfl⟩,fun h=>by cases h⟩ (by kernel_rfl)
theorem Mx:aN Tryz.prog 94 t94:=ah (.ae) (ay.refl _) ⟨_,_,_,Tryz.underlying94⟩ (by kernel_rfl)
theorem My:aN Tryz.prog 95 t95:=ah (.ae) (ay.refl _) ⟨_,_,_,Tryz.underlying95⟩ (by kernel_rfl)
theorem Mz:aN Tryz.prog 96 t96:=ah (.ae) (ay.refl _) ⟨_,_,_,Tryz.underlying96⟩ (by kernel_rfl)
theorem MA:aN Tryz.prog 97 t97:=ah (.ae) (ay.refl _) ⟨_,_,_,Tryz.underlying97⟩ (by kernel_rfl)
theorem MB:aN Tryz.prog 98 t98:=ah (.ae) (ay.refl _) ⟨_,_,_,Tryz.underlying98⟩ (by kernel_rfl)
theorem MC:aN Tryz.prog 99 t99:=ah (.ae) (ay.refl _) ⟨_,_,_,Tryz.underlying99⟩ (by kernel_rfl)
theorem Iq:aN Tryz.prog 101 t101:=ah (.ae) (ay.refl _) ⟨_,_,_,Tryz.underlying101⟩ (by kernel_rfl)
theorem Ir:aN Tryz.prog 102 t102:=ah (.gW true) (ay.refl _) ⟨_,Tryz.underlying102⟩ (by kernel_rfl)
theorem Is:aN Tryz.prog 103 t103:=ah (.gW true) (ay.refl _) ⟨_,Tryz.underlying103⟩ (by kernel_rfl)
theorem Iu:aN Tryz.prog 105 t105:=ah (.ae) (ay.refl _) ⟨_,_,_,Tryz.underlying105⟩ (by kernel_rfl)
theorem Iv:aN Tryz.prog 106 t106:=ah (.ae) (ay.refl _) ⟨_,_,_,Tryz.underlying106⟩ (by kernel_rfl)
theorem Iw:aN Tryz.prog 107 t107:=ah (.ae) (ay.refl _) ⟨_,_,_,Tryz.underlying107⟩ (by kernel_rfl)
theorem Ix:aN Tryz.prog 108 t108:=ah (.ae) (ay.refl _) ⟨_,_,_,Tryz.underlying108⟩ (by kernel_rfl)
theorem Iy:aN Tryz.prog 109 t109:=ah (.ae) (ay.refl _) ⟨_,_,_,Tryz.underlying109⟩ (by kernel_rfl)
theorem Iz:aN Tryz.prog 110 t110:=ah (.nil) (ay.refl _) Tryz.underlying110 (by kernel_rfl)
theorem IA:aN Tryz.prog 112 t112:=ah (.ae) (ay.refl _) ⟨_,_,_,Tryz.underlying112⟩ (by kernel_rfl)
theorem IB:aN Tryz.prog 113 t113:=ah (.agg [.nil,.str [],.int .i64 0,.str [],.int .i64 0,.nil,.nil,.nil,.nil]) (ay.refl _) ⟨⟨_,Tryz.underlying113,rfl⟩,fun h=>by cases h⟩ (by kernel_rfl)
theorem IC:aN Tryz.prog 114 t114:=ah (.agg [.nil,.str [],.int .i64 0,.str [],.int .i64 0,.nil,.nil,.nil,.nil]) (ay.refl _) ⟨⟨_,Tryz.underlying114,rfl⟩,fun h=>by cases h⟩ (by kernel_rfl)
theorem ID:aN Tryz.prog 115 t115:=ah (.ae) (ay.refl _) ⟨_,_,_,Tryz.underlying115⟩ (by kernel_rfl)
theorem IE:aN Tryz.prog 116 t116:=ah (.ae) (ay.refl _) ⟨_,_,_,Tryz.underlying116⟩ (by kernel_rfl)
theorem IF:aN Tryz.prog 117 t117:=ah (.ae) (ay.refl _) ⟨_,_,_,Tryz.underlying117⟩ (by kernel_rfl)
theorem IG:aN Tryz.prog 118 t118:=ah (.ae) (ay.refl _) ⟨_,_,_,Tryz.underlying118⟩ (by kernel_rfl)
theorem IH:aN Tryz.prog 119 t119:=ah (.ae) (ay.refl _) ⟨_,_,_,Tryz.underlying119⟩ (by kernel_rfl)
theorem II:aN Tryz.prog 120 t120:=ah (.ae) (ay.refl _) ⟨_,_,_,Tryz.underlying120⟩ (by kernel_rfl)
theorem IJ:aN Tryz.prog 121 t121:=ah (.ae) (ay.refl _) ⟨_,_,_,Tryz.underlying121⟩ (by kernel_rfl)
theorem IK:aN Tryz.prog 122 t122:=ah (.ae) (ay.refl _) ⟨_,_,_,Tryz.underlying122⟩ (by kernel_rfl)
theorem IL:aN Tryz.prog 123 t123:=ah (.ae) (ay.refl _) ⟨_,_,_,Tryz.underlying123⟩ (by kernel_rfl)
theorem IM:aN Tryz.prog 124 t124:=ah (.int .u64 0) (ay.refl _) Tryz.underlying124 (by kernel_rfl)
theorem IN:aN Tryz.prog 125 t125:=ah (.ae) (ay.refl _) ⟨_,_,_,Tryz.underlying125⟩ (by kernel_rfl)
theorem IP:aN Tryz.prog 126 t126:=ah (.ae) (ay.refl _) ⟨_,_,_,Tryz.underlying126⟩ (by kernel_rfl)
theorem IQ:aN Tryz.prog 127 t127:=ah (.ae) (ay.refl _) ⟨_,_,_,Tryz.underlying127⟩ (by kernel_rfl)
theorem IS:aN Tryz.prog 128 t128:=ah (.ae) (ay.refl _) ⟨_,_,_,Tryz.underlying128⟩ (by kernel_rfl)
theorem IT:aN Tryz.prog 129 t129:=ah (.ae) (ay.refl _) ⟨_,_,_,Tryz.underlying129⟩ (by kernel_rfl)
theorem IU:aN Tryz.prog 130 t130:=ah (.agg [.int .i64 0,.str [],.int .i64 0,.nil,.int .i64 0,.str [],.int .i64 0,.int .i64 0,.nil,.nil,.nil,.nil]) (ay.refl _) ⟨⟨_,Tryz.underlying130,rfl⟩,fun h=>by cases h⟩ (by kernel_rfl)
theorem IV:aN Tryz.prog 131 t131:=ah (.agg [.int .i64 0,.str [],.int .i64 0,.nil,.int .i64 0,.str [],.int .i64 0,.int .i64 0,.nil,.nil,.nil,.nil]) (by simp[ay,iT,Told,t131]) ⟨⟨_,Tryz.underlying131,rfl⟩,fun h=>by cases h⟩ (by kernel_rfl)
theorem IW:aN Tryz.prog 132 t132:=ah (.ae) (ay.refl _) ⟨_,_,_,Tryz.underlying132⟩ (by kernel_rfl)
theorem IX:aN Tryz.prog 134 t134:=ah (.ae) (ay.refl _) ⟨_,_,_,Tryz.underlying134⟩ (by kernel_rfl)
theorem IY:aN Tryz.prog 135 t135:=ah (.bM) (ay.refl _) Tryz.underlying135 (by kernel_rfl)
theorem IZ:aN Tryz.prog 136 t136:=ah (.ae) (ay.refl _) ⟨_,_,_,Tryz.underlying136⟩ (by kernel_rfl)
theorem I0:aN Tryz.prog 137 t137:=ah (.agg [.str [],.int .i64 0,.bool false]) (ay.refl _) ⟨⟨_,Tryz.underlying137,rfl⟩,fun _=>fa (by kernel_rfl)⟩ (by kernel_rfl)
theorem I1:aN Tryz.prog 138 t138:=ah (.agg [.str [],.int .i64 0,.bool false]) (ay.refl _) ⟨⟨_,Tryz.underlying138,rfl⟩,fun _=>fa (by kernel_rfl)⟩ (by kernel_rfl)
theorem I2:aN Tryz.prog 139 t139:=ah (.ae) (ay.refl _) ⟨_,_,_,Tryz.underlying139⟩ (by kernel_rfl)
theorem I3:aN Tryz.prog 140 t140:=ah (.ae) (ay.refl _) ⟨_,_,_,Tryz.underlying140⟩ (by kernel_rfl)
theorem I4:aN Tryz.prog 141 t141:=ah (.ae) (ay.refl _) ⟨_,_,_,Tryz.underlying141⟩ (by kernel_rfl)
theorem I5:aN Tryz.prog 142 t142:=ah (.ae) (ay.refl _) ⟨_,_,_,Tryz.underlying142⟩ (by kernel_rfl)
theorem I6:aN Tryz.prog 143 t143:=ah (.ae) (ay.refl _) ⟨_,_,_,Tryz.underlying143⟩ (by kernel_rfl)
theorem I7:aN Tryz.prog 144 t144:=ah (.ae) (ay.refl _) ⟨_,_,_,Tryz.underlying144⟩ (by kernel_rfl)
theorem I8:aN Tryz.prog 145 t145:=ah (.ae) (ay.refl _) ⟨_,_,_,Tryz.underlying145⟩ (by kernel_rfl)
theorem I9:aN Tryz.prog 146 t146:=ah (.ae) (ay.refl _) ⟨_,_,_,Tryz.underlying146⟩ (by kernel_rfl)
theorem Ja:aN Tryz.prog 147 t147:=ah (.ae) (ay.refl _) ⟨_,_,_,Tryz.underlying147⟩ (by kernel_rfl)
theorem Jb:aN Tryz.prog 148 t148:=ah (.ae) (ay.refl _) ⟨_,_,_,Tryz.underlying148⟩ (by kernel_rfl)
theorem Jc:aN Tryz.prog 149 t149:=ah (.ae) (ay.refl _) ⟨_,_,_,Tryz.underlying149⟩ (by kernel_rfl)
theorem Jd:aN Tryz.prog 151 t151:=ah (.ae) (ay.refl _) ⟨_,_,_,Tryz.underlying151⟩ (by kernel_rfl)
theorem Je:aN Tryz.prog 152 t152:=ah (.ae) (ay.refl _) ⟨_,_,_,Tryz.underlying152⟩ (by kernel_rfl)
theorem Jf:aN Tryz.prog 154 t154:=ah (.ae) (ay.refl _) ⟨_,_,_,Tryz.underlying154⟩ (by kernel_rfl)
theorem Jg:aN Tryz.prog 155 t155:=ah (.ae) (ay.refl _) ⟨_,_,_,Tryz.underlying155⟩ (by kernel_rfl)
theorem Jh:aN Tryz.prog 156 t156:=ah (.ae) (ay.refl _) ⟨_,_,_,Tryz.underlying156⟩ (by kernel_rfl)
theorem Ji:aN Tryz.prog 157 t157:=ah (.ae) (ay.refl _) ⟨_,_,_,Tryz.underlying157⟩ (by kernel_rfl)
theorem Jj:aN Tryz.prog 158 t158:=ah (.ae) (ay.refl _) ⟨_,_,_,Tryz.underlying158⟩ (by kernel_rfl)
theorem Jk:aN Tryz.prog 159 t159:=ah (.ae) (ay.refl _) ⟨_,_,_,Tryz.underlying159⟩ (by kernel_rfl)
theorem Jl:aN Tryz.prog 160 t160:=ah (.ae) (ay.refl _) ⟨_,_,_,Tryz.underlying160⟩ (by kernel_rfl)
theorem Jm:aN Tryz.prog 161 t161:=ah (.ae) (ay.refl _) ⟨_,_,_,Tryz.underlying161⟩ (by kernel_rfl)
theorem Jn:aN Tryz.prog 162 t162:=ah (.ae) (ay.refl _) ⟨_,_,_,Tryz.underlying162⟩ (by kernel_rfl)
theorem Jo:aN Tryz.prog 163 t163:=ah (.int .i64 0) (ay.refl _) Tryz.underlying163 (by kernel_rfl)
theorem Jp:aN Tryz.prog 165 t165:=ah (.ae) (ay.refl _) ⟨_,_,_,Tryz.underlying165⟩ (by kernel_rfl)
theorem Jq:aN Tryz.prog 166 t166:=ah (.ae) (ay.refl _) ⟨_,_,_,Tryz.underlying166⟩ (by kernel_rfl)
theorem Jr:aN Tryz.prog 167 t167:=ah (.ae) (ay.refl _) ⟨_,_,_,Tryz.underlying167⟩ (by kernel_rfl)
theorem Js:aN Tryz.prog 168 t168:=ah (.ae) (ay.refl _) ⟨_,_,_,Tryz.underlying168⟩ (by kernel_rfl)
theorem Jt:aN Tryz.prog 169 t169:=ah (.ae) (ay.refl _) ⟨_,_,_,Tryz.underlying169⟩ (by kernel_rfl)
theorem Ju:aN Tryz.prog 170 t170:=ah (.ae) (ay.refl _) ⟨_,_,_,Tryz.underlying170⟩ (by kernel_rfl)
theorem Jv:aN Tryz.prog 171 t171:=ah (.int .u32 0) (ay.refl _) Tryz.underlying171 (by kernel_rfl)
theorem Jw:aN Tryz.prog 172 t172:=ah (.ae) (ay.refl _) ⟨_,_,_,Tryz.underlying172⟩ (by kernel_rfl)
theorem Jx:aN Tryz.prog 173 t173:=ah (.int .u64 0) (ay.refl _) Tryz.underlying173 (by kernel_rfl)
theorem Jy:aN Tryz.prog 174 t174:=ah (.ae) (ay.refl _) ⟨_,_,_,Tryz.underlying174⟩ (by kernel_rfl)
theorem Jz:aN Tryz.prog 175 t175:=ah (.aV) (ay.refl _) Tryz.underlying175 (by kernel_rfl)
theorem JA:aN Tryz.prog 176 t176:=ah (.ae) (ay.refl _) ⟨_,_,_,Tryz.underlying176⟩ (by kernel_rfl)
theorem JB:aN Tryz.prog 177 t177:=ah (.ae) (ay.refl _) ⟨_,_,_,Tryz.underlying177⟩ (by kernel_rfl)
theorem JC:aN Tryz.prog 178 t178:=ah (.int .i64 0) (ay.refl _) Tryz.underlying178 (by kernel_rfl)
theorem JD:aN Tryz.prog 179 t179:=ah (.nil) (ay.refl _) Tryz.underlying179 (by kernel_rfl)
theorem JE:aN Tryz.prog 181 t181:=ah (.ae) (ay.refl _) ⟨_,_,_,Tryz.underlying181⟩ (by kernel_rfl)
theorem JF:aN Tryz.prog 182 t182:=ah (.aV) (ay.refl _) Tryz.underlying182 (by kernel_rfl)
theorem JG:aN Tryz.prog 183 t183:=ah (.ae) (ay.refl _) ⟨_,_,_,Tryz.underlying183⟩ (by kernel_rfl)
theorem JH:aN Tryz.prog 184 t184:=ah (.ae) (ay.refl _) ⟨_,_,_,Tryz.underlying184⟩ (by kernel_rfl)
theorem JI:aN Tryz.prog 185 t185:=ah (.ae) (ay.refl _) ⟨_,_,_,Tryz.underlying185⟩ (by kernel_rfl)
theorem JJ:aN Tryz.prog 186 t186:=ah (.ae) (ay.refl _) ⟨_,_,_,Tryz.underlying186⟩ (by kernel_rfl)
theorem JK:aN Tryz.prog 187 t187:=ah (.ae) (ay.refl _) ⟨_,_,_,Tryz.underlying187⟩ (by kernel_rfl)
theorem JL:aN Tryz.prog 188 t188:=ah (.ae) (ay.refl _) ⟨_,_,_,Tryz.underlying188⟩ (by kernel_rfl)
theorem JM:aN Tryz.prog 189 t189:=ah (.ae) (ay.refl _) ⟨_,_,_,Tryz.underlying189⟩ (by kernel_rfl)
theorem JN:aN Tryz.prog 190 t190:=ah (.int .u64 0) (ay.refl _) Tryz.underlying190 (by kernel_rfl)
theorem JO:aN Tryz.prog 191 t191:=ah (.ae) (ay.refl _) ⟨_,_,_,Tryz.underlying191⟩ (by kernel_rfl)
theorem JP:aN Tryz.prog 192 t192:=ah (.ae) (ay.refl _) ⟨_,_,_,Tryz.underlying192⟩ (by kernel_rfl)
theorem JQ:aN Tryz.prog 193 t193:=ah (.ae) (ay.refl _) ⟨_,_,_,Tryz.underlying193⟩ (by kernel_rfl)
theorem JR:aN Tryz.prog 194 t194:=ah (.aV) (ay.refl _) Tryz.underlying194 (by kernel_rfl)
theorem JS:aN Tryz.prog 195 t195:=ah (.ae) (ay.refl _) ⟨_,_,_,Tryz.underlying195⟩ (by kernel_rfl)
theorem JT:aN Tryz.prog 197 t197:=ah (.ae) (ay.refl _) ⟨_,_,_,Tryz.underlying197⟩ (by kernel_rfl)
theorem JU:aN Tryz.prog 198 t198:=ah (.ae) (ay.refl _) ⟨_,_,_,Tryz.underlying198⟩ (by kernel_rfl)
theorem JV:aN Tryz.prog 199 t199:=ah (.agg [.str [],.str [],.gW true]) (ay.refl _) ⟨⟨_,Tryz.underlying199,rfl⟩,fun h=>by cases h⟩ (by kernel_rfl)
theorem JW:aN Tryz.prog 200 t200:=ah (.agg [.str [],.str [],.gW true]) (ay.refl _) ⟨⟨_,Tryz.underlying200,rfl⟩,fun h=>by cases h⟩ (by kernel_rfl)
theorem JX:aN Tryz.prog 201 t201:=ah (.ae) (ay.refl _) ⟨_,_,_,Tryz.underlying201⟩ (by kernel_rfl)
theorem JY:aN Tryz.prog 202 t202:=ah (.agg [.int .u8 0,.int .u8 0,.int .u8 0,.int .u8 0,.int .u8 0,.int .u8 0,.int .u8 0,.int .u8 0,.int .u8 0,.int .u8 0,.int .u8 0,.int .u8 0,.int .u8 0,.int .u8 0,.int .u8 0,.int .u8 0,.int .u8 0,.int .u8 0,.int .u8 0,.int .u8 0,.int .u8 0,.int .u8 0,.int .u8 0,.int .u8 0]) (ay.refl _) Tryz.underlying202 (by kernel_rfl)
theorem JZ:aN Tryz.prog 203 t203:=ah (.ae) (ay.refl _) ⟨_,_,_,Tryz.underlying203⟩ (by kernel_rfl)
theorem J0:aN Tryz.prog 205 t205:=ah (.ae) (ay.refl _) ⟨_,_,_,Tryz.underlying205⟩ (by kernel_rfl)
theorem J1:aN Tryz.prog 206 t206:=ah (.ae) (ay.refl _) ⟨_,_,_,Tryz.underlying206⟩ (by kernel_rfl)
theorem J2:aN Tryz.prog 207 t207:=ah (.ae) (ay.refl _) ⟨_,_,_,Tryz.underlying207⟩ (by kernel_rfl)
theorem J3:aN Tryz.prog 208 t208:=ah (.aV) (ay.refl _) Tryz.underlying208 (by kernel_rfl)
theorem J4:aN Tryz.prog 209 t209:=ah (.ae) (ay.refl _) ⟨_,_,_,Tryz.underlying209⟩ (by kernel_rfl)
theorem J5:aN Tryz.prog 210 t210:=ah (.ae) (ay.refl _) ⟨_,_,_,Tryz.underlying210⟩ (by kernel_rfl)
theorem J6:aN Tryz.prog 211 t211:=ah (.aV) (ay.refl _) Tryz.underlying211 (by kernel_rfl)
theorem J7:aN Tryz.prog 212 t212:=ah (.aV) (ay.refl _) Tryz.underlying212 (by kernel_rfl)
theorem J8:aN Tryz.prog 213 t213:=ah (.agg [.str []]) (ay.refl _) ⟨⟨_,Tryz.underlying213,rfl⟩,fun _=>fa (by kernel_rfl)⟩ (by kernel_rfl)
theorem J9:aN Tryz.prog 214 t214:=ah (.agg [.str []]) (ay.refl _) ⟨⟨_,Tryz.underlying214,rfl⟩,fun _=>fa (by kernel_rfl)⟩ (by kernel_rfl)
theorem Ka:aN Tryz.prog 215 t215:=ah (.ae) (ay.refl _) ⟨_,_,_,Tryz.underlying215⟩ (by kernel_rfl)
theorem Kb:aN Tryz.prog 216 t216:=ah (.agg [.int .u64 0,.int .u64 0,.int .u64 0,.int .u64 0,.int .u64 0,.int .u64 0,.int .u64 0,.int .u64 0,.int .u64 0,.int .u64 0,.int .u64 0,.int .u64 0,.int .u64 0,.int .u64 0,.int .u64 0,.int .u64 0,.int .u64 0,.int .u64 0,.int .u64 0,.int .u64 0]) (ay.refl _) Tryz.underlying216 (by kernel_rfl)
theorem Kc:aN Tryz.prog 217 t217:=ah (.agg [.int .u8 0,.int .u8 0,.int .u8 0,.int .u8 0,.int .u8 0,.int .u8 0,.int .u8 0,.int .u8 0,.int .u8 0,.int .u8 0,.int .u8 0,.int .u8 0,.int .u8 0,.int .u8 0,.int .u8 0,.int .u8 0,.int .u8 0,.int .u8 0,.int .u8 0,.int .u8 0,.int .u8 0,.int .u8 0,.int .u8 0,.int .u8 0,.int .u8 0,.int .u8 0,.int .u8 0,.int .u8 0,.int .u8 0,.int .u8 0,.int .u8 0,.int .u8 0,.int .u8 0,.int .u8 0,.int .u8 0,.int .u8 0,.int .u8 0,.int .u8 0,.int .u8 0,.int .u8 0,.int .u8 0,.int .u8 0,.int .u8 0,.int .u8 0,.int .u8 0,.int .u8 0,.int .u8 0,.int .u8 0,.int .u8 0,.int .u8 0,.int .u8 0,.int .u8 0,.int .u8 0,.int .u8 0,.int .u8 0,.int .u8 0,.int .u8 0,.int .u8 0,.int .u8 0,.int .u8 0,.int .u8 0,.int .u8 0,.int .u8 0,.int .u8 0,.int .u8 0]) (ay.refl _) Tryz.underlying217 (by kernel_rfl)
theorem Kd:aN Tryz.prog 218 t218:=ah (.ae) (ay.refl _) ⟨_,_,_,Tryz.underlying218⟩ (by kernel_rfl)
theorem Ke:aN Tryz.prog 219 t219:=ah (.agg [.int .u8 0,.int .u8 0,.int .u8 0,.int .u8 0,.int .u8 0,.int .u8 0,.int .u8 0,.int .u8 0,.int .u8 0,.int .u8 0,.int .u8 0,.int .u8 0,.int .u8 0,.int .u8 0,.int .u8 0,.int .u8 0,.int .u8 0,.int .u8 0,.int .u8 0,.int .u8 0,.int .u8 0,.int .u8 0,.int .u8 0,.int .u8 0,.int .u8 0,.int .u8 0,.int .u8 0,.int .u8 0,.int .u8 0,.int .u8 0,.int .u8 0,.int .u8 0]) (ay.refl _) Tryz.underlying219 (by kernel_rfl)
theorem Kf:aN Tryz.prog 220 t220:=ah (.agg [.int .u8 0,.int .u8 0,.int .u8 0,.int .u8 0,.int .u8 0,.int .u8 0,.int .u8 0,.int .u8 0,.int .u8 0,.int .u8 0,.int .u8 0,.int .u8 0,.int .u8 0,.int .u8 0,.int .u8 0,.int .u8 0,.int .u8 0,.int .u8 0,.int .u8 0,.int .u8 0,.int .u8 0,.int .u8 0,.int .u8 0,.int .u8 0,.int .u8 0,.int .u8 0,.int .u8 0,.int .u8 0,.int .u8 0,.int .u8 0,.int .u8 0,.int .u8 0,.int .u8 0,.int .u8 0,.int .u8 0,.int .u8 0,.int .u8 0,.int .u8 0,.int .u8 0,.int .u8 0,.int .u8 0,.int .u8 0,.int .u8 0,.int .u8 0,.int .u8 0,.int .u8 0,.int .u8 0,.int .u8 0,.int .u8 0,.int .u8 0,.int .u8 0,.int .u8 0,.int .u8 0,.int .u8 0,.int .u8 0,.int .u8 0,.int .u8 0,.int .u8 0,.int .u8 0,.int .u8 0,.int .u8 0,.int .u8 0,.int .u8 0,.int .u8 0]) (ay.refl _) Tryz.underlying220 (by kernel_rfl)
theorem Kg:aN Tryz.prog 221 t221:=ah (.agg [.aV,.aV,.aV,.str []]) (ay.refl _) ⟨⟨_,Tryz.underlying221,rfl⟩,fun h=>by cases h⟩ (by kernel_rfl)
theorem Kh:aN Tryz.prog 222 t222:=ah (.agg [.aV,.aV,.aV,.str []]) (ay.refl _) ⟨⟨_,Tryz.underlying222,rfl⟩,fun h=>by cases h⟩ (by kernel_rfl)
theorem Ki:aN Tryz.prog 223 t223:=ah (.agg []) (ay.refl _) Tryz.underlying223 (by kernel_rfl)
theorem Kj:aN Tryz.prog 224 t224:=ah (.agg []) (ay.refl _) ⟨⟨_,Tryz.underlying224,rfl⟩,fun h=>by cases h⟩ (by kernel_rfl)
theorem Kk:aN Tryz.prog 225 t225:=ah (.agg []) (ay.refl _) ⟨⟨_,Tryz.underlying225,rfl⟩,fun h=>by cases h⟩ (by kernel_rfl)
theorem Kl:aN Tryz.prog 226 t226:=ah (.ae) (ay.refl _) ⟨_,_,_,Tryz.underlying226⟩ (by kernel_rfl)
theorem Km:aN Tryz.prog 227 t227:=ah (.int .u8 0) (ay.refl _) Tryz.underlying227 (by kernel_rfl)
theorem Kn:aN Tryz.prog 228 t228:=ah (.int .u8 0) (ay.refl _) Tryz.underlying228 (by kernel_rfl)
theorem Ko:aN Tryz.prog 229 t229:=ah (.ae) (ay.refl _) ⟨_,_,_,Tryz.underlying229⟩ (by kernel_rfl)
theorem Kp:aN Tryz.prog 230 t230:=ah (.int .i32 0) (ay.refl _) Tryz.underlying230 (by kernel_rfl)
theorem Kq:aN Tryz.prog 231 t231:=ah (.int .i32 0) (ay.refl _) Tryz.underlying231 (by kernel_rfl)
theorem Kr:aN Tryz.prog 232 t232:=ah (.agg [.int .u64 0,.int .u64 0,.int .u32 0,.int .u8 0,.int .u8 0,.int .u8 0,.int .u8 0,.ae,.aV,.int .i32 0,.int .i32 0]) (ay.refl _) ⟨⟨_,Tryz.underlying232,rfl⟩,fun h=>by cases h⟩ (by kernel_rfl)
theorem Ks:aN Tryz.prog 233 t233:=ah (.agg [.int .u64 0,.int .u64 0,.int .u32 0,.int .u8 0,.int .u8 0,.int .u8 0,.int .u8 0,.ae,.aV,.int .i32 0,.int .i32 0]) (ay.refl _) ⟨⟨_,Tryz.underlying233,rfl⟩,fun h=>by cases h⟩ (by kernel_rfl)
attribute [go_sem] MY
theorem xl:Tryz.prog.follows .mixedOrders=true:=by kernel_rfl
theorem aF:aq Tryz.prog TB:=
 aq.cons M8<|
 aq.cons M9<|
 aq.cons Na<|
 aq.cons Nb<|
 aq.cons Nc<|
 aq.cons Lf<|
 aq.cons Lg<|
 aq.cons Lh<|
 aq.cons Li<|
 aq.cons Lj<|
 aq.cons Lk<|
 aq.cons Ll<|
 aq.cons Lm<|
 aq.cons Ln<|
 aq.cons Lo<|
 aq.cons Lp<|
 aq.cons Lq<|
 aq.cons Lr<|
 aq.cons Ls<|
 aq.cons Lt<|
 aq.cons Lu<|
 aq.cons Lv<|
 aq.cons Lw<|
 aq.cons Lx<|
 aq.cons Ly<|
 aq.cons Lz<|
 aq.cons LA<|
 aq.cons LC<|
 aq.cons LD<|
 aq.cons LF<|
 aq.cons LG<|
 aq.cons LH<|
 aq.cons LI<|
 aq.cons LJ<|
 aq.cons LK<|
 aq.cons LL<|
 aq.cons LM<|
 aq.cons LN<|
 aq.cons LQ<|
 aq.cons LR<|
 aq.cons LS<|
 aq.cons LU<|
 aq.cons LV<|
 aq.cons LW<|
 aq.cons LX<|
 aq.cons LY<|
 aq.cons LZ<|
 aq.cons L0<|
 aq.cons L3<|
 aq.cons L5<|
 aq.cons L6<|
 aq.cons L7<|
 aq.cons L8<|
 aq.cons L9<|
 aq.cons Ma<|
 aq.cons Mb<|
 aq.cons Mc<|
 aq.cons Md<|
 aq.cons Me<|
 aq.cons Mf<|
 aq.cons Mg<|
 aq.cons Mh<|
 aq.cons Mi<|
 aq.cons Mj<|
 aq.cons Mk<|
 aq.cons Ml<|
 aq.cons Mm<|
 aq.cons Mn<|
 aq.cons Mo<|
 aq.cons Mp<|
 aq.cons Mq<|
 aq.cons Mr<|
 aq.cons Ms<|
 aq.cons Mt<|
 aq.cons Mu<|
 aq.cons Mv<|
 aq.cons Mw<|
 aq.cons Mx<|
 aq.cons My<|
 aq.cons Mz<|
 aq.cons MA<|
 aq.cons MB<|
 aq.cons MC<|
 aq.cons Iq<|
 aq.cons Ir<|
 aq.cons Is<|
 aq.cons Iu<|
 aq.cons Iv<|
 aq.cons Iw<|
 aq.cons Ix<|
 aq.cons Iy<|
 aq.cons Iz<|
 aq.cons IA<|
 aq.cons IB<|
 aq.cons IC<|
 aq.cons ID<|
 aq.cons IE<|
 aq.cons IF<|
 aq.cons IG<|
 aq.cons IH<|
 aq.cons II<|
 aq.cons IJ<|
 aq.cons IK<|
 aq.cons IL<|
 aq.cons IM<|
 aq.cons IN<|
 aq.cons IP<|
 aq.cons IQ<|
 aq.cons IS<|
 aq.cons IT<|
 aq.cons IU<|
 aq.cons IV<|
 aq.cons IW<|
 aq.cons IX<|
 aq.cons IY<|
 aq.cons IZ<|
 aq.cons I0<|
 aq.cons I1<|
 aq.cons I2<|
 aq.cons I3<|
 aq.cons I4<|
 aq.cons I5<|
 aq.cons I6<|
 aq.cons I7<|
 aq.cons I8<|
 aq.cons I9<|
 aq.cons Ja<|
 aq.cons Jb<|
 aq.cons Jc<|
 aq.cons Jd<|
 aq.cons Je<|
 aq.cons Jf<|
 aq.cons Jg<|
 aq.cons Jh<|
 aq.cons Ji<|
 aq.cons Jj<|
 aq.cons Jk<|
 aq.cons Jl<|
 aq.cons Jm<|
 aq.cons Jn<|
 aq.cons Jo<|
 aq.cons Jp<|
 aq.cons Jq<|
 aq.cons Jr<|
 aq.cons Js<|
 aq.cons Jt<|
 aq.cons Ju<|
 aq.cons Jv<|
 aq.cons Jw<|
 aq.cons Jx<|
 aq.cons Jy<|
 aq.cons Jz<|
 aq.cons JA<|
 aq.cons JB<|
 aq.cons JC<|
 aq.cons JD<|
 aq.cons JE<|
 aq.cons JF<|
 aq.cons JG<|
 aq.cons JH<|
 aq.cons JI<|
 aq.cons JJ<|
 aq.cons JK<|
 aq.cons JL<|
 aq.cons JM<|
 aq.cons JN<|
 aq.cons JO<|
 aq.cons JP<|
 aq.cons JQ<|
 aq.cons JR<|
 aq.cons JS<|
 aq.cons JT<|
 aq.cons JU<|
 aq.cons JV<|
 aq.cons JW<|
 aq.cons JX<|
 aq.cons JY<|
 aq.cons JZ<|
 aq.cons J0<|
 aq.cons J1<|
 aq.cons J2<|
 aq.cons J3<|
 aq.cons J4<|
 aq.cons J5<|
 aq.cons J6<|
 aq.cons J7<|
 aq.cons J8<|
 aq.cons J9<|
 aq.cons Ka<|
 aq.cons Kb<|
 aq.cons Kc<|
 aq.cons Kd<|
 aq.cons Ke<|
 aq.cons Kf<|
 aq.cons Kg<|
 aq.cons Kh<|
 aq.cons Ki<|
 aq.cons Kj<|
 aq.cons Kk<|
 aq.cons Kl<|
 aq.cons Km<|
 aq.cons Kn<|
 aq.cons Ko<|
 aq.cons Kp<|
 aq.cons Kq<|
 aq.cons Kr<|
 aq.cons Ks<|aq.nil
section
theorem aD.all {c:Cx} {α:Type} {sv:α→SV} {enc:α→Value} {ok:α→Prop} (hrep:∀ (c:Cx) x v,aG c (sv x) v↔(v=enc x∧ok x)):∀ {zs:List α} {vs:List Value},aD c (zs.map sv) vs↔(vs=zs.map enc∧∀ x∈zs,ok x)
 |[],vs=>by simp[aD]
 |x::zs,vs=>by
  rw[List.map_cons,aD.bC]
  constructor
  ·rintro⟨u,us,h1,h2,rfl⟩
   obtain⟨rfl,h3⟩:=(hrep c x u).1 h1
   obtain⟨rfl,h4⟩:=(aD.all hrep).1 h2
   exact⟨rfl,fun y hy=>by rcases List.mem_cons.1 hy with rfl|hy;exact h3;exact h4 y hy⟩
  ·rintro⟨rfl,h⟩
   exact⟨_,_,(hrep c x _).2 ⟨rfl,h x (List.mem_cons_self ..)⟩,(aD.all hrep).2 ⟨rfl,fun y hy=>h y (List.mem_cons_of_mem _ hy)⟩,rfl⟩
theorem kD:∀ {vs:List Value},(∀ v∈vs,v.oneCell'=true)→cellsOf vs=vs
 |[],_=>rfl
 |v::vs,h=>by rw[eF,eM (h v (List.mem_cons_self ..)),kD (fun u hu=>h u (List.mem_cons_of_mem _ hu))];rfl
section
variable {P:Program} {G:Gl} {α:Type} [Inhabited α]
open Go.Sort
theorem ag.FC (enc:α→Value) (sv:α→SV) (ok:α→Prop) (hrep:∀ (c:Cx) x v,aG c (sv x) v↔(v=enc x∧ok x)) (hone:∀ x,(enc x).oneCell'=true) (le:α→α→Bool) {f:FuncId}
 (hf:∃ fn,P.funcs[f]? =some fn∧(fn.name== "runtime.NumGoroutine")=false∧fn.body.isNone=false)
 (hc:∀ (eS off cap:Nat) (zs:List α) (w:World),Holds enc w eS off zs.toArray→eS<w.heap.size→zs.length<4611686018427387904→Calls P f #[.slice (some ⟨eS,off,none⟩) zs.length cap] w fun e w'=>
  e= .returned (.tuple #[])∧∃ n os,w'=grow (putRow enc (Sort.ahead w n) eS off (zs.mergeSort le).toArray) os)
 (h0:∀ (p:Option Addr) (cap:Nat) (w:World),Calls P f #[.slice p 0 cap] w fun e w'=>e= .returned (.tuple #[])∧w'=w)
 (id g:Nat) (zs:List α) (H:List az) (hH:H[id]? =some (.cells g 1 (zs.map sv))) (hl:zs.length<4611686018427387904):
 ag P G f [.sl id g 0 zs.length] H (fun r H'=>H'=H.set id (.cells g 1 ((zs.mergeSort le).map sv))∧r= .tuple []):=by
 refine⟨hf,fun c vs e1 hh hG hv=>?_⟩
 obtain⟨v,us,hv1,hv2,rfl⟩:=aD.bC.1 hv
 rw[aD.dU.1 hv2]
 have hB:c.H[id]? =some (.cells g 1 (zs.map sv)):=by rw[e1];exact hH
 simp only[aG,hB] at hv1
 have hperm:=List.mergeSort_perm zs le
 have hlen:(zs.mergeSort le).length=zs.length:=hperm.length_eq
 refine(callsIn_wide (n:=0)).2 ?_
 rcases hv1.2 with h|⟨_,h1,a,cap,rfl,h2,h3,h4⟩
 ·omega
 by_cases hz:zs=[]
 ·subst hz
  refine(h0 a cap c.w).mono ?_
  rintro e w' ⟨rfl,rfl⟩
  refine⟨_,.tuple [],c,rfl,rfl,⟨?_,rfl⟩,hh,by simp only[aG];exact⟨[],aD.cw,rfl⟩,Grow.refl c⟩
  rw[e1]
  obtain⟨hlt,he⟩:=List.getElem?_eq_some_iff.1 hH
  have:(List.mergeSort ([]:List α) le).map sv=[]:=by simp
  rw[this]
  conv=>lhs;rw[← List.set_getElem_self hlt]
  rw[he];rfl
 have hpos:0<zs.length:=List.length_pos_iff.2 hz
 rcases h4 with h4|⟨b,o,cs,Ty,fr,h4,h5,h6,h7⟩
 ·omega
 rcases hh.eS id _ hB with⟨h8,_⟩|⟨b',o',cs',Ty',fr',vs',h8,h9,h10,h11,h12,h13⟩
 ·rw[h4] at h8;cases h8
 rw[h4] at h8;cases h8
 rw[h6] at h9;cases h9
 obtain⟨rfl,hok⟩:=(aD.all hrep).1 h11
 have hall1:∀ l:List α,∀ v∈l.map enc,v.oneCell'=true:=fun l v hv=>by obtain⟨x,_,rfl⟩:=List.mem_map.1 hv;exact hone x
 rw[kD (hall1 zs)] at h13
 have hblk:b<c.w.heap.size:=(Array.getElem?_eq_some_iff.1 h6).1
 have hsz:o+zs.length≤cs.size:=by
  have:=fk h6 h13 (by simpa using hpos)
  simpa using this
 have hthere:c.w.there b o zs.length:=gr h6 h10 hsz
 have hholds:Holds enc c.w b o zs.toArray:=fun j hj=>by
  have hj':j<zs.length:=by simpa using hj
  refine⟨?_,(hthere j hj').2⟩
  have:=h13 j (enc zs[j]) (by simp[hj'])
  rw[this]
  simp[hj']
 rw[show a=some ⟨b,o,none⟩ by rw[h5];simp]
 refine(hc b o cap zs c.w hholds hblk hl).mono ?_
 rintro e w' ⟨rfl,n,os,rfl⟩
 have hother:∀ k,k<c.w.heap.size→k≠b→(grow (putRow enc (Sort.ahead c.w n) b o (zs.mergeSort le).toArray) os).heap[k]? =c.w.heap[k]? :=fun k hk hne=>by
  rw[heap_grow_old _ _ (by simpa using hk)]
  show(Array.modify c.w.heap b _)[k]? =_
  rw[Array.getElem?_modify,if_neg (fun e=>hne e.symm)]
 have hat:(grow (putRow enc (Sort.ahead c.w n) b o (zs.mergeSort le).toArray) os).heap[b]? =some (.cells (putCells enc o (zs.mergeSort le).toArray cs) Ty fr):=by
  rw[heap_grow_old _ _ (by simpa using hblk)]
  show(Array.modify c.w.heap b _)[b]? =_
  rw[Array.getElem?_modify,if_pos rfl,h6]
  rfl
 have hcsz:(putCells enc o (zs.mergeSort le).toArray cs).size=cs.size:=by simp[putCells]
 obtain⟨t1,t2⟩:=Cx.tg hh (w':=grow (putRow enc (Sort.ahead c.w n) b o (zs.mergeSort le).toArray) os) hB rfl (B':= .cells g 1 ((zs.mergeSort le).map sv)) (c.θ id)
  ⟨g,_,rfl,Nat.le_refl _,fun _=>⟨rfl,by simp[hlen]⟩,fun b' o' h'=> .inr ⟨o',h'⟩⟩
  (fun k hk hno=>hother k hk fun e=>hno o (by rw[h4,e])) (by simp) rfl rfl rfl
  (fun b' cs0 T0 fr0 hb'=>by
   by_cases e:b'=b
   ·subst e
    rw[h6] at hb';cases hb'
    exact⟨_,fr,hat,hcsz⟩
   ·exact⟨cs0,fr0,by rw[hother b' (Array.getElem?_eq_some_iff.1 hb').1 e];exact hb',rfl⟩)
  (fun hg=> .inr ⟨b,o,_,Ty,fr,(zs.mergeSort le).map enc,by simp[h4],hat,by unfold fT;rw[hcsz];exact h10,
   (aD.all hrep).2 ⟨rfl,fun x hx=>hok x (hperm.mem_iff.1 hx)⟩,fun u hu=>by
    have:=hall1 _ u hu
    exact⟨by rw[eM this];rfl,fN this⟩,by
    rw[kD (hall1 _)]
    intro j v hj
    rw[iW hat]
    obtain⟨hj',hje⟩:=List.getElem?_eq_some_iff.1 hj
    simp only[List.length_map] at hj'
    simp only[List.getElem_map] at hje
    simp only[putCells,Array.getElem?_mapIdx]
    rw[Array.getElem?_eq_getElem (by omega)]
    simp only[Option.map_some]
    rw[if_pos (by constructor;omega;simp;omega)]
    rw[← hje]
    simp only[Nat.add_sub_cancel_left,List.getElem!_toArray,List.getElem!_eq_getElem?_getD]
    rw[List.getElem?_eq_getElem hj'];rfl⟩)
 refine⟨_,.tuple [],_,rfl,rfl,⟨?_,rfl⟩,t2,by simp only[aG];exact⟨[],aD.cw,rfl⟩,t1⟩
 rw[← e1]
end
theorem xG (c:Cx) (s:List UInt8) (v:Value):aG c (.str s) v↔(v= .string ⟨⟨s⟩⟩∧s.length≤maxLen):=by simp only[aG]
end
section
section
variable {P:Program}
theorem run_next_at (w:World) (ty r bm clk:Nat) (seen:Array Nat) (es:Array MapEntry) (hr:w.heap[r]? =some (.mapIter (some bm) clk seen clk)) (hb:w.heap[bm]? =some (.map es clk)) (hold:∀ x∈es.toList,x.born<clk):
 ((∀ e∈es.toList,seen.contains e.born=true)∧(Instr.next (.pointer (some ⟨r,0,none⟩)) false ty).run P w= .ok (.tuple #[.bool false]) w)∨
 ∃ e∈es.toList,seen.contains e.born=false∧∃ w1:World,(w1=w∨w1=w.drew)∧(Instr.next (.pointer (some ⟨r,0,none⟩)) false ty).run P w= .ok (.tuple #[.bool true,e.key,e.val]) (w1.putObj r (.mapIter (some bm) clk (seen.push e.born) clk)):=by
 simp only[Instr.next,getObj,Sem.run_bind,Sem.run,hr,hb,Result.andThen,next_test_false seen es clk clk hold (Nat.le_refl _),Bool.false_eq_true,if_false]
 generalize hL:Array.filter (fun e=>!seen.contains e.born) es=L
 have mem:∀ e,e∈L.toList↔e∈es.toList∧seen.contains e.born=false:=fun e=>by rw[← hL];simp
 have Bo:L.filter (fun x=>decide (x.born<clk))=L:=Array.filter_eq_self.2 (fun x hx=>by simpa using hold x ((mem x).1 (by simpa using hx)).1)
 have new:L.filter (fun x=>decide (x.born≥clk))= #[]:=by
  rw[Array.filter_eq_empty_iff]
  intro x hx
  have:=hold x ((mem x).1 (by simpa using hx)).1
  simp;omega
 simp only[Bo,new,Array.append_empty]
 by_cases h0:L.size=0
 ·left
  have hLe:L= #[]:=Array.eq_empty_of_size_eq_zero h0
  refine⟨fun e he=>?_,by subst hLe;simp[choose,Sem.run,Question.forced]⟩
  cases hs:seen.contains e.born with
  |true=>rfl
  |false=>have:=(mem e).2 ⟨he,hs⟩;rw[hLe] at this;cases this
 ·right
  have hne:L.isEmpty=false:=by simp[Array.isEmpty,h0]
  simp only[hne,Bool.false_eq_true,if_false,Array.empty_append,Array.size_map]
  obtain⟨j,w1,hj,hw,hrun⟩:∃ (j:Nat) (w1:World),j<L.size∧(w1=w∨w1=w.drew)∧(choose (Question.mapNext L.size)).run P w= .ok j w1:=by
   by_cases hf:L.size≤1
   ·exact⟨0,w,by omega,.inl rfl,by simp[choose,Sem.run,Question.forced,hf]⟩
   ·exact⟨_,w.drew,Nat.mod_lt _ (by omega),.inr rfl,by
     simp only[choose,Sem.run,Question.forced,decide_eq_true_eq,hf,if_false,Question.cut]
     rfl⟩
  have hheap:w1.heap=w.heap:=by rcases hw with rfl|rfl<;>rfl
  obtain⟨m1,m2⟩:=(mem L[j]).1 (by simp)
  refine⟨L[j],m1,m2,w1,hw,?_⟩
  have hset:∀ o':Obj,(setObj r o').run P w1= .ok () (w1.putObj r o'):=fun o'=>by
   have:w1.heap[r]? =some (.mapIter (some bm) clk seen clk):=by rw[hheap];exact hr
   simp only[setObj,Sem.run,this]
   rfl
  simp only[hrun,Array.getElem?_map,Array.getElem?_eq_getElem hj,Option.map_some,Sem.run_bind,hset,Result.andThen]
  rfl
theorem run_entry_at (w:World) (r bm clk:Nat) (seen:Array Nat) (es:Array MapEntry) (e:MapEntry) (hr:w.heap[r]? =some (.mapIter (some bm) clk (seen.push e.born) clk)) (hb:w.heap[bm]? =some (.map es clk)) (he:e∈es.toList) (hn:(es.toList.map (·.born)).Nodup):
 (Instr.entry (.pointer (some ⟨r,0,none⟩))).run P w= .ok (.tuple #[e.key,e.val]) w:=by
 have hf:es.find? (·.born==e.born)=some e:=by rw[← Array.find?_toList];exact find_born e es.toList hn he
 simp only[Instr.entry,getObj,Sem.run_bind,Sem.run,hr,hb,Result.andThen,Array.back?_push,bne_self_eq_false,Bool.false_eq_true,if_false,hf]
 rfl
theorem vy (w:World) (t k e:TypeId) (bm clk:Nat) (es:Array MapEntry) (ht:P.underlying t=some (.map k e)) (hb:w.heap[bm]? =some (.map es clk)):
 (Instr.range t (.map (some bm))).run P w= .ok (.pointer (some ⟨w.heap.size,0,none⟩)) (w.alloc (.mapIter (some bm) clk #[] clk)):=run_range_map w t k e bm es clk ht hb
end
section
variable {P:Program} {G:Gl} {T:aE} {own:List Nat} {nt B:Nat} {ρ:Option Nat} {C:Cx} {rs:List ResultVar} {R:SV→List az→Prop} {env env2:Env} {H H':List az} {k:List It}
variable {all r:List Oper} {ty d j dj:Nat} {op:Op} {pos:String} {after:Array Edge} {v:SV}
theorem aG.pt {θ:Nat→Option (Nat×Nat)} {H:List az} {w:World} {io:Nat} {kd:Option IntKind} {es:List (SV×SV)} (hm:H[io]? =some (.map kd es)):
 (∀ x v,aG ⟨θ,H,w⟩ x v→aG ⟨θ,H.set io .dead,w⟩ x v)∧(∀ xs vs,aD ⟨θ,H,w⟩ xs vs→aD ⟨θ,H.set io .dead,w⟩ xs vs):=by
 have hlt:=(List.getElem?_eq_some_iff.1 hm).1
 have himm:∀ b,Cx.oY ⟨θ,H,w⟩ b→Cx.oY ⟨θ,H.set io .dead,w⟩ b:=fun b ⟨h1,h2⟩=>⟨h1,fun⟨id,o,⟨B,hB,hl⟩,ht⟩=>h2 ⟨id,o,⟨B,by
  have hB':(H.set io .dead)[id]? =some B:=hB
  rw[List.getElem?_set] at hB'
  split at hB'
  ·cases hB';cases hl
  ·exact hB',hl⟩,ht⟩⟩
 have hget:∀ id:Nat,(H.set io .dead)[id]? =if io=id then some .dead else H[id]? :=fun id=>by
  rw[List.getElem?_set]
  by_cases e:io=id
  ·rw[if_pos e,if_pos e,if_pos (e ▸ hlt)]
  ·rw[if_neg e,if_neg e]
 apply SV.both
 ·intro x h1 h2 h3 h4 h5 h6 v h
  cases x with
  |agg fs=>exact absurd rfl (h1 fs)
  |list n xs=>exact absurd rfl (h2 n xs)
  |iR y=>exact absurd rfl (h3 y)
  |fn f a b=>exact absurd rfl (h4 f a b)
  |tuple xs=>exact absurd rfl (h5 xs)
  |fI b clk born kd ks vs=>exact absurd rfl (h6 b clk born kd ks vs)
  |ptr id g i off=>
   simp only[aG,hget] at h ⊢
   by_cases e:io=id
   ·simp only[if_pos e];exact⟨h.1,trivial⟩
   ·simp only[if_neg e];exact h
  |sl id g off len=>
   simp only[aG,hget] at h ⊢
   by_cases e:io=id
   ·simp only[if_pos e];exact⟨h.1,trivial⟩
   ·simp only[if_neg e];exact h
  |map id=>
   simp only[aG,hget] at h ⊢
   by_cases e:io=id
   ·simp only[if_pos e];exact⟨h.1,trivial⟩
   ·simp only[if_neg e];exact h
  |it id=>
   simp only[aG,hget] at h ⊢
   by_cases e:io=id
   ·simp only[if_pos e];exact⟨h.1,trivial⟩
   ·simp only[if_neg e];exact h
  |_=>exact h
 ·intro fs ih v h
  simp only[aG] at h ⊢
  obtain⟨vs,h1,h2⟩:=h
  exact⟨vs,ih vs h1,h2⟩
 ·intro sz xs ih v h
  simp only[aG] at h ⊢
  obtain⟨a,cap,h0,h1,h2,h3⟩:=h
  refine⟨a,cap,h0,h1,h2,?_⟩
  rcases h3 with h3|⟨b,o,vs,h3,h4,h5,h6,h7⟩
  ·exact .inl h3
  ·exact .inr ⟨b,o,vs,h3,ih vs h4,h5,h6,himm b h7⟩
 ·intro x ih v h
  simp only[aG] at h ⊢
  obtain⟨b,o,u,h0,h1,h2,h3,h4⟩:=h
  exact⟨b,o,u,h0,ih u h1,h2,h3,himm b h4⟩
 ·intro f xs ys ih1 ih2 v h
  simp only[aG] at h ⊢
  obtain⟨us,vs,h0,h1,h2⟩:=h
  exact⟨us,vs,ih1 us h0,ih2 vs h1,h2⟩
 ·intro xs ih v h
  simp only[aG] at h ⊢
  obtain⟨vs,h0,h1⟩:=h
  exact⟨vs,ih vs h0,h1⟩
 ·intro b clk born kd ks vs ih1 ih2 v h
  simp only[aG] at h ⊢
  obtain⟨h0,h1,ents,h2,h3,h4,h5,h6,h7⟩:=h
  exact⟨h0,himm b h1,ents,h2,h3,h4,ih1 _ h5,ih2 _ h6,h7⟩
 ·intro vs h;simpa [aD] using h
 ·intro x xs ih1 ih2 vs h
  obtain⟨u,us,h1,h2,h3⟩:=aD.bC.1 h
  exact aD.bC.2 ⟨u,us,ih1 u h1,ih2 us h2,h3⟩
theorem cC.lists {c:Cx}:∀ {es:List (SV×SV)} {l:List MapEntry},cC c es l→aD c (es.map Prod.fst) (l.map (·.key))∧aD c (es.map Prod.snd) (l.map (·.val))
 |[],l,h=>by simp only[cC] at h;subst h;exact⟨aD.cw,aD.cw⟩
 |(q,x)::es,l,h=>by
  simp only[cC] at h
  obtain⟨e,es',h1,h2,h3,rfl⟩:=h
  obtain⟨a,b⟩:=cC.lists h3
  exact⟨aD.bT h1 a,aD.bT h2 b⟩
theorem cC.mono {c c':Cx} (hr:∀ x v,aG c x v→aG c' x v):∀ {es:List (SV×SV)} {l:List MapEntry},cC c es l→cC c' es l
 |[],l,h=>by simpa [cC] using h
 |(q,x)::es,l,h=>by
  simp only[cC] at h ⊢
  obtain⟨e,es',h1,h2,h3,h4⟩:=h
  exact⟨e,es',hr _ _ h1,hr _ _ h2,cC.mono hr h3,h4⟩
theorem Cx.kill {θ:Nat→Option (Nat×Nat)} {H:List az} {w:World} {io:Nat} {kd:Option IntKind} {es:List (SV×SV)} (hm:H[io]? =some (.map kd es)) (hc:aT ⟨θ,H,w⟩) (hC:C.H.length≤io):
 aT ⟨θ,H.set io .dead,w⟩∧(∀ C0:Cx,C0.H.length≤io→Grow C0 ⟨θ,H,w⟩→Grow C0 ⟨θ,H.set io .dead,w⟩)∧
 ∃ b clk born,θ io=some (b,0)∧born.length=es.length∧born.Nodup∧aG ⟨θ,H.set io .dead,w⟩ (.fI b clk born kd (es.map Prod.fst) (es.map Prod.snd)) (.map (some b)):=by
 have hlt:=(List.getElem?_eq_some_iff.1 hm).1
 have hget:∀ (id:Nat) (B:az),(H.set io .dead)[id]? =some B→B= .dead∨(id≠io∧H[id]? =some B):=fun id B hB=>by
  rw[List.getElem?_set] at hB
  split at hB
  ·cases hB;exact .inl rfl
  ·rename_i h;exact .inr ⟨fun e=>h e.symm,hB⟩
 obtain⟨rk,rkl⟩:=aG.pt (θ:=θ) (w:=w) hm
 refine⟨⟨fun id B hB=>?_,fun i j b o o' ⟨Bi,h1,h2⟩ ⟨Bj,h3,h4⟩ h5 h6=>?_⟩,fun C0 h0 hg=>?_,?_⟩
 ·rcases hget id B hB with rfl|⟨_,hB⟩
  ·trivial
  ·have hb:=hc.eS id B hB
   cases B with
   |dead=>trivial
   |obj o=>exact hb
   |cells g sz vals=>
    rcases hb with hb|⟨b,o,cs,T,fr,vs,h1,h2,h3,h4,h5,h6⟩
    ·exact .inl hb
    ·exact .inr ⟨b,o,cs,T,fr,vs,h1,h2,h3,rkl _ _ h4,h5,h6⟩
   |map kd es=>
    obtain⟨b,ents,clk,h1,h2,h3,h4⟩:=hb
    exact⟨b,ents,clk,h1,h2,cC.mono rk h3,h4⟩
 ·rcases hget i Bi h1 with rfl|⟨_,h1⟩
  ·cases h2
  ·rcases hget j Bj h3 with rfl|⟨_,h3⟩
   ·cases h4
   ·exact hc.inj i j b o o' ⟨Bi,h1,h2⟩ ⟨Bj,h3,h4⟩ h5 h6
 ·refine⟨hg.os,hg.tape,hg.output,hg.size,hg.Bo,hg.shape,fun id B hB=>?_,fun id b o hn hl ht=>?_⟩
  ·obtain⟨B',h1,h2⟩:=hg.ids id B hB
   have hid:id<C0.H.length:=(List.getElem?_eq_some_iff.1 hB).1
   exact⟨B',by show(H.set io .dead)[id]? =_;rw[List.getElem?_set_ne (by omega)];exact h1,h2⟩
  ·obtain⟨B,h1,h2⟩:=hl
   rcases hget id B h1 with rfl|⟨_,h1⟩
   ·cases h2
   ·exact hg.new id b o hn ⟨B,h1,h2⟩ ht
 ·obtain⟨b,ents,clk,h1,h2,h3,h4,h5⟩:=hc.eS io _ hm
  obtain⟨l1,l2⟩:=(cC.mono rk h3).lists
  refine⟨b,clk,ents.toList.map (·.born),h1,?_,h5.2.1,?_⟩
  ·have:=l1.length;simp only[List.length_map] at this ⊢;exact this.symm ▸ rfl
  ·simp only[aG]
   refine⟨trivial,⟨(Array.getElem?_eq_some_iff.1 h2).1,fun⟨id,o,⟨B,hB,hl⟩,ht⟩=>?_⟩,ents,h2,h5,rfl,l1,l2,fun x hx=>?_⟩
   ·rcases hget id B hB with rfl|⟨hne,hB⟩
    ·cases hl
    ·exact hne (hc.inj id io b o 0 ⟨B,hB,hl⟩ ⟨_,hm,rfl⟩ ht h1)
   ·obtain⟨p,hp,rfl⟩:=List.mem_map.1 hx
    exact h4 p hp
theorem GN {c0:Code} {t io:Nat} {kd:Option IntKind} {es:List (SV×SV)} (hm:H[io]? =some (.map kd es)) (hC:C.H.length≤io) (hB:eJ G C.H.length) (ht:look env t=some (.map io))
 (h:∀ b clk born,born.length=es.length→born.Nodup→(Out P G T own nt ρ C rs R) (.code c0::k) .normal ((t,.fI b clk born kd (es.map Prod.fst) (es.map Prod.snd))::env) (H.set io .dead)):(Out P G T own nt ρ C rs R) (.code c0::k) .normal env H:=by
 rintro⟨θ,Hc,w⟩ a hc hi hg
 simp only at hc
 subst hc
 obtain⟨k1,k2,b,clk,born,k3,k4,k5,k6⟩:=Cx.kill (C:=C) hm hi.heap hC
 refine h b clk born k4 k5 ⟨θ,Hc.set io .dead,w⟩ a rfl ⟨k1,⟨fun p hp=>(aG.pt hm).1 _ _ (hi.iS.1 p hp),fun C0 h0=>k2 C0 (Nat.le_trans (hB C0 h0) hC) (hi.iS.2 C0 h0)⟩,hi.size,fun t' x hx=>?_,?_⟩ (k2 C hC hg)
 ·simp only[look] at hx
  split at hx
  ·rename_i e
   cases hx
   subst e
   have hv:=hi.env t' _ ht
   simp only[aG,hm] at hv
   obtain⟨_,b',e1,e2⟩:=hv
   rw[k3] at e1
   cases e1
   rw[e2];exact k6
  ·exact(aG.pt hm).1 _ _ (hi.env t' x hx)
 ·refine⟨fun d hd=>?_,hi.defs.2⟩
  obtain⟨r,q1,q2,q3,q4⟩:=hi.defs.1 d hd
  refine⟨r,q1,q2,⟨q3.1,fun⟨id,o,⟨B,hB',hl⟩,ht'⟩=>q3.2 ⟨id,o,⟨B,?_,hl⟩,ht'⟩⟩,q4⟩
  have hB2:(Hc.set io .dead)[id]? =some B:=hB'
  rw[List.getElem?_set] at hB2
  split at hB2
  ·split at hB2
   ·cases hB2;cases hl
   ·cases hB2
  ·exact hB2
theorem A4 (t sz:Nat) {c0:Code} (ht:look env t=some .nil) (h:(Out P G T own nt ρ C rs R) (.code c0::k) .normal ((t,.sl H.length 0 0 0)::env) (H++[.cells 0 sz []])):(Out P G T own nt ρ C rs R) (.code c0::k) .normal env H:=by
 intro c a hc hi hg
 obtain⟨g1,g2⟩:=Cx.fresh hi.heap (w':=c.w) c.w.heap.size (Nat.le_refl _) 0 none (.inl rfl) (.cells 0 sz []) (fun _ _=>rfl) (Nat.le_refl _) rfl rfl rfl (fun _=> .inl ⟨by simp,rfl⟩)
 generalize hc2:(⟨fun i=>if i=c.H.length then none else c.θ i,c.H++[.cells 0 sz []],c.w⟩:Cx)=c2 at g1 g2
 have hH:c2.H=H++[.cells 0 sz []]:=by rw[← hc2];show c.H++_=_;rw[hc]
 have hw:c2.w=c.w:=by rw[← hc2]
 rw[← hw]
 refine h c2 a hH ⟨g2,hi.iS.grow g1,hi.size,fun t' x hx=>?_,hi.defs.grow g1⟩ (hg.trans g1)
 simp only[look] at hx
 split at hx
 ·rename_i e
  cases hx
  subst e
  have hv:=hi.env t' _ ht
  simp only[aG] at hv
  rw[hv]
  simp only[aG,hH]
  refine⟨rfl,?_⟩
  simp only[List.getElem?_append_right (Nat.le_refl _),Nat.sub_self,List.getElem?_cons_zero]
  exact .inr ⟨trivial,Nat.le_refl _,none,0,rfl,Nat.le_refl _,Nat.zero_le _,.inl ⟨rfl,.inr (Nat.le_refl _)⟩⟩
 ·exact(hi.env t' x hx).grow g1
theorem CZ {x:Operand} {t bm clk:Nat} {born:List Nat} {kd:Option IntKind} {ks vs:List SV} {ti:TI} (h1:ev G env x=some (.fI bm clk born kd ks vs)) (h2:dT T t=some (kd,ti)) (hd:Nat.blt d nt=true)
 (hk:(Out P G T own nt ρ C rs R) (.ops all r::k) .normal ((d,.it H.length)::env) (H++[.obj (.mapIter (some bm) clk #[] clk)])):(Out P G T own nt ρ C rs R) (.ops all (⟨some d,.range t x,ty,pos,after,none⟩::r)::k) .normal env H:=by
 refine OW.law (R0:=fun y H'=>y= .it H.length∧H'=H++[.obj (.mapIter (some bm) clk #[] clk)]) rfl rfl hd (fun hT c a o' hs hc hi hg next Q hn=>?_) (fun y H' hy=>by obtain⟨rfl,rfl⟩:=hy;exact hk)
 have hv:=bZ hi h1
 simp only[aG] at hv
 obtain⟨e1,e2,ents,e3,_⟩:=hv
 have hu:∃ kk e,P.underlying t=some (.map kk e):=by
  unfold dT at h2
  split at h2
  ·rename_i q;exact⟨_,_,(hT _ _ q).1⟩
  ·cases h2
 obtain⟨kk,e,hu⟩:=hu
 obtain⟨g1,g2⟩:=Cx.fresh hi.heap (w':=c.w.alloc (.mapIter (some bm) clk #[] clk)) c.w.heap.size (Nat.le_refl _) 0 (some (c.w.heap.size,0)) (.inr rfl) (.obj (.mapIter (some bm) clk #[] clk)) (fun b hb=>Go.RowKit.Below.heap_alloc _ _ b hb) (by simp) rfl rfl rfl
  (fun _=>⟨c.w.heap.size,by simp,World.alloc_heap_new _ _,fun ds e=>by cases e⟩)
 obtain⟨s1,s2,s3⟩:=hs
 refine eU (u:= .pointer (some ⟨c.w.heap.size,0,none⟩)) (w':=c.w.alloc (.mapIter (some bm) clk #[] clk)) (by rw[s2];intro _ e;cases e) ?_ ?_
 ·simp[execOp,s2,e1,vy c.w t kk e bm clk ents hu e3]
 ·rw[s1]
  have:=hn (.it c.H.length) _ (.pointer (some ⟨c.w.heap.size,0,none⟩)) (by rw[hc];exact⟨rfl,rfl⟩) g2 (by
   simp only[aG]
   refine⟨rfl,?_⟩
   simp only[List.getElem?_append_right (Nat.le_refl _),Nat.sub_self,List.getElem?_cons_zero]
   exact⟨c.w.heap.size,by simp,rfl⟩) g1
  exact this
theorem aD.at {c:Cx} {α:Type} {f:α→Value}:∀ {xs:List SV} {l:List α},aD c xs (l.map f)→∀ {i:Nat} {e:α},l[i]? =some e→∃ x,xs[i]? =some x∧aG c x (f e)
 |[],l,h,i,e,he=>by
  have:=aD.dU.1 h
  rw[List.map_eq_nil_iff] at this
  subst this;cases he
 |x::xs,l,h,i,e,he=>by
  cases l with
  |nil=>cases he
  |cons y l=>
   obtain⟨u,us,h1,h2,h3⟩:=aD.bC.1 h
   rw[List.map_cons,List.cons.injEq] at h3
   obtain⟨rfl,rfl⟩:=h3
   cases i with
   |zero=>cases he;exact⟨x,rfl,h1⟩
   |succ i=>exact aD.at h2 (i:=i) he
theorem Fh {x:Operand} {tm iid bm clk:Nat} {seen:Array Nat} {born:List Nat} {kd:Option IntKind} {ks vs:List SV} (h1:ev G env x=some (.it iid)) (h2:look env tm=some (.fI bm clk born kd ks vs)) (h3:H[iid]? =some (.obj (.mapIter (some bm) clk seen clk))) (hd:Nat.blt d nt=true)
 (hk0:(∀ b∈born,seen.contains b=true)→(Out P G T own nt ρ C rs R) (.ops all r::k) .normal ((d,.tuple [.bool false])::env) H)
 (hk1:∀ (i b:Nat) (q y:SV),born[i]? =some b→seen.contains b=false→ks[i]? =some q→vs[i]? =some y→(Out P G T own nt ρ C rs R) (.ops all r::k) .normal ((d,.tuple [.bool true,q,y])::env) (H.set iid (.obj (.mapIter (some bm) clk (seen.push b) clk)))):
 (Out P G T own nt ρ C rs R) (.ops all (⟨some d,.next x false,ty,pos,after,none⟩::r)::k) .normal env H:=by
 refine OW.law (R0:=fun z H'=>((∀ b∈born,seen.contains b=true)∧z= .tuple [.bool false]∧H'=H)∨∃ (i b:Nat) (q y:SV),born[i]? =some b∧seen.contains b=false∧ks[i]? =some q∧vs[i]? =some y∧z= .tuple [.bool true,q,y]∧H'=H.set iid (.obj (.mapIter (some bm) clk (seen.push b) clk)))
  rfl rfl hd (fun hT c a o' hs hc hi hg next Q hn=>?_) (fun z H' hz=>by
   rcases hz with⟨q1,rfl,rfl⟩|⟨i,b,q,y,q1,q2,q3,q4,rfl,rfl⟩
   ·exact hk0 q1
   ·exact hk1 i b q y q1 q2 q3 q4)
 have hv:=bZ hi h1
 have hm:=hi.env tm _ h2
 rw[← hc] at h3
 simp only[aG,h3] at hv
 obtain⟨_,rb,r1,r2⟩:=hv
 simp only[aG] at hm
 obtain⟨_,m1,ents,m2,m3,m4,m5,m6,m7⟩:=hm
 obtain⟨b',q1,q2⟩:=pA hi.heap h3
 rw[r1] at q1;cases q1
 obtain⟨s1,s2,s3⟩:=hs
 have r2':a.eval x= .pointer (some ⟨rb,0,none⟩):=r2
 rcases run_next_at (P:=P) c.w o'.type rb bm clk seen ents q2 m2 m3.1 with⟨n1,n2⟩|⟨e,n1,n2,w1,n3,n4⟩
 ·refine eU (u:= .tuple #[.bool false]) (w':=c.w) (by rw[s2];intro _ e;cases e) ?_ ?_
  ·simp[execOp,s2,r2',n2]
  ·rw[s1]
   exact hn (.tuple [.bool false]) c _ (.inl ⟨fun b hb=>by
    rw[← m4] at hb
    obtain⟨e,he,rfl⟩:=List.mem_map.1 hb
    exact n1 e he,rfl,hc⟩) hi.heap (by simp only[aG];exact⟨[.bool false],aD.bT (bE c false) aD.cw,rfl⟩) (Grow.refl c)
 ·obtain⟨i,hi'⟩:=List.getElem?_of_mem n1
  obtain⟨y1,y2,y3⟩:=aD.at m5 hi'
  obtain⟨z1,z2,z3⟩:=aD.at m6 hi'
  have hb:born[i]? =some e.born:=by rw[← m4,List.getElem?_map,hi'];rfl
  obtain⟨c1,hc1,hg1,hh1⟩:∃ c1:Cx,c1={ c with w:=w1}∧Grow c c1∧aT c1:=by
   have:=Cx.world hi.heap (w':=w1) (fun b _=>by rcases n3 with rfl|rfl<;>rfl) (by rcases n3 with rfl|rfl<;>exact Nat.le_refl _) (by rcases n3 with rfl|rfl<;>rfl) (by rcases n3 with rfl|rfl<;>rfl) (by rcases n3 with rfl|rfl<;>rfl)
   exact⟨_,rfl,this.1,this.2⟩
  obtain⟨c2,g1,g2,g3,g4⟩:=oA (o:= .mapIter (some bm) clk seen clk) (o':= .mapIter (some bm) clk (seen.push e.born) clk) hh1 (id:=iid) (b:=rb) (by rw[hc1];exact h3) (by rw[hc1];exact r1) rfl (fun _ _ _ e=>by cases e) (fun _ e=>by cases e)
  refine eU (u:= .tuple #[.bool true,e.key,e.val]) (w':=w1.putObj rb (.mapIter (some bm) clk (seen.push e.born) clk)) (by rw[s2];intro _ e;cases e) ?_ ?_
  ·simp[execOp,s2,r2',n4]
  ·rw[s1]
   have:=hn (.tuple [.bool true,y1,z1]) c2 (.tuple #[.bool true,e.key,e.val]) (.inr ⟨i,e.born,y1,z1,hb,n2,y2,z2,rfl,by rw[g1,hc1];show c.H.set _ _=_;rw[hc]⟩) g4 (by
    simp only[aG]
    exact⟨[.bool true,e.key,e.val],aD.bT (bE c2 true) (aD.bT (y3.grow (hg1.trans g3)) (aD.bT (z3.grow (hg1.trans g3)) aD.cw)),rfl⟩) (hg1.trans g3)
   rw[g2,hc1] at this
   exact this
theorem CU {x:Operand} {tm iid bm clk i b:Nat} {seen:Array Nat} {born:List Nat} {kd:Option IntKind} {ks vs:List SV} {q y:SV} (h1:ev G env x=some (.it iid)) (h2:look env tm=some (.fI bm clk born kd ks vs)) (h3:H[iid]? =some (.obj (.mapIter (some bm) clk (seen.push b) clk)))
 (hb:born[i]? =some b) (hq:ks[i]? =some q) (hy:vs[i]? =some y) (hd:Nat.blt d nt=true)
 (hk:(Out P G T own nt ρ C rs R) (.ops all r::k) .normal ((d,.tuple [q,y])::env) H):
 (Out P G T own nt ρ C rs R) (.ops all (⟨some d,.entry x,ty,pos,after,none⟩::r)::k) .normal env H:=by
 refine OW.law (R0:=fun z H'=>z= .tuple [q,y]∧H'=H) rfl rfl hd (fun hT c a o' hs hc hi hg next Q hn=>?_) (fun z H' hz=>by obtain⟨rfl,rfl⟩:=hz;exact hk)
 have hv:=bZ hi h1
 have hm:=hi.env tm _ h2
 rw[← hc] at h3
 simp only[aG,h3] at hv
 obtain⟨_,rb,r1,r2⟩:=hv
 simp only[aG] at hm
 obtain⟨_,m1,ents,m2,m3,m4,m5,m6,m7⟩:=hm
 obtain⟨b',q1,q2⟩:=pA hi.heap h3
 rw[r1] at q1;cases q1
 obtain⟨s1,s2,s3⟩:=hs
 have r2':a.eval x= .pointer (some ⟨rb,0,none⟩):=r2
 rw[← m4,List.getElem?_map] at hb
 obtain⟨e,he,rfl⟩:=Option.map_eq_some_iff.1 hb
 obtain⟨y1,y2,y3⟩:=aD.at m5 he
 obtain⟨z1,z2,z3⟩:=aD.at m6 he
 rw[hq] at y2;cases y2
 rw[hy] at z2;cases z2
 refine eU (u:= .tuple #[e.key,e.val]) (w':=c.w) (by rw[s2];intro _ e;cases e) ?_ ?_
 ·simp[execOp,s2,r2',run_entry_at (P:=P) c.w rb bm clk seen ents e q2 m2 (List.mem_of_getElem? he) m3.2.1]
 ·rw[s1]
  exact hn (.tuple [q,y]) c _ ⟨rfl,hc⟩ hi.heap (by simp only[aG];exact⟨[e.key,e.val],aD.bT y3 (aD.bT z3 aD.cw),rfl⟩) (Grow.refl c)
end
end
section
open Go Go.ChangeShapes Go.WideShapes Go.RowKit
def yd (W:World):Cx:=⟨fun _=>none,[],W⟩
theorem Am {W:World} {b:Nat} (h:b<W.heap.size):(yd W).oY b:=⟨h,fun⟨_,_,_,ht⟩=>by cases ht⟩
theorem Hi (W:World):aT (yd W):=⟨fun id B h=>by simp[yd] at h,fun i j b o o' _ _ h=>by cases h⟩
section
variable {H:Type} {enc:TypeId×Value→H} {P:Program} {W:World} {sp:Nat→Bool}
def Good (W:World) (xs:List SV) (cs:List Value):Prop:=aD (yd W) xs cs∧∀ v∈cs,v.oneCell'=true
def Rd (enc:TypeId×Value→H) (P:Program) (W:World) (sp:Nat→Bool) (n:Nat) (t:TypeId) {α:Type} (f:α→List SV) (wt:α→Nat):Prop:=
 ∀ cs x,DataW.trod enc P W 0 sp true n t cs=some x→∃ a:α,Good W (f a) cs∧cs.length=P.cellsOf t∧wt a≤Rows.uptoBulk x.1
theorem Good.nil:Good W [] []:=⟨aD.cw,by simp⟩
theorem Good.append {xs ys:List SV} {cs ds:List Value} (h:Good W xs cs) (h':Good W ys ds):Good W (xs++ys) (cs++ds):=
 ⟨h.1.append h'.1,fun v hv=>(List.mem_append.1 hv).elim (h.2 v) (h'.2 v)⟩
theorem Good.cut {xs ys:List SV} {cs:List Value} {o k:Nat} (h:Good W xs ((cs.drop o).take k)) (h':Good W ys (cs.drop (o+k))):Good W (xs++ys) (cs.drop o):=by
 have:=h.append h'
 rwa[← List.drop_drop,List.take_append_drop] at this
theorem Good.one {x:SV} {v:Value} (h:aG (yd W) x v) (hv:v.oneCell'=true):Good W [x] [v]:=
 ⟨by simp only[aD];exact⟨v,[],h,rfl,rfl⟩,by simpa using hv⟩
theorem Eo {k:IntKind} {n:Int} (h:(Lit.int k n).wf=true):k.min≤n∧n≤k.max:=by
 simpa [Lit.wf] using h
theorem Hj {n:Nat} {t:TypeId} {k:IntKind} (ht:P.underlying t=some (.int k)) (hc:P.cellsOf t=1):Rd enc P W sp n t (fun i:Int=>[.int k i]) (fun _=>1):=by
 intro cs x h
 obtain⟨i,rfl,rfl,hw⟩:=DataW.trod_int ht h
 exact⟨i,.one (by simp only[aG];exact⟨trivial,Eo hw⟩) rfl,by simp[hc],by simp[Rows.uptoBulk]⟩
theorem Hk {n:Nat} {t:TypeId} (ht:P.underlying t=some .string) (hc:P.cellsOf t=1):Rd enc P W sp n t (fun s:aI=>[.str s]) (fun s=>s.length+1):=by
 intro cs x h
 obtain⟨i,rfl,rfl,hs⟩:=DataW.trod_string ht h
 exact⟨i.data.toList,.one (by simp only[aG];exact⟨trivial,by simpa using hs⟩) rfl,by simp[hc],by simp[Rows.uptoBulk]⟩
theorem pP {a:Addr} {n:Nat} {cs:List Value} (hn:0<n) (h:W.cells? 0 a n=some cs):a.spot=none∧cs.length=n∧W.rangeAt a.block a.off cs∧a.block<W.heap.size:=by
 obtain⟨_,hl,hc⟩:=World.cells?_some h
 have h0:=hc 0 hn
 obtain⟨c0,e0⟩:∃ c0,cs[0]? =some c0:=⟨cs[0],by simp[hl,hn]⟩
 rw[e0] at h0
 have hs:a.spot=none:=by simpa [Addr.add] using World.cell?_spot h0
 obtain⟨b,o,s⟩:=a
 cases hs
 refine⟨rfl,hl,fun j v hv=>?_,?_⟩
 ·have hj:j<n:=by
   rcases Nat.lt_or_ge j n with h1|h1
   ·exact h1
   ·rw[List.getElem?_eq_none (by omega)] at hv;cases hv
  have:=hc j hj
  rwa[Addr.add_mid,hv] at this
 ·have h1:W.cell? ⟨b,o,none⟩=some c0:=by simpa [Addr.add] using h0
  have:W.heap[b]? ≠none:=fun e=>by simp[World.cell?,e] at h1
  simpa using this
def bx (b:Bool) (x:List SV):SV:=if b then .agg x else x.headD .nil
def GG (b:Bool) (v:List Value):Value:=if b then .agg v.toArray else v.headD (.bool false)
theorem GF {b:Bool} {xs:List SV} {cs:List Value} {n:Nat} (h:Good W xs cs) (hl:cs.length=n) (hb:b=true∨n=1):aG (yd W) (bx b xs) (GG b cs)∧(GG b cs).cells.toList=cs:=by
 cases b with
 |true=>exact⟨by simp only[bx,GG,aG,if_true];exact⟨cs,h.1,h.2,rfl⟩,by simp[GG,Value.cells]⟩
 |false=>
  have hn:n=1:=by simpa using hb
  subst hn
  match cs,hl with
  |[v],_=>
   obtain⟨h1,h2⟩:=h
   match xs,h1 with
   |[],h1=>simp[aD] at h1
   |x::xs,h1=>
    simp only[aD] at h1
    obtain⟨u,us,h3,_,h4⟩:=h1
    cases h4
    have hv:v.oneCell'=true:=h2 v (by simp)
    exact⟨h3,by cases v<;>simp_all [GG,Value.cells,Value.oneCell']⟩
theorem qh {α:Type} {e:TypeId} {b:Bool} {f:α→List SV} {wt:α→Nat} {n m:Nat} (hsz:P.cellsOf e=n) (hn:0<n) (hb:b=true∨n=1) (he:Rd enc P W sp m e f wt):
 ∀ (len:Nat) (eS off:Nat) (elems:List (DataW H×List MemPlace)),elems.length=len→
  (∀ i,i<len→(W.cells? 0 ⟨eS,off+i*n,none⟩ n).bind (DataW.trod enc P W 0 sp true m e)=elems[i]?)→
  ∃ (l:List α) (vs:List Value),l.length=len∧aD (yd W) (l.map fun x=>bx b (f x)) vs∧(∀ u∈vs,u.cells.size=n∧cI u)∧W.rangeAt eS off (cellsOf vs)∧(len=0∨eS<W.heap.size)∧
   (l.map wt).sum≤Rows.uptoBulkAll (elems.map (·.1))
 |0,eS,off,elems,hl,_=>by
  have:elems=[]:=List.length_eq_zero_iff.1 hl
  subst this
  exact⟨[],[],rfl,aD.cw,by simp,by intro j v hv;simp[cellsOf] at hv,.inl rfl,by simp⟩
 |len+1,eS,off,[],hl,_=>by simp at hl
 |len+1,eS,off,y::elems,hl,hi=>by
  have h0:=hi 0 (by omega)
  simp only[Nat.zero_mul,Nat.add_zero,List.getElem?_cons_zero,Option.bind_eq_some_iff] at h0
  obtain⟨cs,hc,ht⟩:=h0
  obtain⟨_,hlen,hr,hblk⟩:=pP hn hc
  obtain⟨a,ha,_,hw⟩:=he cs y ht
  obtain⟨l,vs,h1,h2,h3,h4,_,h5⟩:=qh hsz hn hb he len eS (off+n) elems (by simpa using hl) (fun i hi'=>by
   have:=hi (i+1) (by omega)
   rw[List.getElem?_cons_succ] at this
   rw[← this]
   have:off+n+i*n=off+(i+1)*n:=by rw[Nat.succ_mul];omega
   rw[this])
  obtain⟨h6,h7⟩:=GF (b:=b) ha hlen hb
  refine⟨a::l,GG b cs::vs,by simp[h1],?_,?_,?_,.inr hblk,?_⟩
  ·simp only[List.map_cons,aD];exact⟨_,_,h6,h2,rfl⟩
  ·intro u hu
   rcases List.mem_cons.1 hu with rfl|hu
   ·refine⟨by rw[← Array.length_toList,h7,hlen],fun v hv=>?_⟩
    rw[h7] at hv
    exact ha.2 v hv
   ·exact h3 u hu
  ·have:cellsOf (GG b cs::vs)=cs++cellsOf vs:=by simp[cellsOf,h7]
   rw[this]
   exact fU hr (by rw[hlen];exact h4)
  ·simp only[List.map_cons,List.sum_cons,Rows.uptoBulkAll];omega
theorem kf {α:Type} {t e:TypeId} (b:Bool) {f:α→List SV} {wt:α→Nat} {n N:Nat} (ht:P.underlying t=some (.slice e)) (hc:P.cellsOf t=1) (hsz:P.cellsOf e=n) (hn:0<n) (hb:b=true∨n=1)
 (he:∀ m,N=m+1→Rd enc P W sp m e f wt):Rd enc P W sp N t (fun l:List α=>[.list n (l.map fun x=>bx b (f x))]) (fun l=>1+(l.map wt).sum):=by
 intro cs x h
 rcases DataW.trod_slice ht h with⟨rfl,rfl⟩|⟨a,len,cap,elems,rest,m,rfl,rfl,rfl,_,hlc,hcm,hel,hi,_⟩
 ·exact⟨[],.one (by simp only[aG];exact⟨none,0,rfl,Nat.le_refl _,Nat.zero_le _,.inl rfl⟩) rfl,by simp[hc],by simp[Rows.uptoBulk]⟩
 ·rw[hsz] at hi
  rcases Nat.eq_zero_or_pos len with rfl|hpos
  ·have:elems=[]:=List.length_eq_zero_iff.1 hel
   subst this
   exact⟨[],.one (by simp only[aG];exact⟨some a,cap,rfl,Nat.zero_le _,hcm,.inl rfl⟩) rfl,by simp[hc],by simp[Rows.uptoBulk]⟩
  ·have h0:=hi 0 hpos
   obtain⟨y0,hy0⟩:∃ y,elems[0]? =some y:=⟨elems[0],by simp[hel,hpos]⟩
   rw[hy0,Option.bind_eq_some_iff] at h0
   obtain⟨cs0,hc0,_⟩:=h0
   have hs:a.spot=none:=by
    have:=(pP hn hc0).1
    simpa [Addr.add] using this
   obtain⟨eS,off,s⟩:=a
   cases hs
   obtain⟨l,vs,h1,h2,h3,h4,h5,h6⟩:=qh hsz hn hb (he m rfl) len eS off elems hel (fun i hi'=>by
    have:=hi i hi'
    rwa[Addr.add_mid] at this)
   refine⟨l,.one ?_ rfl,by simp[hc],by simp only[Rows.uptoBulk];omega⟩
   simp only[aG]
   refine⟨some ⟨eS,off,none⟩,cap,by simp[h1],by simpa [h1] using hlc,hcm,.inr ⟨eS,off,vs,rfl,h2,h3,h4,?_⟩⟩
   rcases h5 with h5|h5
   ·omega
   ·exact Am h5
theorem Aa {α:Type}:∀ {xs:List α},xs.length=2→∃ z0 z1,xs=[z0,z1]
 |[z0,z1],_=>⟨z0,z1,rfl⟩
theorem Dp {α:Type}:∀ {xs:List α},xs.length=5→∃ z0 z1 z2 z3 z4,xs=[z0,z1,z2,z3,z4]
 |[z0,z1,z2,z3,z4],_=>⟨z0,z1,z2,z3,z4,rfl⟩
theorem Ba {α:Type}:∀ {xs:List α},xs.length=8→∃ z0 z1 z2 z3 z4 z5 z6 z7,xs=[z0,z1,z2,z3,z4,z5,z6,z7]
 |[z0,z1,z2,z3,z4,z5,z6,z7],_=>⟨z0,z1,z2,z3,z4,z5,z6,z7,rfl⟩
theorem cQ {cs:List Value} {xs:List (DataW H×List MemPlace)} {fs:Array Field} {n:Nat}
 (hf:∀ (i:Nat) (f:Field),fs[i]? =some f→DataW.trod enc P W 0 sp true n f.type ((cs.drop f.offset).take (P.cellsOf f.type))=xs[i]?) (i:Nat) {t:Nat} (o k:Nat)
 (h:(fs[i]?).map (fun f=>(f.type,f.offset))=some (t,o)) (hk:P.cellsOf t=k) {α:Type} {g:α→List SV} {wt:α→Nat} (hr:Rd enc P W sp n t g wt) (hl:i<xs.length):
 ∃ (y:DataW H×List MemPlace) (a:α),xs[i]? =some y∧Good W (g a) ((cs.drop o).take k)∧wt a≤Rows.uptoBulk y.1:=by
 cases hi:fs[i]? with
 |none=>rw[hi] at h;cases h
 |some f=>
  rw[hi] at h
  simp only[Option.map_some,Option.some.injEq,Prod.mk.injEq] at h
  obtain⟨rfl,rfl⟩:=h
  subst hk
  have hy:xs[i]? =some xs[i]:=by simp[hl]
  obtain⟨a,h1,_,h2⟩:=hr _ _ ((hf i f hi).trans hy)
  exact⟨_,a,hy,h1,h2⟩
end
theorem sQ {α:Type} (f:List α→Nat) (g:α→Nat) (h0:f []=0) (h1:∀ x l,f (x::l)=g x+f l):∀ l,f l=(l.map g).sum
 |[]=>by simp[h0]
 |x::l=>by rw[h1,sQ f g h0 h1 l];simp
theorem zj (l:List aI):cW l=(l.map fun s=>s.length+1).sum:=sQ cW _ (by simp[cW]) (fun x l=>by simp only[cW];omega) l
theorem AT (l:List Ex):bt l=(l.map Ex.wt).sum:=sQ bt _ (by simp[bt]) (fun x l=>by simp only[bt]) l
theorem tq (l:List Bd):aW l=(l.map Bd.wt).sum:=sQ aW _ (by simp[aW]) (fun x l=>by simp only[aW]) l
theorem AE (l:List Al):cp l=(l.map Al.wt).sum:=sQ cp _ (by simp[cp]) (fun x l=>by simp only[cp]) l
theorem Grow.below {W W':World} {c':Cx} (h:Grow (yd W) c') (e:c'.w=W'):Below W.heap.size W W':=by
 subst e
 exact⟨h.os,h.tape,h.output,h.size,fun k hk=>h.Bo k hk (Am hk).2⟩
section
variable {H:Type} {enc:TypeId×Value→H} {P:Program} {W W':World}
theorem na (hl:laidOutB P=true) (hb:Below W.heap.size W W') {sp:Nat→Bool}:∀ {ts:List TypeId} {vs:List Value} {ds:List (DataW H)} {ps:List MemPlace},
 (∀ t∈ts,P.readableRec t=true∧t<P.types.size)→DataW.TrodAll enc P W 0 (fun _=>true) true ts vs ds ps→(∀ p∈ps,p.block<W.heap.size)→(∀ p∈ps,sp p.block=true)→
 DataW.TrodAll enc P W' 0 sp true ts vs ds ps
 |[],vs,ds,ps,_,h,_,_=>by
  obtain⟨rfl,rfl,rfl⟩:=trodAll_nil h
  exact trodAll_mk0
 |t::ts,vs,ds,ps,hr,h,hlt,hs=>by
  obtain⟨v,vs',d,ds',p,q,rfl,rfl,rfl,h1,h2⟩:=trodAll_cons h
  refine trodAll_cons_mk (WideElems.Trod_stays hl (hr t (by simp)).1 (hr t (by simp)).2 h1 (fun x hx=>hb.same (hlt x (by simp[hx]))) (fun x hx=>hs x (by simp[hx]))) ?_
  exact na hl hb (fun t ht=>hr t (by simp[ht])) h2 (fun x hx=>hlt x (by simp[hx])) (fun x hx=>hs x (by simp[hx]))
theorem Dm (hl:laidOutB P=true) {f:Func} {s:ChangeSpec} (hsv:s.vars=[]) {args:Array Value} {ds gs:List (DataW H)} {before:List MemPlace}
 (hW:DataW.Whole enc P f.params.toList s.vars false W args.toList ds gs before) (hr:∀ t∈f.params.toList,P.readableRec t=true∧t<P.types.size)
 {tb:TypeId} (hrt:f.resultTypes= #[tb]) (htb:P.underlying tb=some .bool) (h1:(s.fn H (ds++gs)).results=[.lit (.bool true)]) (h2:(s.fn H (ds++gs)).args=ds) (h3:(s.fn H (ds++gs)).vars=[])
 (hb:Below W.heap.size W W'):s.post enc P f false true false false W args (.bool true) W':=by
 have hW0:=hW
 obtain⟨p,q,hA,hV,rfl,_,_⟩:=hW
 rw[hsv] at hV
 obtain⟨rfl,rfl⟩:=trodVars_none hV
 have hlt:∀ x∈p,x.block<W.heap.size:=fun x hx=>hW0.lt x (by simp[hx])
 refine⟨ds,[],p++[],[],p,[],hW0,?_,?_,?_,?_,fun h=>by cases h⟩
 ·rw[hrt,h1]
  exact trodAll_cons_mk (p':=[]) (shut_bool htb true) trodAll_mk0
 ·rw[h2]
  exact na hl hb hr hA hlt (fun x hx=>by simpa using hlt x hx)
 ·rw[hsv,h3];rfl
 ·exact World.keptBut_mono (fun x hx=>⟨hx,.inr (.inl (by simpa using hx))⟩) (hb.frame (· ∈p++[]))
end
end
section
open Go Go.ChangeShapes Go.WideShapes Go.RowKit
section
variable {H:Type} {enc:TypeId×Value→H} {W:World} {sp:Nat→Bool}
theorem lZ (n:Nat):Rd enc Tryz.prog W sp n 9 (fun s:aI=>[.str s]) (fun s=>s.length+1):=Hk (by kernel_rfl) (by kernel_rfl)
theorem gG (n:Nat):Rd enc Tryz.prog W sp n 3 (fun i:Int=>[.int .i64 i]) (fun _=>1):=Hj (by kernel_rfl) (by kernel_rfl)
theorem ue (n:Nat):Rd enc Tryz.prog W sp n 36 (fun l:List aI=>[.list 1 (l.map .str)]) (fun l=>1+cW l):=by
 have h:=kf (enc:=enc) (P:=Tryz.prog) (W:=W) (sp:=sp) (t:=36) (e:=9) false (f:=fun s:aI=>[SV.str s]) (wt:=fun s=>s.length+1) (n:=1) (N:=n) (by kernel_rfl) (by kernel_rfl) (by kernel_rfl) (by omega) (.inr rfl) (fun m _=>lZ m)
 intro cs x hx
 obtain⟨a,h1,h2,h3⟩:=h cs x hx
 exact⟨a,h1,h2,by show 1+cW a≤_;rw[zj];exact h3⟩
theorem CJ (k:Int) (s:aI) (n o:Int) (l:List aI) (ad:List Ex) (binds:List Bd) (alts:List Al):
 (Ex.mk k s n o l ad binds alts).cells=[.int .i64 k]++([.str s]++([.int .i64 n]++([.int .i64 o]++([.list 1 (l.map .str)]++([.list 8 (ad.map fun x=>bx true x.cells)]++([.list 9 (binds.map fun x=>bx true x.cells)]++([.list 12 (alts.map fun x=>bx true x.cells)]++[]))))))):=by
 simp only[Ex.cells,bQ,cr,dC];rfl
theorem FI (n:Nat):Rd enc Tryz.prog W sp n 51 Ex.cells Ex.wt∧Rd enc Tryz.prog W sp n 53 Bd.cells Bd.wt∧Rd enc Tryz.prog W sp n 131 Al.cells Al.wt:=by
 induction n using Nat.strongRecOn with
 |_ n ih=>
 have hE:Rd enc Tryz.prog W sp n 51 Ex.cells Ex.wt:=by
  intro cs x hx
  obtain⟨xs,m,rfl,rfl,hl,hlen,hf⟩:=DataW.trod_struct Tryz.underlying51 hx
  obtain⟨z0,z1,z2,z3,z4,z5,z6,z7,rfl⟩:=Ba (show xs.length=8 from hlen)
  have hsz:Tryz.prog.cellsOf 51=8:=by kernel_rfl
  have hsubs:∀ m',m=m'+1→Rd enc Tryz.prog W sp m' 51 Ex.cells Ex.wt:=fun m' e=>(ih m' (by omega)).1
  have hbinds:∀ m',m=m'+1→Rd enc Tryz.prog W sp m' 53 Bd.cells Bd.wt:=fun m' e=>(ih m' (by omega)).2.1
  have halts:∀ m',m=m'+1→Rd enc Tryz.prog W sp m' 131 Al.cells Al.wt:=fun m' e=>(ih m' (by omega)).2.2
  obtain⟨y0,k,e0,g0,w0⟩:=cQ hf 0 0 1 (by kernel_rfl) (by kernel_rfl) (gG m) (by simp)
  obtain⟨y1,s,e1,g1,w1⟩:=cQ hf 1 1 1 (by kernel_rfl) (by kernel_rfl) (lZ m) (by simp)
  obtain⟨y2,i,e2,g2,w2⟩:=cQ hf 2 2 1 (by kernel_rfl) (by kernel_rfl) (gG m) (by simp)
  obtain⟨y3,o,e3,g3,w3⟩:=cQ hf 3 3 1 (by kernel_rfl) (by kernel_rfl) (gG m) (by simp)
  obtain⟨y4,l,e4,g4,w4⟩:=cQ hf 4 4 1 (by kernel_rfl) (by kernel_rfl) (ue m) (by simp)
  obtain⟨y5,ad,e5,g5,w5⟩:=cQ hf 5 5 1 (by kernel_rfl) (by kernel_rfl) (kf (t:=48) (e:=51) true (by kernel_rfl) (by kernel_rfl) (n:=8) (by kernel_rfl) (by omega) (.inl rfl) hsubs) (by simp)
  obtain⟨y6,binds,e6,g6,w6⟩:=cQ hf 6 6 1 (by kernel_rfl) (by kernel_rfl) (kf (t:=23) (e:=53) true (by kernel_rfl) (by kernel_rfl) (n:=9) (by kernel_rfl) (by omega) (.inl rfl) hbinds) (by simp)
  obtain⟨y7,alts,e7,g7,w7⟩:=cQ hf 7 7 1 (by kernel_rfl) (by kernel_rfl) (kf (t:=49) (e:=131) true (by kernel_rfl) (by kernel_rfl) (n:=12) (by kernel_rfl) (by omega) (.inl rfl) halts) (by simp)
  rw[hsz] at hl
  refine⟨.mk k s i o l ad binds alts,?_,by rw[hsz,hl],?_⟩
  ·rw[CJ,← List.drop_zero (l:=cs)]
   refine .cut g0 (.cut g1 (.cut g2 (.cut g3 (.cut g4 (.cut g5 (.cut g6 (.cut g7 ?_)))))))
   rw[List.drop_eq_nil_of_le (by omega)]
   exact .nil
  ·cases e0;cases e1;cases e2;cases e3;cases e4;cases e5;cases e6;cases e7
   simp only[Rows.uptoBulk,Rows.uptoBulkAll,List.map_cons,List.map_nil,Ex.wt,AT,tq,AE]
   omega
 have hE':∀ m,n=m+1→Rd enc Tryz.prog W sp m 51 Ex.cells Ex.wt:=fun m e=>(ih m (by omega)).1
 refine⟨hE,?_,?_⟩
 ·intro cs x hx
  obtain⟨xs,m,hm,rfl,hl,hlen,hf⟩:=DataW.trod_struct Tryz.underlying53 hx
  obtain⟨z0,z1,rfl⟩:=Aa (show xs.length=2 from hlen)
  have hsz:Tryz.prog.cellsOf 53=9:=by kernel_rfl
  obtain⟨y0,s,e0,g0,w0⟩:=cQ hf 0 0 1 (by kernel_rfl) (by kernel_rfl) (lZ m) (by simp)
  obtain⟨y1,e,e1,g1,w1⟩:=cQ hf 1 1 8 (by kernel_rfl) (by kernel_rfl) (hE' m hm) (by simp)
  rw[hsz] at hl
  refine⟨.mk s e,?_,by rw[hsz,hl],?_⟩
  ·have:(Bd.mk s e).cells=[.str s]++(e.cells++[]):=by simp[Bd.cells]
   rw[this,← List.drop_zero (l:=cs)]
   refine .cut g0 (.cut g1 ?_)
   rw[List.drop_eq_nil_of_le (by omega)]
   exact .nil
  ·cases e0;cases e1
   simp only[Rows.uptoBulk,Rows.uptoBulkAll,List.map_cons,List.map_nil,Bd.wt]
   omega
 ·intro cs x hx
  obtain⟨xs,m,hm,rfl,hl,hlen,hf⟩:=DataW.trod_struct Tryz.underlying131 hx
  obtain⟨z0,z1,z2,z3,z4,rfl⟩:=Dp (show xs.length=5 from hlen)
  have hsz:Tryz.prog.cellsOf 131=12:=by kernel_rfl
  obtain⟨y0,k,e0,g0,w0⟩:=cQ hf 0 0 1 (by kernel_rfl) (by kernel_rfl) (gG m) (by simp)
  obtain⟨y1,s,e1,g1,w1⟩:=cQ hf 1 1 1 (by kernel_rfl) (by kernel_rfl) (lZ m) (by simp)
  obtain⟨y2,i,e2,g2,w2⟩:=cQ hf 2 2 1 (by kernel_rfl) (by kernel_rfl) (gG m) (by simp)
  obtain⟨y3,l,e3,g3,w3⟩:=cQ hf 3 3 1 (by kernel_rfl) (by kernel_rfl) (ue m) (by simp)
  obtain⟨y4,e,e4,g4,w4⟩:=cQ hf 4 4 8 (by kernel_rfl) (by kernel_rfl) (hE' m hm) (by simp)
  rw[hsz] at hl
  refine⟨.mk k s i l e,?_,by rw[hsz,hl],?_⟩
  ·have:(Al.mk k s i l e).cells=[.int .i64 k]++([.str s]++([.int .i64 i]++([.list 1 (l.map .str)]++(e.cells++[])))):=by simp[Al.cells]
   rw[this,← List.drop_zero (l:=cs)]
   refine .cut g0 (.cut g1 (.cut g2 (.cut g3 (.cut g4 ?_))))
   rw[List.drop_eq_nil_of_le (by omega)]
   exact .nil
  ·cases e0;cases e1;cases e2;cases e3;cases e4
   simp only[Rows.uptoBulk,Rows.uptoBulkAll,List.map_cons,List.map_nil,Al.wt]
   omega
end
end
section
section
variable {P:Program} {G:Gl} {T:aE} {own:List Nat} {nt B:Nat} {ρ:Option Nat} {C:Cx} {rs:List ResultVar} {R:SV→List az→Prop} {env env2:Env} {H H':List az} {k:List It}
variable {all r:List Oper} {ty d j dj:Nat} {op:Op} {pos:String} {after:Array Edge} {v:SV}
theorem cC.length {c:Cx}:∀ {es:List (SV×SV)} {l:List MapEntry},cC c es l→l.length=es.length
 |[],l,h=>by simp only[cC] at h;subst h;rfl
 |(q,x)::es,l,h=>by
  simp only[cC] at h
  obtain⟨e,es',_,_,h3,rfl⟩:=h
  simp[cC.length h3]
structure zz (G:Gl) (id bm:Nat) (kd:Option IntKind):Prop where
 there:∃ C',G.base=some C'∧(∃ es0,C'.H[id]? =some (.map kd es0))∧C'.θ id=some (bm,0)
theorem zz.of {C':Cx} (hc:aT C') {l:List (Nat×SV)} {id:Nat} {kd:Option IntKind} {es:List (SV×SV)} (h:C'.H[id]? =some (.map kd es)):∃ bm,zz ⟨l,some C'⟩ id bm kd:=by
 obtain⟨b,ents,clk,h1,_⟩:=hc.eS id _ h
 exact⟨b,⟨C',rfl,⟨es,h⟩,h1⟩⟩
end
end
section
section
variable {P:Program} {G:Gl} {T:aE} {own:List Nat} {nt B:Nat} {ρ:Option Nat} {C:Cx} {rs:List ResultVar} {R:SV→List az→Prop} {env env2:Env} {H H2:List az} {k:List It}
theorem Wk.trans {s s2 s3:St} (h1:Wk G nt C s s2) (h2:Wk G nt C s2 s3):Wk G nt C s s3:=by
 intro c a hc hi hg
 obtain⟨c',e1,e2,e3,e4⟩:=h1 c a hc hi hg
 obtain⟨c'',f1,f2,f3,f4⟩:=h2 c' a e1 e3 e4
 exact⟨c'',f1,f2.trans e2,f3,f4⟩
theorem oW {id g s i j:Nat} {vals fs:List SV} (sz:Nat) (hb:H[id]? =some (.cells g s vals)) (hk:vals[i]? =some (.agg fs)) (hj:fs[j]? =some .nil):
 Wk G nt C ⟨env,H⟩ ⟨env,H.set id (.cells g s (vals.set i (.agg (fs.set j (.sl H.length 0 0 0)))))++[.cells 0 sz []]⟩:=by
 intro c a hc hi hg
 have hc:c.H=H:=hc
 subst hc
 have hid:id<c.H.length:=(List.getElem?_eq_some_iff.1 hb).1
 obtain⟨g1,g2⟩:=Cx.fresh hi.heap (w':=c.w) c.w.heap.size (Nat.le_refl _) 0 none (.inl rfl) (.cells 0 sz []) (fun _ _=>rfl) (Nat.le_refl _) rfl rfl rfl (fun _=> .inl ⟨by simp,rfl⟩)
 generalize hc1:(⟨fun i=>if i=c.H.length then none else c.θ i,c.H++[.cells 0 sz []],c.w⟩:Cx)=c1 at g1 g2
 have hH:c1.H=c.H++[.cells 0 sz []]:=by rw[← hc1]
 have hw:c1.w=c.w:=by rw[← hc1]
 have hb1:c1.H[id]? =some (.cells g s vals):=by rw[hH,List.getElem?_append_left hid];exact hb
 obtain⟨t1,t2⟩:=Cx.tg g2 (w':=c1.w) hb1 rfl (B':= .cells g s (vals.set i (.agg (fs.set j (.sl c.H.length 0 0 0))))) (c1.θ id)
  ⟨g,_,rfl,Nat.le_refl _,fun _=>⟨rfl,by simp⟩,fun b' o' h'=> .inr ⟨o',h'⟩⟩ (fun _ _ _=>rfl) (Nat.le_refl _) rfl rfl rfl (fun b cs T fr h=>⟨cs,fr,h,rfl⟩)
  (fun hg=>by
   rcases g2.eS id _ hb1 with⟨h2,h3⟩|⟨b,o,cs,Ty,fr,vs,h2,h3,h4,h5,h6,h7⟩
   ·rw[h3] at hk;simp at hk
   ·refine .inr ⟨b,o,cs,Ty,fr,vs,by simp[h2],h3,h4,?_,h6,h7⟩
    obtain⟨u,u1,u2⟩:=h5.get hk
    have u0:=u2
    simp only[aG] at u2
    obtain⟨ws,w1,w2,w3⟩:=u2
    obtain⟨z,z1,z2⟩:=w1.get hj
    simp only[aG] at z2
    have h8:=h5.grow hg
    have h9:=w1.grow hg
    refine dV u1 ▸ h8.set i (u:=u) ?_
    simp only[aG]
    refine⟨ws,?_,w2,w3⟩
    refine dV z1 ▸ h9.set j (u:=z) ?_
    simp only[aG]
    have hne:¬ c.H.length=id:=by omega
    refine⟨by rw[z2];rfl,?_⟩
    have hn:(c1.H.set id (.cells g s (vals.set i (.agg (fs.set j (.sl c.H.length 0 0 0))))))[c.H.length]? =some (.cells 0 sz []):=by
     rw[List.getElem?_set_ne (fun e=>hne e.symm),hH];simp
    rw[hn]
    exact .inr ⟨rfl,Nat.le_refl _,none,0,z2,Nat.le_refl _,Nat.zero_le _,.inl ⟨rfl,.inr (Nat.le_refl _)⟩⟩)
 refine⟨{ θ:=fun i=>if i=id then c1.θ id else c1.θ i,H:=c1.H.set id (.cells g s (vals.set i (.agg (fs.set j (.sl c.H.length 0 0 0))))),w:=c1.w},?_,hw,⟨t2,hi.iS.grow (g1.trans t1),hi.size,fun t' x hx=>(hi.env t' x hx).grow (g1.trans t1),hi.defs.grow (g1.trans t1)⟩,(hg.trans g1).trans t1⟩
 show c1.H.set id _=_
 rw[hH,List.set_append_left _ _ hid]
end
end
end Go.Proofs.YtedejleokilohaaGreatDoor
