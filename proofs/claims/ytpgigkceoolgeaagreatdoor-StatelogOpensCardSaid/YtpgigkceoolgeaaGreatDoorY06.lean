import Derived.Test.YtpgigkceoolgeaaGreatDoorY05
import Derived.KernelRfl
set_option linter.all false
namespace Go.Proofs.YtpgigkceoolgeaaGreatDoor.Fd
open Go
set_option maxRecDepth 100000
theorem mixed:Tryz.prog.follows .mixedOrders=true:=by kernel_rfl
theorem t2_k:knd Tryz.prog 2=some false:=by kernel_rfl
theorem t2_s:siz Tryz.prog 2=some 1:=by kernel_rfl
theorem t3_k:knd Tryz.prog 3=some false:=by kernel_rfl
theorem t3_s:siz Tryz.prog 3=some 1:=by kernel_rfl
theorem t3_z:zer Tryz.prog 3=some (.int .i64 0):=by kernel_rfl
theorem t4_k:knd Tryz.prog 4=some false:=by kernel_rfl
theorem t4_s:siz Tryz.prog 4=some 1:=by kernel_rfl
theorem t5_k:knd Tryz.prog 5=some false:=by kernel_rfl
theorem t5_s:siz Tryz.prog 5=some 1:=by kernel_rfl
theorem t5_b:byt Tryz.prog 5=some 1:=by kernel_rfl
theorem t5_z:zer Tryz.prog 5=some (.int .u8 0):=by kernel_rfl
theorem t9_k:knd Tryz.prog 9=some false:=by kernel_rfl
theorem t24_k:knd Tryz.prog 24=some false:=by kernel_rfl
theorem t29_k:knd Tryz.prog 29=some false:=by kernel_rfl
theorem t29_s:siz Tryz.prog 29=some 1:=by kernel_rfl
theorem t32_k:knd Tryz.prog 32=some false:=by kernel_rfl
theorem t32_s:siz Tryz.prog 32=some 1:=by kernel_rfl
theorem t32_z:zer Tryz.prog 32=some (.slice none 0 0):=by kernel_rfl
theorem t32_e:elt Tryz.prog 32=some 76:=by kernel_rfl
theorem t33_k:knd Tryz.prog 33=some false:=by kernel_rfl
theorem t33_s:siz Tryz.prog 33=some 1:=by kernel_rfl
theorem t33_e:elt Tryz.prog 33=some 88:=by kernel_rfl
theorem t35_k:knd Tryz.prog 35=some true:=by kernel_rfl
theorem t35_s:siz Tryz.prog 35=some 2:=by kernel_rfl
theorem t35_z:zer Tryz.prog 35=some (.agg #[(.slice none 0 0),(.slice none 0 0)]):=by kernel_rfl
theorem t35_f0:fofs Tryz.prog 35 0=some 0:=by kernel_rfl
theorem t35_f1:fofs Tryz.prog 35 1=some 1:=by kernel_rfl
theorem t37_f0:fofs Tryz.prog 37 0=some 0:=by kernel_rfl
theorem t37_f1:fofs Tryz.prog 37 1=some 1:=by kernel_rfl
theorem t37_f2:fofs Tryz.prog 37 2=some 3:=by kernel_rfl
theorem t38_k:knd Tryz.prog 38=some false:=by kernel_rfl
theorem t38_e:elt Tryz.prog 38=some 55:=by kernel_rfl
theorem t43_k:knd Tryz.prog 43=some false:=by kernel_rfl
theorem t43_e:elt Tryz.prog 43=some 4:=by kernel_rfl
theorem t52_k:knd Tryz.prog 52=some false:=by kernel_rfl
theorem t52_s:siz Tryz.prog 52=some 1:=by kernel_rfl
theorem t55_k:knd Tryz.prog 55=some false:=by kernel_rfl
theorem t55_s:siz Tryz.prog 55=some 1:=by kernel_rfl
theorem t55_b:byt Tryz.prog 55=some 24:=by kernel_rfl
theorem t55_z:zer Tryz.prog 55=some (.slice none 0 0):=by kernel_rfl
theorem t55_e:elt Tryz.prog 55=some 5:=by kernel_rfl
theorem t59_k:knd Tryz.prog 59=some false:=by kernel_rfl
theorem t59_s:siz Tryz.prog 59=some 1:=by kernel_rfl
theorem t74_k:knd Tryz.prog 74=some false:=by kernel_rfl
theorem t74_s:siz Tryz.prog 74=some 1:=by kernel_rfl
theorem t74_e:elt Tryz.prog 74=some 129:=by kernel_rfl
theorem t76_k:knd Tryz.prog 76=some true:=by kernel_rfl
theorem t76_s:siz Tryz.prog 76=some 6:=by kernel_rfl
theorem t76_f0:fofs Tryz.prog 76 0=some 0:=by kernel_rfl
theorem t76_f1:fofs Tryz.prog 76 1=some 1:=by kernel_rfl
theorem t76_f2:fofs Tryz.prog 76 2=some 2:=by kernel_rfl
theorem t76_f3:fofs Tryz.prog 76 3=some 3:=by kernel_rfl
theorem t76_f4:fofs Tryz.prog 76 4=some 4:=by kernel_rfl
theorem t76_f5:fofs Tryz.prog 76 5=some 5:=by kernel_rfl
theorem t82_f0:fofs Tryz.prog 82 0=some 0:=by kernel_rfl
theorem t82_f1:fofs Tryz.prog 82 1=some 1:=by kernel_rfl
theorem t82_f2:fofs Tryz.prog 82 2=some 2:=by kernel_rfl
theorem t83_k:knd Tryz.prog 83=some false:=by kernel_rfl
theorem t83_s:siz Tryz.prog 83=some 1:=by kernel_rfl
theorem t83_e:elt Tryz.prog 83=some 175:=by kernel_rfl
theorem t85_s:siz Tryz.prog 85=some 8:=by kernel_rfl
theorem t85_f0:fofs Tryz.prog 85 0=some 0:=by kernel_rfl
theorem t85_f1:fofs Tryz.prog 85 1=some 3:=by kernel_rfl
theorem t85_f2:fofs Tryz.prog 85 2=some 4:=by kernel_rfl
theorem t85_f3:fofs Tryz.prog 85 3=some 5:=by kernel_rfl
theorem t85_f4:fofs Tryz.prog 85 4=some 6:=by kernel_rfl
theorem t85_f5:fofs Tryz.prog 85 5=some 7:=by kernel_rfl
theorem t86_k:knd Tryz.prog 86=some false:=by kernel_rfl
theorem t86_s:siz Tryz.prog 86=some 1:=by kernel_rfl
theorem t86_e:elt Tryz.prog 86=some 154:=by kernel_rfl
theorem t88_s:siz Tryz.prog 88=some 9:=by kernel_rfl
theorem t88_f0:fofs Tryz.prog 88 0=some 0:=by kernel_rfl
theorem t88_f1:fofs Tryz.prog 88 1=some 8:=by kernel_rfl
theorem t90_k:knd Tryz.prog 90=some true:=by kernel_rfl
theorem t90_s:siz Tryz.prog 90=some 4:=by kernel_rfl
theorem t90_f0:fofs Tryz.prog 90 0=some 0:=by kernel_rfl
theorem t90_f1:fofs Tryz.prog 90 1=some 1:=by kernel_rfl
theorem t90_f2:fofs Tryz.prog 90 2=some 3:=by kernel_rfl
theorem t92_f0:fofs Tryz.prog 92 0=some 0:=by kernel_rfl
theorem t92_f1:fofs Tryz.prog 92 1=some 1:=by kernel_rfl
theorem t92_f2:fofs Tryz.prog 92 2=some 2:=by kernel_rfl
theorem t92_f3:fofs Tryz.prog 92 3=some 6:=by kernel_rfl
theorem t95_k:knd Tryz.prog 95=some false:=by kernel_rfl
theorem t95_s:siz Tryz.prog 95=some 1:=by kernel_rfl
theorem t95_e:elt Tryz.prog 95=some 156:=by kernel_rfl
theorem t97_f0:fofs Tryz.prog 97 0=some 0:=by kernel_rfl
theorem t97_f1:fofs Tryz.prog 97 1=some 1:=by kernel_rfl
theorem t97_f2:fofs Tryz.prog 97 2=some 2:=by kernel_rfl
theorem t97_f3:fofs Tryz.prog 97 3=some 3:=by kernel_rfl
theorem t97_f4:fofs Tryz.prog 97 4=some 4:=by kernel_rfl
theorem t97_f5:fofs Tryz.prog 97 5=some 5:=by kernel_rfl
theorem t100_f0:fofs Tryz.prog 100 0=some 0:=by kernel_rfl
theorem t100_f1:fofs Tryz.prog 100 1=some 1:=by kernel_rfl
theorem t100_f2:fofs Tryz.prog 100 2=some 2:=by kernel_rfl
theorem t100_f3:fofs Tryz.prog 100 3=some 3:=by kernel_rfl
theorem t100_f4:fofs Tryz.prog 100 4=some 4:=by kernel_rfl
theorem t100_f5:fofs Tryz.prog 100 5=some 5:=by kernel_rfl
theorem t100_f6:fofs Tryz.prog 100 6=some 6:=by kernel_rfl
theorem t108_f0:fofs Tryz.prog 108 0=some 0:=by kernel_rfl
theorem t108_f1:fofs Tryz.prog 108 1=some 1:=by kernel_rfl
theorem t108_f2:fofs Tryz.prog 108 2=some 2:=by kernel_rfl
theorem t108_f3:fofs Tryz.prog 108 3=some 3:=by kernel_rfl
theorem t108_f4:fofs Tryz.prog 108 4=some 4:=by kernel_rfl
theorem t129_k:knd Tryz.prog 129=some true:=by kernel_rfl
theorem t129_s:siz Tryz.prog 129=some 2:=by kernel_rfl
theorem t129_z:zer Tryz.prog 129=some (.agg #[(.string ByteArray.empty),(.slice none 0 0)]):=by kernel_rfl
theorem t129_f0:fofs Tryz.prog 129 0=some 0:=by kernel_rfl
theorem t129_f1:fofs Tryz.prog 129 1=some 1:=by kernel_rfl
theorem t132_k:knd Tryz.prog 132=some false:=by kernel_rfl
theorem t132_s:siz Tryz.prog 132=some 1:=by kernel_rfl
theorem t132_z:zer Tryz.prog 132=some (.pointer none):=by kernel_rfl
theorem t154_k:knd Tryz.prog 154=some true:=by kernel_rfl
theorem t154_s:siz Tryz.prog 154=some 2:=by kernel_rfl
theorem t154_f0:fofs Tryz.prog 154 0=some 0:=by kernel_rfl
theorem t154_f1:fofs Tryz.prog 154 1=some 1:=by kernel_rfl
theorem t156_k:knd Tryz.prog 156=some true:=by kernel_rfl
theorem t156_s:siz Tryz.prog 156=some 2:=by kernel_rfl
theorem t156_b:byt Tryz.prog 156=some 32:=by kernel_rfl
theorem t156_z:zer Tryz.prog 156=some (.agg #[(.int .i64 0),(.slice none 0 0)]):=by kernel_rfl
theorem t156_f0:fofs Tryz.prog 156 0=some 0:=by kernel_rfl
theorem t156_f1:fofs Tryz.prog 156 1=some 1:=by kernel_rfl
theorem t165_z:zer Tryz.prog 165=some (.agg #[(.slice none 0 0)]):=by kernel_rfl
theorem t165_f0:fofs Tryz.prog 165 0=some 0:=by kernel_rfl
theorem t175_k:knd Tryz.prog 175=some true:=by kernel_rfl
theorem t175_s:siz Tryz.prog 175=some 3:=by kernel_rfl
theorem t175_z:zer Tryz.prog 175=some (.agg #[(.int .i64 0),(.int .i64 0),(.slice none 0 0)]):=by kernel_rfl
theorem t175_f0:fofs Tryz.prog 175 0=some 0:=by kernel_rfl
theorem t175_f1:fofs Tryz.prog 175 1=some 1:=by kernel_rfl
theorem t175_f2:fofs Tryz.prog 175 2=some 2:=by kernel_rfl
theorem t178_f0:fofs Tryz.prog 178 0=some 0:=by kernel_rfl
theorem t178_f1:fofs Tryz.prog 178 1=some 1:=by kernel_rfl
theorem t178_f2:fofs Tryz.prog 178 2=some 2:=by kernel_rfl
theorem t178_f3:fofs Tryz.prog 178 3=some 3:=by kernel_rfl
theorem t187_k:knd Tryz.prog 187=some true:=by kernel_rfl
theorem t187_s:siz Tryz.prog 187=some 44:=by kernel_rfl
theorem t187_z:zer Tryz.prog 187=some (.agg (List.replicate 44 (.int .u8 0:Value)).toArray):=by kernel_rfl
theorem t187_a:arrOf Tryz.prog 187=some (44,5):=by kernel_rfl
theorem t203_k:knd Tryz.prog 203=some true:=by kernel_rfl
theorem t203_s:siz Tryz.prog 203=some 2:=by kernel_rfl
theorem t203_z:zer Tryz.prog 203=some (.agg #[(.int .i64 0),(.slice none 0 0)]):=by kernel_rfl
theorem t203_f0:fofs Tryz.prog 203 0=some 0:=by kernel_rfl
theorem t203_f1:fofs Tryz.prog 203 1=some 1:=by kernel_rfl
theorem t204_e:elt Tryz.prog 204=some 203:=by kernel_rfl
theorem t212_e:elt Tryz.prog 212=some 3:=by kernel_rfl
theorem t213_e:elt Tryz.prog 213=some 32:=by kernel_rfl
theorem t225_k:knd Tryz.prog 225=some false:=by kernel_rfl
theorem t225_s:siz Tryz.prog 225=some 1:=by kernel_rfl
theorem t228_k:knd Tryz.prog 228=some true:=by kernel_rfl
theorem t228_s:siz Tryz.prog 228=some 8:=by kernel_rfl
theorem t228_z:zer Tryz.prog 228=some (.agg #[(.int .u32 0),(.int .u32 0),(.int .u32 0),(.int .u32 0),(.int .u32 0),(.int .u32 0),(.int .u32 0),(.int .u32 0)]):=by kernel_rfl
theorem t228_a:arrOf Tryz.prog 228=some (8,225):=by kernel_rfl
theorem t231_f0:fofs Tryz.prog 231 0=some 0:=by kernel_rfl
theorem t231_f1:fofs Tryz.prog 231 1=some 8:=by kernel_rfl
theorem t231_f2:fofs Tryz.prog 231 2=some 9:=by kernel_rfl
theorem t238_z:zer Tryz.prog 238=some (.agg (List.replicate 64 (.int .u32 0:Value)).toArray):=by kernel_rfl
theorem t238_a:arrOf Tryz.prog 238=some (64,225):=by kernel_rfl
theorem hb8:hasB Tryz.prog 8=true:=by kernel_rfl
theorem hb11:hasB Tryz.prog 11=true:=by kernel_rfl
theorem hb13:hasB Tryz.prog 13=true:=by kernel_rfl
theorem hb16:hasB Tryz.prog 16=true:=by kernel_rfl
theorem hb17:hasB Tryz.prog 17=true:=by kernel_rfl
theorem hb18:hasB Tryz.prog 18=true:=by kernel_rfl
theorem hb19:hasB Tryz.prog 19=true:=by kernel_rfl
theorem hb20:hasB Tryz.prog 20=true:=by kernel_rfl
theorem hb22:hasB Tryz.prog 22=true:=by kernel_rfl
theorem hb23:hasB Tryz.prog 23=true:=by kernel_rfl
theorem hb24:hasB Tryz.prog 24=true:=by kernel_rfl
theorem hb25:hasB Tryz.prog 25=true:=by kernel_rfl
theorem hb26:hasB Tryz.prog 26=true:=by kernel_rfl
theorem hb28:hasB Tryz.prog 28=true:=by kernel_rfl
theorem hb29:hasB Tryz.prog 29=true:=by kernel_rfl
theorem hb31:hasB Tryz.prog 31=true:=by kernel_rfl
theorem hb32:hasB Tryz.prog 32=true:=by kernel_rfl
theorem hb33:hasB Tryz.prog 33=true:=by kernel_rfl
theorem hb34:hasB Tryz.prog 34=true:=by kernel_rfl
theorem hb35:hasB Tryz.prog 35=true:=by kernel_rfl
theorem hb36:hasB Tryz.prog 36=true:=by kernel_rfl
theorem hb40:hasB Tryz.prog 40=true:=by kernel_rfl
theorem hb41:hasB Tryz.prog 41=true:=by kernel_rfl
theorem hb42:hasB Tryz.prog 42=true:=by kernel_rfl
theorem hb43:hasB Tryz.prog 43=true:=by kernel_rfl
theorem hb48:hasB Tryz.prog 48=true:=by kernel_rfl
theorem hb49:hasB Tryz.prog 49=true:=by kernel_rfl
theorem hb50:hasB Tryz.prog 50=true:=by kernel_rfl
theorem hb53:hasB Tryz.prog 53=true:=by kernel_rfl
theorem hb54:hasB Tryz.prog 54=true:=by kernel_rfl
theorem hb55:hasB Tryz.prog 55=true:=by kernel_rfl
theorem hb56:hasB Tryz.prog 56=true:=by kernel_rfl
theorem hb57:hasB Tryz.prog 57=true:=by kernel_rfl
theorem hb59:hasB Tryz.prog 59=true:=by kernel_rfl
theorem hb61:hasB Tryz.prog 61=true:=by kernel_rfl
theorem hb63:hasB Tryz.prog 63=true:=by kernel_rfl
theorem hb65:hasB Tryz.prog 65=true:=by kernel_rfl
theorem hb66:hasB Tryz.prog 66=true:=by kernel_rfl
theorem hb67:hasB Tryz.prog 67=true:=by kernel_rfl
theorem hb69:hasB Tryz.prog 69=true:=by kernel_rfl
theorem hb70:hasB Tryz.prog 70=true:=by kernel_rfl
theorem hb71:hasB Tryz.prog 71=true:=by kernel_rfl
theorem hb73:hasB Tryz.prog 73=true:=by kernel_rfl
theorem hb74:hasB Tryz.prog 74=true:=by kernel_rfl
theorem hb77:hasB Tryz.prog 77=true:=by kernel_rfl
theorem hb78:hasB Tryz.prog 78=true:=by kernel_rfl
theorem hb79:hasB Tryz.prog 79=true:=by kernel_rfl
theorem hb80:hasB Tryz.prog 80=true:=by kernel_rfl
theorem hb81:hasB Tryz.prog 81=true:=by kernel_rfl
theorem hb82:hasB Tryz.prog 82=true:=by kernel_rfl
theorem hb91:hasB Tryz.prog 91=true:=by kernel_rfl
theorem hb92:hasB Tryz.prog 92=true:=by kernel_rfl
theorem hb93:hasB Tryz.prog 93=true:=by kernel_rfl
theorem hb94:hasB Tryz.prog 94=true:=by kernel_rfl
theorem hb95:hasB Tryz.prog 95=true:=by kernel_rfl
theorem hb96:hasB Tryz.prog 96=true:=by kernel_rfl
theorem hb97:hasB Tryz.prog 97=true:=by kernel_rfl
theorem hb98:hasB Tryz.prog 98=true:=by kernel_rfl
theorem hb99:hasB Tryz.prog 99=true:=by kernel_rfl
theorem hb100:hasB Tryz.prog 100=true:=by kernel_rfl
theorem hb101:hasB Tryz.prog 101=true:=by kernel_rfl
theorem hb102:hasB Tryz.prog 102=true:=by kernel_rfl
theorem hb103:hasB Tryz.prog 103=true:=by kernel_rfl
theorem hb104:hasB Tryz.prog 104=true:=by kernel_rfl
theorem hb105:hasB Tryz.prog 105=true:=by kernel_rfl
theorem hb106:hasB Tryz.prog 106=true:=by kernel_rfl
theorem hb107:hasB Tryz.prog 107=true:=by kernel_rfl
theorem hb108:hasB Tryz.prog 108=true:=by kernel_rfl
theorem hb109:hasB Tryz.prog 109=true:=by kernel_rfl
theorem hb111:hasB Tryz.prog 111=true:=by kernel_rfl
theorem hb112:hasB Tryz.prog 112=true:=by kernel_rfl
theorem hb113:hasB Tryz.prog 113=true:=by kernel_rfl
theorem hb114:hasB Tryz.prog 114=true:=by kernel_rfl
theorem hb115:hasB Tryz.prog 115=true:=by kernel_rfl
theorem hb116:hasB Tryz.prog 116=true:=by kernel_rfl
theorem hb117:hasB Tryz.prog 117=true:=by kernel_rfl
theorem hb118:hasB Tryz.prog 118=true:=by kernel_rfl
theorem hb119:hasB Tryz.prog 119=true:=by kernel_rfl
theorem hb120:hasB Tryz.prog 120=true:=by kernel_rfl
theorem hb121:hasB Tryz.prog 121=true:=by kernel_rfl
theorem hb122:hasB Tryz.prog 122=true:=by kernel_rfl
theorem hb123:hasB Tryz.prog 123=true:=by kernel_rfl
theorem hb124:hasB Tryz.prog 124=true:=by kernel_rfl
theorem hb125:hasB Tryz.prog 125=true:=by kernel_rfl
theorem hb129:hasB Tryz.prog 129=true:=by kernel_rfl
theorem hb130:hasB Tryz.prog 130=true:=by kernel_rfl
theorem hb131:hasB Tryz.prog 131=true:=by kernel_rfl
theorem hb132:hasB Tryz.prog 132=true:=by kernel_rfl
theorem hb133:hasB Tryz.prog 133=true:=by kernel_rfl
theorem hb134:hasB Tryz.prog 134=true:=by kernel_rfl
theorem hb136:hasB Tryz.prog 136=true:=by kernel_rfl
theorem hb137:hasB Tryz.prog 137=true:=by kernel_rfl
theorem hb138:hasB Tryz.prog 138=true:=by kernel_rfl
theorem hb139:hasB Tryz.prog 139=true:=by kernel_rfl
theorem hb140:hasB Tryz.prog 140=true:=by kernel_rfl
theorem hb141:hasB Tryz.prog 141=true:=by kernel_rfl
theorem hb142:hasB Tryz.prog 142=true:=by kernel_rfl
theorem hb143:hasB Tryz.prog 143=true:=by kernel_rfl
theorem hb144:hasB Tryz.prog 144=true:=by kernel_rfl
theorem hb145:hasB Tryz.prog 145=true:=by kernel_rfl
theorem hb146:hasB Tryz.prog 146=true:=by kernel_rfl
theorem hb147:hasB Tryz.prog 147=true:=by kernel_rfl
theorem hb148:hasB Tryz.prog 148=true:=by kernel_rfl
theorem hb149:hasB Tryz.prog 149=true:=by kernel_rfl
theorem hb150:hasB Tryz.prog 150=true:=by kernel_rfl
theorem hb151:hasB Tryz.prog 151=true:=by kernel_rfl
theorem hb152:hasB Tryz.prog 152=true:=by kernel_rfl
theorem hb153:hasB Tryz.prog 153=true:=by kernel_rfl
theorem hb154:hasB Tryz.prog 154=true:=by kernel_rfl
theorem hb155:hasB Tryz.prog 155=true:=by kernel_rfl
theorem hb156:hasB Tryz.prog 156=true:=by kernel_rfl
theorem hb157:hasB Tryz.prog 157=true:=by kernel_rfl
theorem hb158:hasB Tryz.prog 158=true:=by kernel_rfl
theorem hb160:hasB Tryz.prog 160=true:=by kernel_rfl
theorem hb161:hasB Tryz.prog 161=true:=by kernel_rfl
theorem hb162:hasB Tryz.prog 162=true:=by kernel_rfl
theorem hb163:hasB Tryz.prog 163=true:=by kernel_rfl
theorem hb164:hasB Tryz.prog 164=true:=by kernel_rfl
theorem hb165:hasB Tryz.prog 165=true:=by kernel_rfl
theorem hb168:hasB Tryz.prog 168=true:=by kernel_rfl
theorem hb170:hasB Tryz.prog 170=true:=by kernel_rfl
theorem hb171:hasB Tryz.prog 171=true:=by kernel_rfl
theorem hb172:hasB Tryz.prog 172=true:=by kernel_rfl
theorem hb173:hasB Tryz.prog 173=true:=by kernel_rfl
theorem hb185:hasB Tryz.prog 185=true:=by kernel_rfl
theorem hb186:hasB Tryz.prog 186=true:=by kernel_rfl
theorem hb192:hasB Tryz.prog 192=true:=by kernel_rfl
attribute [push_cast] t2_k t2_s t3_k t3_s t3_z t4_k t4_s t5_k t5_s t5_b t5_z
attribute [push_cast] t9_k
attribute [push_cast] t24_k
attribute [push_cast] t29_k t29_s t32_k t32_s t32_z t32_e t33_k t33_s t33_e
attribute [push_cast] t35_k t35_s t35_z t35_f0 t35_f1 t37_f0 t37_f1 t37_f2 t38_k t38_e
attribute [push_cast] t43_k t43_e
attribute [push_cast] t52_k t52_s t55_k t55_s t55_b t55_z t55_e
attribute [push_cast] t59_k t59_s
attribute [push_cast] t74_k t74_s
attribute [push_cast] t74_e t76_k t76_s t76_f0 t76_f1 t76_f2 t76_f3 t76_f4 t76_f5
attribute [push_cast] t82_f0 t82_f1 t82_f2 t83_k t83_s t83_e
attribute [push_cast] t85_s t85_f0 t85_f1 t85_f2 t85_f3 t85_f4 t85_f5 t86_k t86_s t86_e t88_s t88_f0 t88_f1
attribute [push_cast] t90_k t90_s t90_f0 t90_f1 t90_f2 t92_f0 t92_f1 t92_f2 t92_f3 t95_k t95_s
attribute [push_cast] t95_e t97_f0 t97_f1 t97_f2 t97_f3 t97_f4 t97_f5
attribute [push_cast] t100_f0 t100_f1 t100_f2 t100_f3 t100_f4 t100_f5 t100_f6
attribute [push_cast] t108_f0 t108_f1 t108_f2 t108_f3 t108_f4
attribute [push_cast] t129_k t129_s t129_z t129_f0 t129_f1 t132_k t132_s
attribute [push_cast] t132_z
attribute [push_cast] t154_k t154_s t154_f0 t154_f1 t156_k t156_s t156_b t156_z t156_f0 t156_f1
attribute [push_cast] t165_z t165_f0
attribute [push_cast] t175_k t175_s t175_z t175_f0 t175_f1 t175_f2
attribute [push_cast] t178_f0 t178_f1 t178_f2 t178_f3
attribute [push_cast] t187_k t187_s t187_z t187_a
attribute [push_cast] t203_k t203_s t203_z t203_f0 t203_f1 t204_e t212_e t213_e
attribute [push_cast] t225_k t225_s t228_k t228_s t228_z t228_a t231_f0 t231_f1 t231_f2
attribute [push_cast] t238_z t238_a
attribute [push_cast] hb8
attribute [push_cast] hb11 hb13 hb16 hb17 hb18 hb19 hb20 hb22 hb23 hb24 hb25 hb26 hb28 hb29 hb31 hb32 hb33 hb34 hb35 hb36 hb40 hb41 hb42 hb43 hb48
attribute [push_cast] hb49 hb50 hb53 hb54 hb55 hb56 hb57 hb59 hb61 hb63 hb65 hb66 hb67 hb69 hb70 hb71 hb73 hb74 hb77 hb78 hb79 hb80 hb81 hb82
attribute [push_cast] hb91 hb92 hb93 hb94 hb95 hb96 hb97 hb98 hb99 hb100 hb101 hb102 hb103 hb104 hb105 hb106 hb107 hb108 hb109 hb111 hb112 hb113 hb114 hb115 hb116 hb117 hb118 hb119 hb120 hb121 hb122 hb123 hb124 hb125
attribute [push_cast] hb129 hb130 hb131 hb132 hb133 hb134 hb136 hb137 hb138 hb139 hb140 hb141 hb142 hb143 hb144 hb145 hb146 hb147 hb148 hb149 hb150 hb151 hb152 hb153 hb154 hb155 hb156 hb157 hb158 hb160 hb161 hb162 hb163 hb164 hb165 hb168 hb170
attribute [push_cast] hb171 hb172 hb173 hb185 hb186 hb192
-- 3 plexus/plexuslaw47.StatelogPlays
-- 4 plexus/plexuslaw47.StatelogRecords
-- 5 plexus/plexuslaw47.StatelogSurvives
-- 6 plexus/plexuslaw47.StatelogGrows
-- 7 plexus/plexuslaw47.StatelogOpens
abbrev pl7:Plan:=(.two (.reg []) (.two (.two (.reg [16]) (.two (.two (.reg [10]) .lf) .lf)) (.two (.two (.reg [18]) (.two (.two (.reg [10]) .lf) .lf)) (.two (.reg [11,12]) (.two (.two (.reg [26]) (.two (.two (.reg [10]) .lf) .lf)) (.two (.two (.reg [27]) (.two (.two (.reg []) (.reg [])) .lf)) (.two (.reg [13,14]) (.two (.two (.reg [60]) (.two (.two (.reg [10]) .lf) .lf)) (.two (.two (.reg [63]) (.two (.two (.reg [10]) .lf) .lf)) (.two (.reg [10]) .lf))))))))))
theorem ok7:okFn Tryz.f7 (Tryz.f7.body.getD .skip) pl7 5=true:=by kernel_rfl
abbrev rs7:List Nat:=[10]
theorem in7:Tryz.prog.inits.idxOf? 7=none:=by kernel_rfl
-- 8 plexus/plexuslaw47.awake
abbrev pl8:Plan:=(.two (.reg []) (.two (.reg [1,2]) (.two (.two (.reg [12]) (.two (.two (.reg [0]) .lf) .lf)) (.two (.reg [3,4]) (.two (.two (.reg [51]) (.two (.two (.reg [0]) .lf) .lf)) (.two (.reg []) (.two (.reg [5,6]) (.two (.reg [0]) .lf))))))))
theorem ok8:okFn Tryz.f8 (Tryz.f8.body.getD .skip) pl8 0=true:=by kernel_rfl
abbrev rs8:List Nat:=[0]
theorem in8:Tryz.prog.inits.idxOf? 8=none:=by kernel_rfl
-- 9 plexus/plexuslaw47.shaped
-- 10 plexus/plexuslaw47.small
-- 11 plexus/statelog.Open
abbrev pl11:Plan:=(.two (.reg []) (.two (.two (.reg [40]) (.two (.two (.reg [6,7]) .lf) .lf)) (.two (.two (.reg [42]) (.two (.two (.reg [6,7]) .lf) .lf)) (.two (.reg [8]) (.two (.reg [9]) (.two (.reg []) (.two (.two (.reg [10]) (.two (.reg [58]) (.two (.two (.reg [6,7]) .lf) .lf))) (.two (.two (.reg [10]) (.two (.reg [75]) (.two (.two (.reg [6,7]) .lf) .lf))) (.two (.reg [11]) (.two (.two (.reg [12,13]) (.two (.reg [86]) (.two (.reg [11]) .lf))) (.two (.two (.reg [99,100,101]) (.blk (.lop [11,101] (.two (.reg [102]) (.two (.two .lf .lf) (.two (.blk (.two (.reg [15]) (.two (.two (.reg [106]) (.two .lf .lf)) (.reg [11])))) (.reg [101]))))))) (.two (.two (.reg [121]) (.two (.two (.reg [6,7]) .lf) .lf)) (.two (.reg [6,7]) .lf)))))))))))))
theorem ok11:okFn Tryz.f11 (Tryz.f11.body.getD .skip) pl11 3=true:=by kernel_rfl
abbrev rs11:List Nat:=[6,7]
theorem in11:Tryz.prog.inits.idxOf? 11=none:=by kernel_rfl
-- 12 plexus/plexusref47.New
-- 13 (*plexus/disk.Disk).Size
abbrev pl13:Plan:=(.two (.reg []) (.two (.reg [2]) .lf))
theorem ok13:okFn Tryz.f13 (Tryz.f13.body.getD .skip) pl13 1=true:=by kernel_rfl
abbrev rs13:List Nat:=[2]
theorem in13:Tryz.prog.inits.idxOf? 13=none:=by kernel_rfl
-- 14 plexus/plexuslaw47.does
-- 15 plexus/plexuslaw47.model
-- 16 plexus/plexusref47.Same
abbrev pl16:Plan:=(.two (.reg [2,3]) (.two (.reg [4]) .lf))
theorem ok16:okFn Tryz.f16 (Tryz.f16.body.getD .skip) pl16 2=true:=by kernel_rfl
abbrev rs16:List Nat:=[4]
theorem in16:Tryz.prog.inits.idxOf? 16=none:=by kernel_rfl
-- 17 plexus/plexuslaw47.shown
abbrev pl17:Plan:=(.two (.reg [2]) (.two (.reg []) .lf))
theorem ok17:okFn Tryz.f17 (Tryz.f17.body.getD .skip) pl17 1=true:=by kernel_rfl
theorem in17:Tryz.prog.inits.idxOf? 17=none:=by kernel_rfl
-- 18 (*plexus/statelog.Log).Down
abbrev pl18:Plan:=(.two (.reg []) (.two (.reg [2]) .lf))
theorem ok18:okFn Tryz.f18 (Tryz.f18.body.getD .skip) pl18 1=true:=by kernel_rfl
abbrev rs18:List Nat:=[2]
theorem in18:Tryz.prog.inits.idxOf? 18=none:=by kernel_rfl
-- 19 plexus/checkpoint.Open
abbrev pl19:Plan:=(.two (.reg []) (.two (.two (.reg [38]) (.two (.two (.reg [6,7]) .lf) .lf)) (.two (.two (.reg [40]) (.two (.two (.reg [6,7]) .lf) .lf)) (.two (.reg [8]) (.two (.two (.reg [47]) (.blk (.lop [47] (.two (.reg [48]) (.two (.two .lf .lf) (.two (.blk (.two (.reg [9]) (.two (.reg [10,11,12,13]) (.two (.two (.reg [59]) (.two (.two (.reg [6,7]) .lf) .lf)) (.two (.reg [69]) (.two (.reg []) .lf)))))) (.reg [47]))))))) (.two (.reg [6,7]) .lf))))))
theorem ok19:okFn Tryz.f19 (Tryz.f19.body.getD .skip) pl19 3=true:=by kernel_rfl
abbrev rs19:List Nat:=[6,7]
theorem in19:Tryz.prog.inits.idxOf? 19=none:=by kernel_rfl
-- 20 (*plexus/checkpoint.Store).Load
abbrev pl20:Plan:=(.two (.reg []) (.two (.two (.reg [8]) (.two (.two (.reg [2,3]) .lf) .lf)) (.two (.drw [2,3] [0,5] [] [(2,[0]),(3,[0]),(4,[0]),(7,[0,5]),(8,[0,5]),(9,[0,5])]) .lf)))
theorem ok20:okFn Tryz.f20 (Tryz.f20.body.getD .skip) pl20 1=true:=by kernel_rfl
abbrev rs20:List Nat:=[2,3]
theorem in20:Tryz.prog.inits.idxOf? 20=none:=by kernel_rfl
-- 21 plexus/plexusref47.Encode
-- 22 plexus/journal.Open
abbrev pl22:Plan:=(.two (.reg []) (.two (.two (.reg [36]) (.two (.two (.reg [6,7]) .lf) .lf)) (.two (.reg [8]) (.two (.reg [9]) (.two (.two (.reg [46,47]) (.blk (.lop [9,47] (.two (.reg [48]) (.two (.two .lf .lf) (.two (.blk (.two (.reg [10]) (.two (.reg [11,12]) (.two (.two (.reg [59]) (.two (.two (.reg [6,7]) .lf) .lf)) (.reg [9]))))) (.reg [47]))))))) (.two (.reg [13,14]) (.two (.two (.reg [82]) (.two (.two (.reg [6,7]) .lf) .lf)) (.two (.reg []) (.two (.two (.reg [16]) (.two (.reg [105]) (.two (.two (.reg [6,7]) .lf) .lf))) (.two (.reg [6,7]) .lf))))))))))
theorem ok22:okFn Tryz.f22 (Tryz.f22.body.getD .skip) pl22 3=true:=by kernel_rfl
abbrev rs22:List Nat:=[6,7]
theorem in22:Tryz.prog.inits.idxOf? 22=none:=by kernel_rfl
-- 23 (*plexus/journal.Journal).Records
abbrev pl23:Plan:=(.two (.reg []) (.two (.reg [3]) (.two (.reg [2]) .lf)))
theorem ok23:okFn Tryz.f23 (Tryz.f23.body.getD .skip) pl23 1=true:=by kernel_rfl
abbrev rs23:List Nat:=[2]
theorem in23:Tryz.prog.inits.idxOf? 23=none:=by kernel_rfl
-- 24 (*plexus/disk.Disk).Fail
abbrev pl24:Plan:=(.two (.reg [8]) (.two (.reg []) .lf))
theorem ok24:okFn Tryz.f24 (Tryz.f24.body.getD .skip) pl24 2=true:=by kernel_rfl
abbrev rs24:List Nat:=[]
theorem in24:Tryz.prog.inits.idxOf? 24=none:=by kernel_rfl
-- 25 (*plexus/disk.Disk).Crash
abbrev pl25:Plan:=(.two (.reg [3]) (.two (.reg []) (.reg [])))
theorem ok25:okFn Tryz.f25 (Tryz.f25.body.getD .skip) pl25 2=true:=by kernel_rfl
abbrev rs25:List Nat:=[]
theorem in25:Tryz.prog.inits.idxOf? 25=none:=by kernel_rfl
-- 26 (*plexus/statelog.Log).State
abbrev pl26:Plan:=(.two (.reg []) (.two (.reg [2]) .lf))
theorem ok26:okFn Tryz.f26 (Tryz.f26.body.getD .skip) pl26 1=true:=by kernel_rfl
abbrev rs26:List Nat:=[2]
theorem in26:Tryz.prog.inits.idxOf? 26=none:=by kernel_rfl
-- 27 plexus/plexusref41.Conf
-- 28 (*plexus/statelog.Log).Base
abbrev pl28:Plan:=(.two (.reg [2]) (.two (.reg []) .lf))
theorem ok28:okFn Tryz.f28 (Tryz.f28.body.getD .skip) pl28 1=true:=by kernel_rfl
theorem in28:Tryz.prog.inits.idxOf? 28=none:=by kernel_rfl
-- 29 (*plexus/statelog.Log).Life
abbrev pl29:Plan:=(.two (.reg []) (.two (.reg [2]) .lf))
theorem ok29:okFn Tryz.f29 (Tryz.f29.body.getD .skip) pl29 1=true:=by kernel_rfl
abbrev rs29:List Nat:=[2]
theorem in29:Tryz.prog.inits.idxOf? 29=none:=by kernel_rfl
-- 30 plexus/plexusref38.Subset
-- 31 plexus/disk.New
abbrev pl31:Plan:=(.two (.reg []) (.two (.two (.reg [21]) (.two (.two (.reg [4,5]) .lf) .lf)) (.two (.reg [6]) (.two (.two (.reg [31,32]) (.blk (.lop [32] (.two (.reg [33]) (.two (.two .lf .lf) (.two (.blk (.two (.reg [7]) (.drw [] [6,8] [(6,[1,2,3])] []))) (.reg [32]))))))) (.two (.reg [4,5]) .lf)))))
theorem ok31:okFn Tryz.f31 (Tryz.f31.body.getD .skip) pl31 2=true:=by kernel_rfl
abbrev rs31:List Nat:=[4,5]
theorem in31:Tryz.prog.inits.idxOf? 31=none:=by kernel_rfl
-- 32 (*plexus/disk.Disk).Sync
abbrev pl32:Plan:=(.two (.reg []) (.two (.two (.reg [5]) (.two (.two (.reg [2]) .lf) .lf)) (.two (.reg []) (.two (.reg [2]) .lf))))
theorem ok32:okFn Tryz.f32 (Tryz.f32.body.getD .skip) pl32 1=true:=by kernel_rfl
abbrev rs32:List Nat:=[2]
theorem in32:Tryz.prog.inits.idxOf? 32=none:=by kernel_rfl
-- 33 (*plexus/statelog.Log).Live
abbrev pl33:Plan:=(.two (.reg []) (.two (.two (.reg [7]) (.two (.two (.reg [2]) .lf) .lf)) (.two (.two (.reg [13]) (.two (.two (.reg [2]) .lf) .lf)) (.two (.reg [3]) (.two (.reg []) (.two (.reg [2]) .lf))))))
theorem ok33:okFn Tryz.f33 (Tryz.f33.body.getD .skip) pl33 1=true:=by kernel_rfl
abbrev rs33:List Nat:=[2]
theorem in33:Tryz.prog.inits.idxOf? 33=none:=by kernel_rfl
-- 34 (*plexus/statelog.Log).Extend
abbrev pl34:Plan:=(.two (.reg []) (.two (.two (.reg [9]) (.two (.two (.reg [4]) .lf) .lf)) (.two (.reg [5]) (.two (.two (.reg [19]) (.two (.two (.reg [4]) .lf) .lf)) (.two (.drw [4] [6,8] [] [(7,[6])]) .lf)))))
theorem ok34:okFn Tryz.f34 (Tryz.f34.body.getD .skip) pl34 2=true:=by kernel_rfl
abbrev rs34:List Nat:=[4]
theorem in34:Tryz.prog.inits.idxOf? 34=none:=by kernel_rfl
-- 35 (*plexus/statelog.Log).Rebase
abbrev pl35:Plan:=(.two (.reg [3]) (.two (.two (.reg [8]) (.two (.two (.reg [4]) .lf) .lf)) (.two (.two (.drw [19] [1,8] [(8,[2])] [(4,[1]),(5,[1]),(6,[1]),(7,[1])]) (.two (.two (.reg [4]) .lf) .lf)) (.two (.drw [4] [6,8] [] [(7,[6])]) .lf))))
theorem ok35:okFn Tryz.f35 (Tryz.f35.body.getD .skip) pl35 2=true:=by kernel_rfl
abbrev rs35:List Nat:=[4]
theorem in35:Tryz.prog.inits.idxOf? 35=none:=by kernel_rfl
-- 36 (*plexus/statelog.Log).Compact
abbrev pl36:Plan:=(.two (.reg []) (.two (.two (.reg [6]) (.two (.two (.reg [2]) .lf) .lf)) (.two (.reg [2]) .lf)))
theorem ok36:okFn Tryz.f36 (Tryz.f36.body.getD .skip) pl36 1=true:=by kernel_rfl
abbrev rs36:List Nat:=[2]
theorem in36:Tryz.prog.inits.idxOf? 36=none:=by kernel_rfl
-- 37 plexus/plexusref38.Small
-- 38 plexus/plexusref41.SmallSteps
-- 39 plexus/plexusref38.Sorted
-- 40 (*plexus/disk.Disk).Sectors
abbrev pl40:Plan:=(.two (.reg []) (.two (.reg [2]) .lf))
theorem ok40:okFn Tryz.f40 (Tryz.f40.body.getD .skip) pl40 1=true:=by kernel_rfl
abbrev rs40:List Nat:=[2]
theorem in40:Tryz.prog.inits.idxOf? 40=none:=by kernel_rfl
-- 41 (*plexus/disk.Disk).Down
abbrev pl41:Plan:=(.two (.reg []) (.two (.reg [2]) .lf))
theorem ok41:okFn Tryz.f41 (Tryz.f41.body.getD .skip) pl41 1=true:=by kernel_rfl
abbrev rs41:List Nat:=[2]
theorem in41:Tryz.prog.inits.idxOf? 41=none:=by kernel_rfl
-- 42 plexus/statelog.decode
abbrev pl42:Plan:=(.two (.reg [2]) (.two (.reg [4]) (.two (.reg [5]) (.two (.reg []) (.two (.reg []) (.two (.drw [3] [2,4] [(2,[0]),(4,[3])] []) .lf))))))
theorem ok42:okFn Tryz.f42 (Tryz.f42.body.getD .skip) pl42 1=true:=by kernel_rfl
theorem in42:Tryz.prog.inits.idxOf? 42=none:=by kernel_rfl
-- 43 (plexus/statelog.content).apply
abbrev pl43:Plan:=(.two (.reg [2,4]) (.two (.reg [6]) (.two (.two (.reg [10]) (.blk (.two (.reg [12]) (.two (.drw [] [2,3,4] [(2,[0])] []) (.two (.reg [18]) (.two (.drw [] [2,3,4] [(2,[0])] []) (.two (.reg [24]) (.two (.drw [] [3,6] [(3,[0,1])] []) (.two (.reg [5]) .lf))))))))) (.two (.drw [5] [2,4] [(2,[0]),(4,[3])] []) .lf))))
theorem ok43:okFn Tryz.f43 (Tryz.f43.body.getD .skip) pl43 2=true:=by kernel_rfl
theorem in43:Tryz.prog.inits.idxOf? 43=none:=by kernel_rfl
-- 44 (*plexus/plexusref47.Log).Extend
-- 45 (*plexus/plexusref47.Log).Rebase
-- 46 (*plexus/plexusref47.Log).Live
-- 47 (*plexus/plexusref47.Log).Compact
-- 48 plexus/plexusref37.SameList
abbrev pl48:Plan:=(.two (.reg []) (.two (.two (.reg [10]) (.two (.two (.reg [4]) .lf) .lf)) (.two (.two (.reg [5]) (.blk (.lop [5] (.two (.two (.reg [14]) (.two .lf .lf)) (.two (.blk (.two (.drw [26] [8] [] []) (.two (.two (.reg [4]) .lf) .lf))) (.reg [5])))))) (.two (.reg [4]) .lf))))
theorem ok48:okFn Tryz.f48 (Tryz.f48.body.getD .skip) pl48 2=true:=by kernel_rfl
abbrev rs48:List Nat:=[4]
theorem in48:Tryz.prog.inits.idxOf? 48=none:=by kernel_rfl
-- 49 plexus/plexusref43.SameBase
abbrev pl49:Plan:=(.two (.reg [2,3]) (.two (.reg [4]) .lf))
theorem ok49:okFn Tryz.f49 (Tryz.f49.body.getD .skip) pl49 2=true:=by kernel_rfl
abbrev rs49:List Nat:=[4]
theorem in49:Tryz.prog.inits.idxOf? 49=none:=by kernel_rfl
-- 50 (*plexus/checkpoint.Store).read
abbrev pl50:Plan:=(.two (.reg []) (.two (.drw [8,9] [6,7] [(6,[1,2,3])] []) (.two (.two (.reg [32]) (.two (.two (.reg [4,5,6,7]) .lf) .lf)) (.two (.reg [10,11]) (.two (.two (.reg [35,36,37]) (.blk (.lop [10,37] (.two (.reg [38]) (.two (.two .lf .lf) (.two (.blk (.two (.reg [13]) (.reg [10]))) (.reg [37]))))))) (.two (.two (.reg [48,49,50]) (.blk (.lop [11,50] (.two (.reg [51]) (.two (.two .lf .lf) (.two (.blk (.two (.reg [15]) (.reg [11]))) (.reg [50]))))))) (.two (.two (.reg [71]) (.two (.two (.reg [4,5,6,7]) .lf) .lf)) (.two (.reg [16]) (.two (.two (.reg [17]) (.blk (.lop [16,17] (.two (.two (.reg [75]) (.two .lf .lf)) (.two (.blk (.two (.drw [18,19] [6,9] [(6,[1,2,3])] []) (.two (.two (.reg [92]) (.two (.two (.reg [4,5,6,7]) .lf) .lf)) (.reg [16])))) (.reg [17])))))) (.two (.reg [16]) (.two (.reg [4,5,6,7]) .lf)))))))))))
theorem ok50:okFn Tryz.f50 (Tryz.f50.body.getD .skip) pl50 2=true:=by kernel_rfl
abbrev rs50:List Nat:=[4,5,6,7]
theorem in50:Tryz.prog.inits.idxOf? 50=none:=by kernel_rfl
-- 51 plexus/plexusref47.commands
-- 52 plexus/plexusref47.base
-- 53 plexus/plexusref01.Uint
abbrev pl53:Plan:=(.two (.reg []) (.two (.reg [5]) (.two (.blk (.lop [1,5] (.two (.two (.reg [10]) (.two .lf .lf)) (.blk (.two (.reg [5]) (.reg [1])))))) (.two (.reg [4]) .lf))))
theorem ok53:okFn Tryz.f53 (Tryz.f53.body.getD .skip) pl53 2=true:=by kernel_rfl
abbrev rs53:List Nat:=[4]
theorem in53:Tryz.prog.inits.idxOf? 53=none:=by kernel_rfl
-- 54 (*plexus/disk.Disk).Read
abbrev pl54:Plan:=(.two (.reg []) (.two (.two (.reg [10]) (.two (.two (.reg [4,5]) .lf) .lf)) (.two (.two (.reg [14]) (.two (.two (.reg [4,5]) .lf) .lf)) (.two (.two (.reg [6]) (.blk (.lop [6] (.two (.two (.reg [22]) (.two .lf .lf)) (.two (.blk (.two (.reg [34]) (.two (.two (.reg [4,5]) .lf) .lf))) (.reg [6])))))) (.two (.reg [4,5]) .lf)))))
theorem ok54:okFn Tryz.f54 (Tryz.f54.body.getD .skip) pl54 2=true:=by kernel_rfl
abbrev rs54:List Nat:=[4,5]
theorem in54:Tryz.prog.inits.idxOf? 54=none:=by kernel_rfl
-- 55 plexus/journal.length
abbrev pl55:Plan:=(.two (.reg []) (.two (.two (.reg [8]) (.two (.two (.reg [2,3]) .lf) .lf)) (.two (.reg [4]) (.two (.reg [5,6]) (.two (.two (.reg [33]) (.two (.two (.reg [2,3]) .lf) .lf)) (.two (.reg [2,3]) .lf))))))
theorem ok55:okFn Tryz.f55 (Tryz.f55.body.getD .skip) pl55 1=true:=by kernel_rfl
abbrev rs55:List Nat:=[2,3]
theorem in55:Tryz.prog.inits.idxOf? 55=none:=by kernel_rfl
-- 56 plexus/journal.split
abbrev pl56:Plan:=(.two (.reg []) (.two (.reg [4]) (.two (.reg [5]) (.two (.blk (.lop [4] (.two (.two (.reg [11]) (.two .lf .lf)) (.blk (.two (.reg [6]) (.two (.two (.reg [16]) (.two (.two (.reg [2,3]) .lf) .lf)) (.reg [4]))))))) (.two (.reg [2,3]) .lf)))))
theorem ok56:okFn Tryz.f56 (Tryz.f56.body.getD .skip) pl56 1=true:=by kernel_rfl
abbrev rs56:List Nat:=[2,3]
theorem in56:Tryz.prog.inits.idxOf? 56=none:=by kernel_rfl
-- 57 (*plexus/disk.Disk).settle
abbrev pl57:Plan:=(.two (.reg [4]) (.two (.two (.reg [13,14,15]) (.blk (.lop [15] (.two (.reg [16]) (.two (.two .lf .lf) (.two (.blk (.two (.reg [5,6]) (.two (.reg [22]) (.two (.reg []) .lf)))) (.reg [15]))))))) (.two (.two (.reg [30]) (.blk (.lop [] (.two (.reg [32]) (.two (.two .lf .lf) (.blk (.two (.reg [7,8]) (.reg [])))))))) (.reg []))))
theorem ok57:okFn Tryz.f57 (Tryz.f57.body.getD .skip) pl57 2=true:=by kernel_rfl
abbrev rs57:List Nat:=[]
theorem in57:Tryz.prog.inits.idxOf? 57=none:=by kernel_rfl
-- 58 (*plexus/disk.Disk).Crash$1
abbrev pl58:Plan:=(.two (.reg []) (.two (.reg [3]) .lf))
theorem ok58:okFn Tryz.f58 (Tryz.f58.body.getD .skip) pl58 2=true:=by kernel_rfl
abbrev rs58:List Nat:=[3]
theorem in58:Tryz.prog.inits.idxOf? 58=none:=by kernel_rfl
-- 59 plexus/statelog.copied
abbrev pl59:Plan:=(.two (.reg [1,2]) (.two (.reg [3]) (.two (.reg []) .lf)))
theorem ok59:okFn Tryz.f59 (Tryz.f59.body.getD .skip) pl59 1=true:=by kernel_rfl
theorem in59:Tryz.prog.inits.idxOf? 59=none:=by kernel_rfl
-- 60 plexus/plexusref38.Minus
-- 61 (*plexus/disk.Disk).operate
abbrev pl61:Plan:=(.two (.reg []) (.two (.two (.reg [13]) (.two (.reg []) .lf)) (.two (.two (.reg [20]) (.two (.two (.reg [2]) .lf) .lf)) (.two (.two (.reg [24]) (.two (.reg []) .lf)) (.two (.reg [2]) .lf)))))
theorem ok61:okFn Tryz.f61 (Tryz.f61.body.getD .skip) pl61 1=true:=by kernel_rfl
abbrev rs61:List Nat:=[2]
theorem in61:Tryz.prog.inits.idxOf? 61=none:=by kernel_rfl
-- 62 (*plexus/disk.Disk).Sync$1
abbrev pl62:Plan:=(.two (.reg []) (.two (.reg [2]) .lf))
theorem ok62:okFn Tryz.f62 (Tryz.f62.body.getD .skip) pl62 1=true:=by kernel_rfl
abbrev rs62:List Nat:=[2]
theorem in62:Tryz.prog.inits.idxOf? 62=none:=by kernel_rfl
-- 63 (*plexus/statelog.Log).change
abbrev pl63:Plan:=(.two (.reg [4]) (.two (.reg [7]) (.two (.reg []) (.two (.drw [8] [5,6,7] [(5,[1,2,3]),(6,[1,2,3])] []) (.two (.two (.reg [23]) (.two (.reg [8]) (.reg []))) (.two (.two (.reg [31]) (.two (.reg []) .lf)) (.two (.reg [6]) .lf)))))))
theorem ok63:okFn Tryz.f63 (Tryz.f63.body.getD .skip) pl63 3=true:=by kernel_rfl
abbrev rs63:List Nat:=[6]
theorem in63:Tryz.prog.inits.idxOf? 63=none:=by kernel_rfl
-- 64 (*plexus/statelog.Log).Live$1
abbrev pl64:Plan:=(.two (.reg []) (.reg []))
theorem ok64:okFn Tryz.f64 (Tryz.f64.body.getD .skip) pl64 2=true:=by kernel_rfl
abbrev rs64:List Nat:=[]
theorem in64:Tryz.prog.inits.idxOf? 64=none:=by kernel_rfl
-- 65 (*plexus/wire.Writer).Uint
abbrev pl65:Plan:=(.two (.blk (.lop [1] (.two (.two (.reg [5]) (.two .lf .lf)) (.two (.blk (.reg [])) (.reg [1]))))) (.reg []))
theorem ok65:okFn Tryz.f65 (Tryz.f65.body.getD .skip) pl65 2=true:=by kernel_rfl
abbrev rs65:List Nat:=[]
theorem in65:Tryz.prog.inits.idxOf? 65=none:=by kernel_rfl
-- 66 plexus/state.Minus
abbrev pl66:Plan:=(.two (.reg []) (.two (.reg [5,6]) (.two (.reg [4]) .lf)))
theorem ok66:okFn Tryz.f66 (Tryz.f66.body.getD .skip) pl66 2=true:=by kernel_rfl
abbrev rs66:List Nat:=[4]
theorem in66:Tryz.prog.inits.idxOf? 66=none:=by kernel_rfl
-- 67 (plexus/statelog.content).join
abbrev pl67:Plan:=(.two (.reg [2,4]) (.two (.reg []) (.two (.reg []) .lf)))
theorem ok67:okFn Tryz.f67 (Tryz.f67.body.getD .skip) pl67 2=true:=by kernel_rfl
theorem in67:Tryz.prog.inits.idxOf? 67=none:=by kernel_rfl
-- 68 (*plexus/statelog.Log).Extend$1
abbrev pl68:Plan:=(.two (.reg []) (.reg []))
theorem ok68:okFn Tryz.f68 (Tryz.f68.body.getD .skip) pl68 2=true:=by kernel_rfl
abbrev rs68:List Nat:=[]
theorem in68:Tryz.prog.inits.idxOf? 68=none:=by kernel_rfl
-- 69 plexus/statelog.putCommands
abbrev pl69:Plan:=(.two (.reg []) (.two (.reg [11,12,13]) (.blk (.lop [13] (.two (.reg [14]) (.two (.two .lf .lf) (.two (.blk (.two (.reg [5]) (.reg []))) (.reg [13]))))))))
theorem ok69:okFn Tryz.f69 (Tryz.f69.body.getD .skip) pl69 2=true:=by kernel_rfl
abbrev rs69:List Nat:=[]
theorem in69:Tryz.prog.inits.idxOf? 69=none:=by kernel_rfl
-- 70 plexus/statelog.conf
abbrev pl70:Plan:=(.two (.reg [1]) (.two (.two (.reg [6]) (.two (.two (.reg [2]) .lf) .lf)) (.two (.reg [2]) .lf)))
theorem ok70:okFn Tryz.f70 (Tryz.f70.body.getD .skip) pl70 1=true:=by kernel_rfl
abbrev rs70:List Nat:=[2]
theorem in70:Tryz.prog.inits.idxOf? 70=none:=by kernel_rfl
-- 71 (plexus/statelog.content).rebase
abbrev pl71:Plan:=(.two (.reg [2,3,4]) (.two (.reg []) (.two (.two (.drw [16] [1,5] [(5,[2])] [(3,[1]),(4,[1])]) (.two (.reg []) .lf)) (.two (.reg []) .lf))))
theorem ok71:okFn Tryz.f71 (Tryz.f71.body.getD .skip) pl71 2=true:=by kernel_rfl
theorem in71:Tryz.prog.inits.idxOf? 71=none:=by kernel_rfl
-- 72 (*plexus/statelog.Log).Rebase$1
abbrev pl72:Plan:=(.two (.reg []) (.reg []))
theorem ok72:okFn Tryz.f72 (Tryz.f72.body.getD .skip) pl72 2=true:=by kernel_rfl
abbrev rs72:List Nat:=[]
theorem in72:Tryz.prog.inits.idxOf? 72=none:=by kernel_rfl
-- 73 plexus/statelog.putBase
abbrev pl73:Plan:=(.two (.reg [3]) (.two (.reg []) (.two (.two (.reg [15,16,17]) (.blk (.lop [17] (.two (.reg [18]) (.two (.two .lf .lf) (.two (.blk (.two (.reg [5]) (.two (.reg []) (.two (.reg []) (.two (.reg [33,34,35]) (.blk (.lop [35] (.two (.reg [36]) (.two (.two .lf .lf) (.two (.blk (.two (.reg [7]) (.two (.reg []) (.reg [])))) (.reg [35]))))))))))) (.reg [17]))))))) (.reg []))))
theorem ok73:okFn Tryz.f73 (Tryz.f73.body.getD .skip) pl73 2=true:=by kernel_rfl
abbrev rs73:List Nat:=[]
theorem in73:Tryz.prog.inits.idxOf? 73=none:=by kernel_rfl
-- 74 (*plexus/statelog.Log).save
abbrev pl74:Plan:=(.two (.reg [3]) (.two (.reg [5]) (.two (.two (.reg [16]) (.two (.two (.reg [4]) .lf) .lf)) (.two (.two (.reg [6]) (.two (.reg [23]) (.blk (.two (.reg [27]) (.two .lf (.two (.reg [29]) (.two (.two (.reg [4]) .lf) (.two (.reg [4]) .lf)))))))) (.two (.reg [4]) .lf)))))
theorem ok74:okFn Tryz.f74 (Tryz.f74.body.getD .skip) pl74 2=true:=by kernel_rfl
abbrev rs74:List Nat:=[4]
theorem in74:Tryz.prog.inits.idxOf? 74=none:=by kernel_rfl
-- 75 plexus/plexusref41.Small
-- 76 plexus/plexusref37.Compare
-- 77 plexus/wire.NewReader
abbrev pl77:Plan:=(.two (.reg []) (.two (.reg [2]) .lf))
theorem ok77:okFn Tryz.f77 (Tryz.f77.body.getD .skip) pl77 1=true:=by kernel_rfl
abbrev rs77:List Nat:=[2]
theorem in77:Tryz.prog.inits.idxOf? 77=none:=by kernel_rfl
-- 78 plexus/statelog.getLife
abbrev pl78:Plan:=(.two (.reg []) (.two (.reg [3]) (.two (.two (.reg [7]) (.two (.two (.reg []) (.two (.reg [2]) .lf)) .lf)) (.two (.reg [2]) .lf))))
theorem ok78:okFn Tryz.f78 (Tryz.f78.body.getD .skip) pl78 1=true:=by kernel_rfl
abbrev rs78:List Nat:=[2]
theorem in78:Tryz.prog.inits.idxOf? 78=none:=by kernel_rfl
-- 79 plexus/statelog.getBase
abbrev pl79:Plan:=(.two (.reg [2]) (.two (.reg [3]) (.two (.two (.reg [4]) (.blk (.lop [4] (.two (.two (.reg [19]) (.two .lf .lf)) (.two (.blk (.two (.reg [5,6]) (.two (.two (.reg [29]) (.two (.reg []) .lf)) (.two (.reg [7]) (.two (.two (.reg [8]) (.blk (.lop [8] (.two (.two (.reg [42]) (.two .lf .lf)) (.two (.blk (.two (.reg [9]) (.two (.reg []) (.reg [])))) (.reg [8])))))) (.reg [])))))) (.reg [4])))))) (.two (.reg []) (.two (.reg []) .lf)))))
theorem ok79:okFn Tryz.f79 (Tryz.f79.body.getD .skip) pl79 1=true:=by kernel_rfl
theorem in79:Tryz.prog.inits.idxOf? 79=none:=by kernel_rfl
-- 80 plexus/statelog.getSorted
abbrev pl80:Plan:=(.two (.reg []) (.two (.reg [3]) (.two (.two (.reg [4]) (.blk (.lop [4] (.two (.two (.reg [10]) (.two .lf .lf)) (.two (.blk (.two (.drw [23] [9] [] []) (.two (.reg []) .lf))) (.reg [4])))))) (.two (.reg [2]) .lf))))
theorem ok80:okFn Tryz.f80 (Tryz.f80.body.getD .skip) pl80 1=true:=by kernel_rfl
abbrev rs80:List Nat:=[2]
theorem in80:Tryz.prog.inits.idxOf? 80=none:=by kernel_rfl
-- 81 (*plexus/wire.Reader).End
abbrev pl81:Plan:=(.two (.reg []) (.two (.two (.reg [12]) (.two (.two (.reg [2]) .lf) .lf)) (.two (.reg [2]) .lf)))
theorem ok81:okFn Tryz.f81 (Tryz.f81.body.getD .skip) pl81 1=true:=by kernel_rfl
abbrev rs81:List Nat:=[2]
theorem in81:Tryz.prog.inits.idxOf? 81=none:=by kernel_rfl
-- 82 (*plexus/wire.Reader).Uint
abbrev pl82:Plan:=(.two (.reg []) (.two (.two (.reg [8]) (.two (.two (.reg [2]) .lf) .lf)) (.two (.reg [3,4,5]) (.two (.two (.reg [16]) (.two (.two (.reg []) (.two (.reg [2]) .lf)) .lf)) (.two (.reg []) (.two (.reg [2]) .lf))))))
theorem ok82:okFn Tryz.f82 (Tryz.f82.body.getD .skip) pl82 1=true:=by kernel_rfl
abbrev rs82:List Nat:=[2]
theorem in82:Tryz.prog.inits.idxOf? 82=none:=by kernel_rfl
-- 83 plexus/plexusref38.Of
-- 84 plexus/plexusref38.Join
-- 85 (*plexus/plexusref47.Log).change
-- 86 plexus/plexusref47.Extension
-- 87 plexus/plexusref47.Conf
-- 88 plexus/plexusref47.Rebasing
-- 89 plexus/plexusref47.Rebased
-- 90 plexus/plexusref47.Living
-- 91 plexus/plexusref37.Same
abbrev pl91:Plan:=(.two (.reg [2,3]) (.two (.drw [4] [1,4] [(4,[2])] [(3,[1])]) .lf))
theorem ok91:okFn Tryz.f91 (Tryz.f91.body.getD .skip) pl91 2=true:=by kernel_rfl
abbrev rs91:List Nat:=[4]
theorem in91:Tryz.prog.inits.idxOf? 91=none:=by kernel_rfl
-- 92 plexus/plexusref43.SameSteps
abbrev pl92:Plan:=(.two (.reg []) (.two (.two (.reg [10]) (.two (.two (.reg [4]) .lf) .lf)) (.two (.two (.reg [5]) (.blk (.lop [5] (.two (.two (.reg [14]) (.two .lf .lf)) (.two (.blk (.two (.drw [26] [8] [] []) (.two (.two (.reg [4]) .lf) .lf))) (.reg [5])))))) (.two (.reg [4]) .lf))))
theorem ok92:okFn Tryz.f92 (Tryz.f92.body.getD .skip) pl92 2=true:=by kernel_rfl
abbrev rs92:List Nat:=[4]
theorem in92:Tryz.prog.inits.idxOf? 92=none:=by kernel_rfl
-- 93 (*plexus/checkpoint.Store).start
abbrev pl93:Plan:=(.two (.reg []) (.two (.drw [4] [] [] []) .lf))
theorem ok93:okFn Tryz.f93 (Tryz.f93.body.getD .skip) pl93 2=true:=by kernel_rfl
abbrev rs93:List Nat:=[4]
theorem in93:Tryz.prog.inits.idxOf? 93=none:=by kernel_rfl
-- 94 (*plexus/checkpoint.Store).Room
abbrev pl94:Plan:=(.two (.reg []) (.two (.drw [2] [9] [(9,[1,2,3,4])] []) .lf))
theorem ok94:okFn Tryz.f94 (Tryz.f94.body.getD .skip) pl94 1=true:=by kernel_rfl
abbrev rs94:List Nat:=[2]
theorem in94:Tryz.prog.inits.idxOf? 94=none:=by kernel_rfl
-- 95 bytes.Equal
abbrev pl95:Plan:=(.two (.reg []) (.two (.reg [4]) .lf))
theorem ok95:okFn Tryz.f95 (Tryz.f95.body.getD .skip) pl95 2=true:=by kernel_rfl
abbrev rs95:List Nat:=[4]
theorem in95:Tryz.prog.inits.idxOf? 95=none:=by kernel_rfl
-- 96 (*plexus/checkpoint.Store).header
abbrev pl96:Plan:=(.two (.reg []) (.two (.reg [7]) (.two (.reg [8]) (.two (.reg []) (.two (.reg [6]) .lf)))))
theorem ok96:okFn Tryz.f96 (Tryz.f96.body.getD .skip) pl96 3=true:=by kernel_rfl
abbrev rs96:List Nat:=[6]
theorem in96:Tryz.prog.inits.idxOf? 96=none:=by kernel_rfl
-- 97 plexus/plexusref01.Bytes
abbrev pl97:Plan:=(.two (.reg []) (.two (.reg [4]) .lf))
theorem ok97:okFn Tryz.f97 (Tryz.f97.body.getD .skip) pl97 2=true:=by kernel_rfl
abbrev rs97:List Nat:=[4]
theorem in97:Tryz.prog.inits.idxOf? 97=none:=by kernel_rfl
-- 98 plexus/plexusref37.Encode
abbrev pl98:Plan:=(.two (.reg [1]) (.two (.drw [2] [1,4] [] [(2,[1]),(3,[1])]) .lf))
theorem ok98:okFn Tryz.f98 (Tryz.f98.body.getD .skip) pl98 1=true:=by kernel_rfl
abbrev rs98:List Nat:=[2]
theorem in98:Tryz.prog.inits.idxOf? 98=none:=by kernel_rfl
-- 99 plexus/plexusref41.Encode
abbrev pl99:Plan:=(.two (.reg [1]) (.two (.reg [3]) (.two (.drw [3] [4,8,12] [] [(5,[4]),(6,[4]),(7,[4]),(9,[4,8]),(10,[4,8]),(11,[4,8])]) (.two (.reg [3]) (.two (.two (.reg [4]) (.blk (.lop [3,4] (.two (.two (.reg [29]) (.two .lf .lf)) (.two (.blk (.drw [3] [7,14,21] [] [(8,[7]),(9,[7]),(11,[7]),(12,[7]),(13,[7]),(15,[7,14]),(16,[7,14]),(18,[7,14]),(19,[7,14]),(20,[7,14])])) (.reg [4])))))) (.two (.drw [3] [3,6] [] [(4,[3]),(5,[3])]) (.two (.drw [2] [3,6] [] [(4,[3]),(5,[3])]) .lf)))))))
theorem ok99:okFn Tryz.f99 (Tryz.f99.body.getD .skip) pl99 1=true:=by kernel_rfl
abbrev rs99:List Nat:=[2]
theorem in99:Tryz.prog.inits.idxOf? 99=none:=by kernel_rfl
-- 100 plexus/plexusref01.Int
abbrev pl100:Plan:=(.two (.reg []) (.two (.two (.reg [6]) (.two (.two (.reg [4]) .lf) .lf)) (.two (.reg [4]) .lf)))
theorem ok100:okFn Tryz.f100 (Tryz.f100.body.getD .skip) pl100 2=true:=by kernel_rfl
abbrev rs100:List Nat:=[4]
theorem in100:Tryz.prog.inits.idxOf? 100=none:=by kernel_rfl
-- 101 (*plexus/disk.Disk).has
abbrev pl101:Plan:=(.two (.reg []) (.two (.reg [4]) .lf))
theorem ok101:okFn Tryz.f101 (Tryz.f101.body.getD .skip) pl101 2=true:=by kernel_rfl
abbrev rs101:List Nat:=[4]
theorem in101:Tryz.prog.inits.idxOf? 101=none:=by kernel_rfl
-- 102 (*plexus/disk.Disk).clone
abbrev pl102:Plan:=(.two (.reg []) (.two (.reg [5]) (.two (.reg []) (.two (.reg [4]) .lf))))
theorem ok102:okFn Tryz.f102 (Tryz.f102.body.getD .skip) pl102 2=true:=by kernel_rfl
abbrev rs102:List Nat:=[4]
theorem in102:Tryz.prog.inits.idxOf? 102=none:=by kernel_rfl
-- 103 plexus/journal.zeros
abbrev pl103:Plan:=(.two (.reg []) (.two (.two (.reg [5,6]) (.blk (.lop [6] (.two (.reg [7]) (.two (.two .lf .lf) (.two (.blk (.two (.reg [3]) (.two (.reg [13]) (.two (.two (.reg [2]) .lf) .lf)))) (.reg [6]))))))) (.two (.reg [2]) .lf)))
theorem ok103:okFn Tryz.f103 (Tryz.f103.body.getD .skip) pl103 1=true:=by kernel_rfl
abbrev rs103:List Nat:=[2]
theorem in103:Tryz.prog.inits.idxOf? 103=none:=by kernel_rfl
-- 104 (*plexus/wire.Reader).Text
abbrev pl104:Plan:=(.two (.reg []) (.two (.reg [2]) .lf))
theorem ok104:okFn Tryz.f104 (Tryz.f104.body.getD .skip) pl104 1=true:=by kernel_rfl
abbrev rs104:List Nat:=[2]
theorem in104:Tryz.prog.inits.idxOf? 104=none:=by kernel_rfl
-- 105 (*plexus/wire.Reader).Err
abbrev pl105:Plan:=(.two (.reg []) (.two (.reg [2]) .lf))
theorem ok105:okFn Tryz.f105 (Tryz.f105.body.getD .skip) pl105 1=true:=by kernel_rfl
abbrev rs105:List Nat:=[2]
theorem in105:Tryz.prog.inits.idxOf? 105=none:=by kernel_rfl
-- 106 (*plexus/wire.Reader).Offset
abbrev pl106:Plan:=(.two (.reg []) (.two (.reg [2]) .lf))
theorem ok106:okFn Tryz.f106 (Tryz.f106.body.getD .skip) pl106 1=true:=by kernel_rfl
abbrev rs106:List Nat:=[2]
theorem in106:Tryz.prog.inits.idxOf? 106=none:=by kernel_rfl
-- 107 (*plexus/wire.Reader).Left
abbrev pl107:Plan:=(.two (.reg []) (.two (.drw [2] [] [] []) .lf))
theorem ok107:okFn Tryz.f107 (Tryz.f107.body.getD .skip) pl107 1=true:=by kernel_rfl
abbrev rs107:List Nat:=[2]
theorem in107:Tryz.prog.inits.idxOf? 107=none:=by kernel_rfl
-- 108 (*plexus/wire.Reader).Bytes
abbrev pl108:Plan:=(.two (.reg []) (.two (.two (.reg [8]) (.two (.two (.reg [2]) .lf) .lf)) (.two (.reg [3,4,5]) (.two (.two (.reg [28]) (.two (.two (.reg []) (.two (.reg [2]) .lf)) .lf)) (.two (.reg []) (.two (.drw [2] [0,11] [] [(2,[0]),(3,[0]),(4,[0]),(7,[0]),(8,[0]),(9,[0]),(10,[0])]) .lf))))))
theorem ok108:okFn Tryz.f108 (Tryz.f108.body.getD .skip) pl108 1=true:=by kernel_rfl
abbrev rs108:List Nat:=[2]
theorem in108:Tryz.prog.inits.idxOf? 108=none:=by kernel_rfl
-- 109 plexus/statelog.encode
abbrev pl109:Plan:=(.two (.reg [1]) (.two (.reg [3]) (.two (.reg []) (.two (.reg []) (.two (.reg []) (.two (.reg [2]) .lf))))))
theorem ok109:okFn Tryz.f109 (Tryz.f109.body.getD .skip) pl109 1=true:=by kernel_rfl
abbrev rs109:List Nat:=[2]
theorem in109:Tryz.prog.inits.idxOf? 109=none:=by kernel_rfl
-- 110 plexus/plexusref38.Has
-- 111 (*plexus/journal.Journal).Append
abbrev pl111:Plan:=(.two (.reg []) (.two (.two (.reg [14]) (.two (.two (.reg [4]) .lf) .lf)) (.two (.two (.reg [17]) (.two (.two (.reg [4]) .lf) .lf)) (.two (.reg [5]) (.two (.two (.reg [18,19,20]) (.blk (.lop [20] (.two (.reg [21]) (.two (.two .lf .lf) (.two (.blk (.two (.reg [7]) (.reg []))) (.reg [20]))))))) (.two (.reg [8]) (.two (.two (.drw [40] [] [] []) (.two (.two (.reg [4]) .lf) .lf)) (.two (.drw [9] [8,13,15] [] [(10,[8]),(11,[8]),(12,[8])]) (.two (.reg [10]) (.two (.two (.reg [11]) (.blk (.lop [11] (.two (.two (.reg [74]) (.two .lf .lf)) (.two (.blk (.two (.reg [93]) (.two (.two (.reg [4]) .lf) .lf))) (.reg [11])))))) (.two (.two (.reg [103]) (.two (.two (.reg [4]) .lf) .lf)) (.two (.reg []) (.two (.reg [4]) .lf)))))))))))))
theorem ok111:okFn Tryz.f111 (Tryz.f111.body.getD .skip) pl111 2=true:=by kernel_rfl
abbrev rs111:List Nat:=[4]
theorem in111:Tryz.prog.inits.idxOf? 111=none:=by kernel_rfl
-- 112 (*plexus/wire.Writer).Data
abbrev pl112:Plan:=(.two (.reg []) (.two (.reg [2]) .lf))
theorem ok112:okFn Tryz.f112 (Tryz.f112.body.getD .skip) pl112 1=true:=by kernel_rfl
abbrev rs112:List Nat:=[2]
theorem in112:Tryz.prog.inits.idxOf? 112=none:=by kernel_rfl
-- 113 (*plexus/statelog.Log).fail
abbrev pl113:Plan:=(.two (.reg []) (.two (.two (.reg [6]) (.two (.reg []) .lf)) (.two (.reg [4]) .lf)))
theorem ok113:okFn Tryz.f113 (Tryz.f113.body.getD .skip) pl113 2=true:=by kernel_rfl
abbrev rs113:List Nat:=[4]
theorem in113:Tryz.prog.inits.idxOf? 113=none:=by kernel_rfl
-- 114 plexus/state.Of
abbrev pl114:Plan:=(.two (.reg []) (.two (.reg [3]) (.two (.two (.reg [9,10,11]) (.blk (.lop [11] (.two (.reg [12]) (.two (.two .lf .lf) (.two (.blk (.two (.reg [4,5]) (.reg []))) (.reg [11]))))))) (.two (.reg []) (.two (.reg [2]) .lf)))))
theorem ok114:okFn Tryz.f114 (Tryz.f114.body.getD .skip) pl114 1=true:=by kernel_rfl
abbrev rs114:List Nat:=[2]
theorem in114:Tryz.prog.inits.idxOf? 114=none:=by kernel_rfl
-- 115 slices.DeleteFunc[[]plexus/api.Command,plexus/api.Command]
abbrev pl115:Plan:=(.two (.reg []) (.two (.reg [5]) (.two (.two (.reg [12]) (.two (.two (.reg [4]) .lf) .lf)) (.two (.two (.reg [6]) (.blk (.lop [5,6] (.two (.two (.reg [19]) (.two .lf .lf)) (.two (.blk (.two (.reg [7]) (.two (.reg [29]) (.two (.two (.reg []) (.reg [5])) .lf)))) (.reg [6])))))) (.two (.reg []) (.two (.reg [4]) .lf))))))
theorem ok115:okFn Tryz.f115 (Tryz.f115.body.getD .skip) pl115 2=true:=by kernel_rfl
abbrev rs115:List Nat:=[4]
theorem in115:Tryz.prog.inits.idxOf? 115=none:=by kernel_rfl
-- 116 plexus/state.Minus$1
abbrev pl116:Plan:=(.two (.reg [2]) (.two (.reg [5]) (.two (.reg [3]) .lf)))
theorem ok116:okFn Tryz.f116 (Tryz.f116.body.getD .skip) pl116 2=true:=by kernel_rfl
abbrev rs116:List Nat:=[3]
theorem in116:Tryz.prog.inits.idxOf? 116=none:=by kernel_rfl
-- 117 slices.BinarySearchFunc[[]plexus/api.Command,plexus/api.Command,plexus/api.Command]
abbrev pl117:Plan:=(.two (.reg [4]) (.two (.reg [8]) (.two (.reg [9,10]) (.two (.blk (.lop [9,10] (.two (.two (.reg [17]) (.two .lf .lf)) (.blk (.two (.reg [11]) (.two (.drw [31] [6] [] []) (.two (.reg [9]) (.reg [10])))))))) (.two (.drw [6,7] [11] [] []) .lf)))))
theorem ok117:okFn Tryz.f117 (Tryz.f117.body.getD .skip) pl117 3=true:=by kernel_rfl
abbrev rs117:List Nat:=[6,7]
theorem in117:Tryz.prog.inits.idxOf? 117=none:=by kernel_rfl
-- 118 plexus/command.Compare
abbrev pl118:Plan:=(.two (.reg [2,3]) (.two (.drw [4] [4,9,11,14,16,17,18] [(14,[12])] [(5,[4]),(6,[4]),(7,[4]),(8,[4]),(10,[4,9]),(13,[4,9,11])]) .lf))
theorem ok118:okFn Tryz.f118 (Tryz.f118.body.getD .skip) pl118 2=true:=by kernel_rfl
abbrev rs118:List Nat:=[4]
theorem in118:Tryz.prog.inits.idxOf? 118=none:=by kernel_rfl
-- 119 plexus/state.Join
abbrev pl119:Plan:=(.two (.reg []) (.two (.reg [4]) .lf))
theorem ok119:okFn Tryz.f119 (Tryz.f119.body.getD .skip) pl119 2=true:=by kernel_rfl
abbrev rs119:List Nat:=[4]
theorem in119:Tryz.prog.inits.idxOf? 119=none:=by kernel_rfl
-- 120 (*plexus/wire.Writer).Bytes
abbrev pl120:Plan:=(.two (.reg []) (.reg []))
theorem ok120:okFn Tryz.f120 (Tryz.f120.body.getD .skip) pl120 2=true:=by kernel_rfl
abbrev rs120:List Nat:=[]
theorem in120:Tryz.prog.inits.idxOf? 120=none:=by kernel_rfl
-- 121 plexus/command.Encode
abbrev pl121:Plan:=(.two (.reg [1]) (.two (.reg [3]) (.two (.reg []) (.two (.reg []) (.two (.reg [2]) .lf)))))
theorem ok121:okFn Tryz.f121 (Tryz.f121.body.getD .skip) pl121 1=true:=by kernel_rfl
abbrev rs121:List Nat:=[2]
theorem in121:Tryz.prog.inits.idxOf? 121=none:=by kernel_rfl
-- 122 plexus/certificate.Encode
abbrev pl122:Plan:=(.two (.reg [1]) (.two (.reg [3]) (.two (.reg [4]) (.two (.reg [5]) (.two (.reg []) (.two (.reg []) (.two (.reg []) (.two (.reg []) (.two (.reg []) (.two (.two (.reg [32,33,34]) (.blk (.lop [34] (.two (.reg [35]) (.two (.two .lf .lf) (.two (.blk (.two (.reg [7]) (.two (.reg []) (.two (.reg []) (.reg []))))) (.reg [34]))))))) (.two (.reg []) (.two (.reg []) (.two (.reg []) (.two (.reg []) (.two (.reg [2]) .lf)))))))))))))))
theorem ok122:okFn Tryz.f122 (Tryz.f122.body.getD .skip) pl122 1=true:=by kernel_rfl
abbrev rs122:List Nat:=[2]
theorem in122:Tryz.prog.inits.idxOf? 122=none:=by kernel_rfl
-- 123 (*plexus/wire.Writer).Int
abbrev pl123:Plan:=(.reg [])
theorem ok123:okFn Tryz.f123 (Tryz.f123.body.getD .skip) pl123 2=true:=by kernel_rfl
abbrev rs123:List Nat:=[]
theorem in123:Tryz.prog.inits.idxOf? 123=none:=by kernel_rfl
-- 124 (*plexus/checkpoint.Store).Save
abbrev pl124:Plan:=(.two (.reg []) (.two (.blk (.two (.reg [9]) (.two (.two (.reg [4]) .lf) (.two (.reg [14]) (.two (.two (.reg [4]) .lf) .lf))))) (.two (.reg [5]) (.two (.two (.reg [38]) (.two (.reg [5]) .lf)) (.two (.reg [6]) (.two (.two (.alt 124 6 20 [64,65,66]
  ⟨#[{ dst := some 42, op := Go.Op.move (Go.Operand.tmp 6), type := 3, pos := "checkpoint.go:138", after := #[], guard := none },
   { dst := some 43, op := Go.Op.move (Go.Operand.tmp 0), type := 52, pos := "checkpoint.go:138", after := #[], guard := none },
   { dst := some 44, op := Go.Op.nilCheck (Go.Operand.tmp 43), type := 0, pos := "checkpoint.go:138", after := #[{ on := 1, ground := Go.Ground.data }], guard := none },
   { dst := some 45, op := Go.Op.fieldAddr 100 (Go.Operand.tmp 44) 0, type := 0, pos := "checkpoint.go:138", after := #[{ on := 2, ground := Go.Ground.data }], guard := none },
   { dst := some 46, op := Go.Op.load 24 (Go.Operand.tmp 45), type := 24, pos := "checkpoint.go:138", after := #[{ on := 3, ground := Go.Ground.data }], guard := none },
   { dst := some 47, op := Go.Op.call { callee := Go.Callee.value (Go.Operand.func 13), args := #[Go.Operand.tmp 46], argTypes := #[24] }, type := 3, pos := "checkpoint.go:141", after := #[{ on := 4, ground := Go.Ground.data }], guard := none },
   { dst := some 48, op := Go.Op.makeSlice 55 (Go.Operand.tmp 47) (Go.Operand.tmp 47), type := 55, pos := "checkpoint.go:138", after := #[{ on := 5, ground := Go.Ground.data }, { on := 5, ground := Go.Ground.data }], guard := none },
   { dst := some 49, op := Go.Op.build 203 #[(0, Go.Operand.tmp 42), (1, Go.Operand.tmp 48)], type := 203, pos := "checkpoint.go:138", after := #[{ on := 0, ground := Go.Ground.data }, { on := 6, ground := Go.Ground.data }], guard := none },
   { dst := some 50, op := Go.Op.move (Go.Operand.tmp 6), type := 3, pos := "checkpoint.go:138", after := #[], guard := none },
   { dst := some 51, op := Go.Op.binOp Go.BinOp.add 3 (Go.Operand.tmp 50) (Go.Operand.const (Go.Value.int Go.IntKind.i64 1)) 3, type := 3, pos := "checkpoint.go:138", after := #[{ on := 8, ground := Go.Ground.data }], guard := none },
   { dst := some 52, op := Go.Op.move (Go.Operand.tmp 1), type := 55, pos := "checkpoint.go:138", after := #[], guard := none },
   { dst := some 53, op := Go.Op.build 203 #[(0, Go.Operand.tmp 51), (1, Go.Operand.tmp 52)], type := 203, pos := "checkpoint.go:138", after := #[{ on := 9, ground := Go.Ground.data }, { on := 10, ground := Go.Ground.data }], guard := none },
   { dst := some 54, op := Go.Op.move (Go.Operand.tmp 6), type := 3, pos := "checkpoint.go:138", after := #[], guard := none },
   { dst := some 55, op := Go.Op.move (Go.Operand.tmp 0), type := 52, pos := "checkpoint.go:138", after := #[], guard := none },
   { dst := some 56, op := Go.Op.move (Go.Operand.tmp 1), type := 55, pos := "checkpoint.go:138", after := #[], guard := none },
   { dst := some 57, op := Go.Op.move (Go.Operand.tmp 0), type := 52, pos := "checkpoint.go:138", after := #[], guard := none },
   { dst := some 58, op := Go.Op.nilCheck (Go.Operand.tmp 57), type := 0, pos := "checkpoint.go:138", after := #[{ on := 15, ground := Go.Ground.data }], guard := none },
   { dst := some 59, op := Go.Op.fieldAddr 100 (Go.Operand.tmp 58) 5, type := 0, pos := "checkpoint.go:138", after := #[{ on := 16, ground := Go.Ground.data }], guard := none },
   { dst := some 60, op := Go.Op.load 2 (Go.Operand.tmp 59), type := 2, pos := "checkpoint.go:138", after := #[{ on := 17, ground := Go.Ground.data }], guard := none },
   { dst := some 61, op := Go.Op.binOp Go.BinOp.add 2 (Go.Operand.tmp 60) (Go.Operand.const (Go.Value.int Go.IntKind.i64 1)) 2, type := 2, pos := "checkpoint.go:138", after := #[{ on := 18, ground := Go.Ground.data }], guard := none },
   { dst := some 62, op := Go.Op.call { callee := Go.Callee.value (Go.Operand.func 96), args := #[Go.Operand.tmp 55, Go.Operand.tmp 56, Go.Operand.tmp 61], argTypes := #[52, 55, 2] }, type := 55, pos := "checkpoint.go:141", after := #[{ on := 13, ground := Go.Ground.data }, { on := 14, ground := Go.Ground.data }, { on := 19, ground := Go.Ground.data }, { on := 5, ground := Go.Ground.chain }, { on := 6, ground := Go.Ground.data }], guard := none },
   { dst := some 63, op := Go.Op.build 203 #[(0, Go.Operand.tmp 54), (1, Go.Operand.tmp 62)], type := 203, pos := "checkpoint.go:138", after := #[{ on := 12, ground := Go.Ground.data }, { on := 20, ground := Go.Ground.data }], guard := none },
   { dst := some 64, op := Go.Op.buildSlice 204 3 #[(0, Go.Operand.tmp 49), (1, Go.Operand.tmp 53), (2, Go.Operand.tmp 63)], type := 204, pos := "checkpoint.go:138", after := #[{ on := 7, ground := Go.Ground.data }, { on := 11, ground := Go.Ground.data }, { on := 21, ground := Go.Ground.data }], guard := none },
   { dst := some 65, op := Go.Op.call { callee := Go.Callee.builtin Go.Builtin.len, args := #[Go.Operand.tmp 64], argTypes := #[204] }, type := 3, pos := "checkpoint.go:138", after := #[{ on := 22, ground := Go.Ground.data }], guard := none },
   { dst := some 66, op := Go.Op.move (Go.Operand.const (Go.Value.int Go.IntKind.i64 0)), type := 3, pos := "checkpoint.go:138", after := #[], guard := none }],
   [0,1,2,3,4,5,6,7,8,9,10,11,12,13,14,15,16,17,18,19,20,21,22,23,24],[5,6,20,22],[(20,[7,9,11])],[(9,[5,6]),(11,[5,6]),(16,[5,6]),(17,[5,6]),(18,[5,6]),(19,[5,6])]⟩
  ⟨#[{ dst := some 42, op := Go.Op.move (Go.Operand.tmp 6), type := 3, pos := "checkpoint.go:138", after := #[], guard := none },
   { dst := some 43, op := Go.Op.move (Go.Operand.tmp 0), type := 52, pos := "checkpoint.go:138", after := #[], guard := none },
   { dst := some 44, op := Go.Op.nilCheck (Go.Operand.tmp 43), type := 0, pos := "checkpoint.go:138", after := #[{ on := 1, ground := Go.Ground.data }], guard := none },
   { dst := some 45, op := Go.Op.fieldAddr 100 (Go.Operand.tmp 44) 0, type := 0, pos := "checkpoint.go:138", after := #[{ on := 2, ground := Go.Ground.data }], guard := none },
   { dst := some 46, op := Go.Op.load 24 (Go.Operand.tmp 45), type := 24, pos := "checkpoint.go:138", after := #[{ on := 3, ground := Go.Ground.data }], guard := none },
   { dst := some 47, op := Go.Op.call { callee := Go.Callee.value (Go.Operand.func 13), args := #[Go.Operand.tmp 46], argTypes := #[24] }, type := 3, pos := "checkpoint.go:141", after := #[{ on := 4, ground := Go.Ground.data }], guard := none },
   { dst := some 50, op := Go.Op.move (Go.Operand.tmp 6), type := 3, pos := "checkpoint.go:138", after := #[], guard := none },
   { dst := some 51, op := Go.Op.binOp Go.BinOp.add 3 (Go.Operand.tmp 50) (Go.Operand.const (Go.Value.int Go.IntKind.i64 1)) 3, type := 3, pos := "checkpoint.go:138", after := #[{ on := 6, ground := Go.Ground.data }], guard := none },
   { dst := some 52, op := Go.Op.move (Go.Operand.tmp 1), type := 55, pos := "checkpoint.go:138", after := #[], guard := none },
   { dst := some 53, op := Go.Op.build 203 #[(0, Go.Operand.tmp 51), (1, Go.Operand.tmp 52)], type := 203, pos := "checkpoint.go:138", after := #[{ on := 7, ground := Go.Ground.data }, { on := 8, ground := Go.Ground.data }], guard := none },
   { dst := some 54, op := Go.Op.move (Go.Operand.tmp 6), type := 3, pos := "checkpoint.go:138", after := #[], guard := none },
   { dst := some 55, op := Go.Op.move (Go.Operand.tmp 0), type := 52, pos := "checkpoint.go:138", after := #[], guard := none },
   { dst := some 56, op := Go.Op.move (Go.Operand.tmp 1), type := 55, pos := "checkpoint.go:138", after := #[], guard := none },
   { dst := some 57, op := Go.Op.move (Go.Operand.tmp 0), type := 52, pos := "checkpoint.go:138", after := #[], guard := none },
   { dst := some 58, op := Go.Op.nilCheck (Go.Operand.tmp 57), type := 0, pos := "checkpoint.go:138", after := #[{ on := 13, ground := Go.Ground.data }], guard := none },
   { dst := some 59, op := Go.Op.fieldAddr 100 (Go.Operand.tmp 58) 5, type := 0, pos := "checkpoint.go:138", after := #[{ on := 14, ground := Go.Ground.data }], guard := none },
   { dst := some 60, op := Go.Op.load 2 (Go.Operand.tmp 59), type := 2, pos := "checkpoint.go:138", after := #[{ on := 15, ground := Go.Ground.data }], guard := none },
   { dst := some 61, op := Go.Op.binOp Go.BinOp.add 2 (Go.Operand.tmp 60) (Go.Operand.const (Go.Value.int Go.IntKind.i64 1)) 2, type := 2, pos := "checkpoint.go:138", after := #[{ on := 16, ground := Go.Ground.data }], guard := none },
   { dst := some 62, op := Go.Op.call { callee := Go.Callee.value (Go.Operand.func 96), args := #[Go.Operand.tmp 55, Go.Operand.tmp 56, Go.Operand.tmp 61], argTypes := #[52, 55, 2] }, type := 55, pos := "checkpoint.go:141", after := #[{ on := 11, ground := Go.Ground.data }, { on := 12, ground := Go.Ground.data }, { on := 17, ground := Go.Ground.data }, { on := 5, ground := Go.Ground.chain }], guard := none },
   { dst := some 48, op := Go.Op.makeSlice 55 (Go.Operand.tmp 47) (Go.Operand.tmp 47), type := 55, pos := "checkpoint.go:138", after := #[{ on := 5, ground := Go.Ground.data }, { on := 5, ground := Go.Ground.data }, { on := 18, ground := Go.Ground.data }], guard := none },
   { dst := some 49, op := Go.Op.build 203 #[(0, Go.Operand.tmp 42), (1, Go.Operand.tmp 48)], type := 203, pos := "checkpoint.go:138", after := #[{ on := 0, ground := Go.Ground.data }, { on := 19, ground := Go.Ground.data }], guard := none },
   { dst := some 63, op := Go.Op.build 203 #[(0, Go.Operand.tmp 54), (1, Go.Operand.tmp 62)], type := 203, pos := "checkpoint.go:138", after := #[{ on := 10, ground := Go.Ground.data }, { on := 18, ground := Go.Ground.data }], guard := none },
   { dst := some 64, op := Go.Op.buildSlice 204 3 #[(0, Go.Operand.tmp 49), (1, Go.Operand.tmp 53), (2, Go.Operand.tmp 63)], type := 204, pos := "checkpoint.go:138", after := #[{ on := 20, ground := Go.Ground.data }, { on := 9, ground := Go.Ground.data }, { on := 21, ground := Go.Ground.data }], guard := none },
   { dst := some 65, op := Go.Op.call { callee := Go.Callee.builtin Go.Builtin.len, args := #[Go.Operand.tmp 64], argTypes := #[204] }, type := 3, pos := "checkpoint.go:138", after := #[{ on := 22, ground := Go.Ground.data }], guard := none },
   { dst := some 66, op := Go.Op.move (Go.Operand.const (Go.Value.int Go.IntKind.i64 0)), type := 3, pos := "checkpoint.go:138", after := #[], guard := none }],
   [0,1,2,3,4,5,8,9,10,11,12,13,14,15,16,17,18,19,20,6,7,21,22,23,24],[5,18,19,22],[(18,[7,9]),(19,[7,9])],[(7,[5]),(9,[5]),(14,[5]),(15,[5]),(16,[5]),(17,[5]),(21,[19])]⟩) (.blk (.lop [66] (.two (.reg [67]) (.two (.two .lf .lf) (.two (.blk (.two (.reg [8]) (.two (.reg [76]) (.two (.two (.reg []) (.two (.reg [4]) .lf)) .lf)))) (.reg [66]))))))) (.two (.reg []) (.two (.reg []) (.two (.reg [4]) .lf)))))))))
theorem ok124:okFnS 124 Tryz.f124 (Tryz.f124.body.getD .skip) pl124 2=true:=by kernel_rfl
theorem ae124:altEq (Tryz.f124.body.getD .skip) pl124:=⟨trivial,⟨trivial,⟨trivial,⟨⟨trivial,trivial⟩,⟨trivial,⟨⟨⟨by kernel_rfl,by kernel_rfl⟩,trivial⟩,⟨trivial,⟨trivial,⟨trivial,trivial⟩⟩⟩⟩⟩⟩⟩⟩⟩
abbrev rs124:List Nat:=[4]
theorem in124:Tryz.prog.inits.idxOf? 124=none:=by kernel_rfl
-- 125 (*plexus/journal.Journal).Reset
abbrev pl125:Plan:=(.two (.reg []) (.two (.two (.reg [10]) (.two (.two (.reg [2]) .lf) .lf)) (.two (.reg []) (.two (.reg [2]) .lf))))
theorem ok125:okFn Tryz.f125 (Tryz.f125.body.getD .skip) pl125 1=true:=by kernel_rfl
abbrev rs125:List Nat:=[2]
theorem in125:Tryz.prog.inits.idxOf? 125=none:=by kernel_rfl
-- 126 plexus/plexusref41.Few
-- 127 plexus/plexusref37.sign
-- 128 (*plexus/wire.Reader).Fail
-- 129 (*plexus/wire.Reader).Count
abbrev pl129:Plan:=(.two (.reg []) (.two (.two (.reg [8]) (.two (.two (.reg [2]) .lf) .lf)) (.two (.reg [3,4,5]) (.two (.two (.reg [28]) (.two (.two (.reg []) (.two (.reg [2]) .lf)) .lf)) (.two (.reg []) (.two (.reg [2]) .lf))))))
theorem ok129:okFn Tryz.f129 (Tryz.f129.body.getD .skip) pl129 1=true:=by kernel_rfl
abbrev rs129:List Nat:=[2]
theorem in129:Tryz.prog.inits.idxOf? 129=none:=by kernel_rfl
-- 130 plexus/statelog.getClaim
abbrev pl130:Plan:=(.two (.reg [2]) (.two (.reg [4]) (.two (.two (.reg [13]) (.two (.two (.reg [3]) .lf) .lf)) (.two (.reg [5]) (.two (.reg [6]) (.two (.reg []) (.two (.two (.reg [7]) (.blk (.lop [7] (.two (.two (.reg [37]) (.two .lf .lf)) (.two (.blk (.two (.reg [8]) (.two (.reg []) (.reg [])))) (.reg [7])))))) (.two (.reg []) (.two (.reg []) (.two (.reg []) (.two (.reg []) (.two (.drw [3] [2,4] [(2,[0]),(4,[3])] []) .lf))))))))))))
theorem ok130:okFn Tryz.f130 (Tryz.f130.body.getD .skip) pl130 1=true:=by kernel_rfl
theorem in130:Tryz.prog.inits.idxOf? 130=none:=by kernel_rfl
-- 131 (*plexus/wire.Reader).Int
abbrev pl131:Plan:=(.two (.reg []) (.two (.reg [3]) (.two (.reg [2]) .lf)))
theorem ok131:okFn Tryz.f131 (Tryz.f131.body.getD .skip) pl131 1=true:=by kernel_rfl
abbrev rs131:List Nat:=[2]
theorem in131:Tryz.prog.inits.idxOf? 131=none:=by kernel_rfl
-- 132 plexus/statelog.getCommands
abbrev pl132:Plan:=(.two (.reg []) (.two (.reg [3]) (.two (.two (.reg [4]) (.blk (.lop [3,4] (.two (.two (.reg [16]) (.two .lf .lf)) (.two (.blk (.two (.reg [5,6]) (.two (.two (.reg [26]) (.two (.reg []) .lf)) (.reg [3])))) (.reg [4])))))) (.two (.reg [2]) .lf))))
theorem ok132:okFn Tryz.f132 (Tryz.f132.body.getD .skip) pl132 1=true:=by kernel_rfl
abbrev rs132:List Nat:=[2]
theorem in132:Tryz.prog.inits.idxOf? 132=none:=by kernel_rfl
-- 133 (*plexus/wire.Reader).begin
abbrev pl133:Plan:=(.two (.reg []) (.two (.two (.reg [7]) (.two (.two (.reg [2]) .lf) .lf)) (.two (.reg []) (.two (.reg [2]) .lf))))
theorem ok133:okFn Tryz.f133 (Tryz.f133.body.getD .skip) pl133 1=true:=by kernel_rfl
abbrev rs133:List Nat:=[2]
theorem in133:Tryz.prog.inits.idxOf? 133=none:=by kernel_rfl
-- 134 (*plexus/wire.Reader).number
abbrev pl134:Plan:=(.two (.reg [2]) (.two (.two (.reg [7]) (.blk (.lop [2,7] (.two (.reg [8]) (.two (.two .lf .lf) (.two (.blk (.two (.reg [5]) (.two (.two (.drw [21] [] [] []) (.two (.two (.reg [2,3,4]) .lf) .lf)) (.two (.drw [6] [] [] []) (.two (.two (.reg [39]) (.two (.two (.reg [2,3,4]) .lf) .lf)) (.two (.reg [2]) (.two (.reg [49]) (.two (.two (.drw [2,3,4] [] [] []) .lf) .lf)))))))) (.reg [7]))))))) (.two (.reg [2,3,4]) .lf)))
theorem ok134:okFn Tryz.f134 (Tryz.f134.body.getD .skip) pl134 1=true:=by kernel_rfl
abbrev rs134:List Nat:=[2,3,4]
theorem in134:Tryz.prog.inits.idxOf? 134=none:=by kernel_rfl
-- 135 plexus/plexusref47.stream
-- 136 plexus/plexusref43.SameCertificate
abbrev pl136:Plan:=(.two (.reg [2,3]) (.two (.two (.drw [23] [2,6] [(6,[3])] [(4,[2]),(5,[2])]) (.two (.two (.reg [4]) .lf) .lf)) (.two (.two (.reg [5]) (.blk (.lop [5] (.two (.two (.reg [28]) (.two .lf .lf)) (.two (.blk (.two (.drw [60] [] [] []) (.two (.two (.reg [4]) .lf) .lf))) (.reg [5])))))) (.two (.reg [4]) .lf))))
theorem ok136:okFn Tryz.f136 (Tryz.f136.body.getD .skip) pl136 2=true:=by kernel_rfl
abbrev rs136:List Nat:=[4]
theorem in136:Tryz.prog.inits.idxOf? 136=none:=by kernel_rfl
-- 137 plexus/checkpoint.headOf
abbrev pl137:Plan:=(.two (.reg [4]) (.two (.reg [5]) (.two (.two (.reg [8]) (.blk (.lop [8] (.two (.reg [9]) (.two (.two .lf .lf) (.two (.blk (.two (.reg [6]) (.reg []))) (.reg [8]))))))) (.two (.two (.reg [20]) (.blk (.lop [20] (.two (.reg [21]) (.two (.two .lf .lf) (.two (.blk (.two (.reg [7]) (.reg []))) (.reg [20]))))))) (.two (.drw [] [1,3,5,6,7] [(1,[0]),(3,[0]),(5,[0]),(6,[0])] [(2,[1])]) (.two (.reg []) .lf))))))
theorem ok137:okFn Tryz.f137 (Tryz.f137.body.getD .skip) pl137 2=true:=by kernel_rfl
theorem in137:Tryz.prog.inits.idxOf? 137=none:=by kernel_rfl
-- 138 plexus/plexusref37.bare
abbrev pl138:Plan:=(.two (.reg [3]) (.two (.drw [5] [3,6,9] [] [(4,[3]),(5,[3]),(7,[3,6]),(8,[3,6])]) (.two (.reg [5]) (.two (.two (.reg [6]) (.blk (.lop [5,6] (.two (.two (.reg [27]) (.two .lf .lf)) (.two (.blk (.drw [5] [7,14] [] [(8,[7]),(9,[7]),(11,[7]),(12,[7]),(13,[7])])) (.reg [6])))))) (.two (.reg [4]) .lf)))))
theorem ok138:okFn Tryz.f138 (Tryz.f138.body.getD .skip) pl138 2=true:=by kernel_rfl
abbrev rs138:List Nat:=[4]
theorem in138:Tryz.prog.inits.idxOf? 138=none:=by kernel_rfl
-- 139 plexus/plexusref01.Text
abbrev pl139:Plan:=(.two (.reg []) (.two (.reg [4]) .lf))
theorem ok139:okFn Tryz.f139 (Tryz.f139.body.getD .skip) pl139 2=true:=by kernel_rfl
abbrev rs139:List Nat:=[4]
theorem in139:Tryz.prog.inits.idxOf? 139=none:=by kernel_rfl
-- 140 plexus/plexusref41.commands
abbrev pl140:Plan:=(.two (.reg []) (.two (.reg [5]) (.two (.two (.reg [6]) (.blk (.lop [5,6] (.two (.two (.reg [15]) (.two .lf .lf)) (.two (.blk (.reg [5])) (.reg [6])))))) (.two (.reg [4]) .lf))))
theorem ok140:okFn Tryz.f140 (Tryz.f140.body.getD .skip) pl140 2=true:=by kernel_rfl
abbrev rs140:List Nat:=[4]
theorem in140:Tryz.prog.inits.idxOf? 140=none:=by kernel_rfl
-- 141 (*plexus/journal.Journal).ready
abbrev pl141:Plan:=(.two (.reg []) (.two (.reg []) (.two (.reg [2]) .lf)))
theorem ok141:okFn Tryz.f141 (Tryz.f141.body.getD .skip) pl141 1=true:=by kernel_rfl
abbrev rs141:List Nat:=[2]
theorem in141:Tryz.prog.inits.idxOf? 141=none:=by kernel_rfl
-- 142 (*plexus/journal.Journal).write
abbrev pl142:Plan:=(.two (.reg []) (.two (.reg [7]) (.two (.reg []) (.two (.two (.drw [29] [11] [] []) (.two (.reg []) .lf)) (.two (.reg [6]) .lf)))))
theorem ok142:okFn Tryz.f142 (Tryz.f142.body.getD .skip) pl142 3=true:=by kernel_rfl
abbrev rs142:List Nat:=[6]
theorem in142:Tryz.prog.inits.idxOf? 142=none:=by kernel_rfl
-- 143 (*plexus/journal.Journal).sync
abbrev pl143:Plan:=(.two (.reg []) (.two (.two (.reg [8]) (.two (.reg []) .lf)) (.two (.reg [2]) .lf)))
theorem ok143:okFn Tryz.f143 (Tryz.f143.body.getD .skip) pl143 1=true:=by kernel_rfl
abbrev rs143:List Nat:=[2]
theorem in143:Tryz.prog.inits.idxOf? 143=none:=by kernel_rfl
-- 144 (*plexus/journal.Journal).commit
abbrev pl144:Plan:=(.two (.reg []) (.two (.reg [5]) (.two (.reg []) (.two (.reg []) (.two (.reg [4]) .lf)))))
theorem ok144:okFn Tryz.f144 (Tryz.f144.body.getD .skip) pl144 2=true:=by kernel_rfl
abbrev rs144:List Nat:=[4]
theorem in144:Tryz.prog.inits.idxOf? 144=none:=by kernel_rfl
-- 145 plexus/state.clone
abbrev pl145:Plan:=(.two (.reg [1,2]) (.two (.reg []) (.two (.reg []) (.two (.two (.reg [14,15]) (.blk (.lop [15] (.two (.reg [16]) (.two (.two .lf .lf) (.two (.blk (.two (.reg [3]) (.drw [] [9,12] [(9,[0,1])] []))) (.reg [15]))))))) (.two (.reg []) .lf)))))
theorem ok145:okFn Tryz.f145 (Tryz.f145.body.getD .skip) pl145 1=true:=by kernel_rfl
theorem in145:Tryz.prog.inits.idxOf? 145=none:=by kernel_rfl
-- 146 slices.SortFunc[[]plexus/api.Command,plexus/api.Command]
abbrev pl146:Plan:=(.two (.reg [4]) (.reg []))
theorem ok146:okFn Tryz.f146 (Tryz.f146.body.getD .skip) pl146 2=true:=by kernel_rfl
abbrev rs146:List Nat:=[]
theorem in146:Tryz.prog.inits.idxOf? 146=none:=by kernel_rfl
-- 147 slices.CompactFunc[[]plexus/api.Command,plexus/api.Command]
abbrev pl147:Plan:=(.two (.reg []) (.two (.two (.reg [10]) (.two (.two (.reg [4]) .lf) .lf)) (.two (.two (.reg [5]) (.blk (.lop [5] (.two (.two (.reg [15]) (.two .lf .lf)) (.two (.blk (.two (.drw [28] [10] [] []) (.two (.two (.reg [6]) (.two (.two (.reg [7]) (.blk (.lop [5,7] (.two (.two (.reg [35]) (.two .lf .lf)) (.two (.blk (.two (.drw [49] [10] [] []) (.two (.two (.reg []) (.reg [5])) .lf))) (.reg [7])))))) (.two (.reg []) (.two (.reg [4]) .lf)))) .lf))) (.reg [5])))))) (.two (.reg [4]) .lf))))
theorem ok147:okFn Tryz.f147 (Tryz.f147.body.getD .skip) pl147 2=true:=by kernel_rfl
abbrev rs147:List Nat:=[4]
theorem in147:Tryz.prog.inits.idxOf? 147=none:=by kernel_rfl
-- 148 plexus/state.same
abbrev pl148:Plan:=(.two (.reg [2,3]) (.two (.reg [4]) .lf))
theorem ok148:okFn Tryz.f148 (Tryz.f148.body.getD .skip) pl148 2=true:=by kernel_rfl
abbrev rs148:List Nat:=[4]
theorem in148:Tryz.prog.inits.idxOf? 148=none:=by kernel_rfl
-- 149 slices.IndexFunc[[]plexus/api.Command,plexus/api.Command]
abbrev pl149:Plan:=(.two (.reg []) (.two (.two (.reg [7,8]) (.blk (.lop [8] (.two (.reg [9]) (.two (.two .lf .lf) (.two (.blk (.two (.reg [5]) (.two (.reg [16]) (.two (.two (.reg [4]) .lf) .lf)))) (.reg [8]))))))) (.two (.reg [4]) .lf)))
theorem ok149:okFn Tryz.f149 (Tryz.f149.body.getD .skip) pl149 2=true:=by kernel_rfl
abbrev rs149:List Nat:=[4]
theorem in149:Tryz.prog.inits.idxOf? 149=none:=by kernel_rfl
-- 150 cmp.Or[int]
abbrev pl150:Plan:=(.two (.reg []) (.two (.reg [3]) (.two (.two (.reg [6,7,8]) (.blk (.lop [8] (.two (.reg [9]) (.two (.two .lf .lf) (.two (.blk (.two (.reg [5]) (.two (.reg [14]) (.two (.two (.reg [2]) .lf) .lf)))) (.reg [8]))))))) (.two (.reg [2]) .lf))))
theorem ok150:okFn Tryz.f150 (Tryz.f150.body.getD .skip) pl150 1=true:=by kernel_rfl
abbrev rs150:List Nat:=[2]
theorem in150:Tryz.prog.inits.idxOf? 150=none:=by kernel_rfl
-- 151 cmp.Compare[int]
abbrev pl151:Plan:=(.two (.reg []) (.two (.reg [5]) (.two (.reg [6]) (.two (.two (.reg [11]) (.two (.two (.two (.reg [12]) (.two (.two (.reg [4]) .lf) .lf)) (.two (.reg [4]) .lf)) .lf)) (.two (.two (.reg [13]) (.two (.two (.reg [4]) .lf) .lf)) (.two (.two (.reg [16]) (.two (.two (.reg [4]) .lf) .lf)) (.two (.two (.reg [19]) (.two (.two (.reg [4]) .lf) .lf)) (.two (.reg [4]) .lf))))))))
theorem ok151:okFn Tryz.f151 (Tryz.f151.body.getD .skip) pl151 2=true:=by kernel_rfl
abbrev rs151:List Nat:=[4]
theorem in151:Tryz.prog.inits.idxOf? 151=none:=by kernel_rfl
-- 152 strings.Compare
-- 153 slices.Concat[[]plexus/api.Command,plexus/api.Command]
abbrev pl153:Plan:=(.two (.reg []) (.two (.reg [3]) (.two (.two (.reg [9,10,11]) (.blk (.lop [3,11] (.two (.reg [12]) (.two (.two .lf .lf) (.two (.blk (.two (.reg [5]) (.two (.reg [3]) (.two (.reg [20]) (.two (.reg []) .lf))))) (.reg [11]))))))) (.two (.reg [6]) (.two (.two (.reg [25,26,27]) (.blk (.lop [6,27] (.two (.reg [28]) (.two (.two .lf .lf) (.two (.blk (.two (.reg [8]) (.reg [6]))) (.reg [27]))))))) (.two (.reg [2]) .lf))))))
theorem ok153:okFn Tryz.f153 (Tryz.f153.body.getD .skip) pl153 1=true:=by kernel_rfl
abbrev rs153:List Nat:=[2]
theorem in153:Tryz.prog.inits.idxOf? 153=none:=by kernel_rfl
-- 154 plexus/command.write
abbrev pl154:Plan:=(.two (.reg [3]) (.two (.reg []) (.two (.reg []) (.two (.reg []) (.two (.reg []) (.two (.two (.reg [25,26,27]) (.blk (.lop [27] (.two (.reg [28]) (.two (.two .lf .lf) (.two (.blk (.two (.reg [5]) (.two (.reg []) (.reg [])))) (.reg [27]))))))) (.reg [])))))))
theorem ok154:okFn Tryz.f154 (Tryz.f154.body.getD .skip) pl154 2=true:=by kernel_rfl
abbrev rs154:List Nat:=[]
theorem in154:Tryz.prog.inits.idxOf? 154=none:=by kernel_rfl
-- 155 plexus/certificate.Encode$1
abbrev pl155:Plan:=(.reg [])
theorem ok155:okFn Tryz.f155 (Tryz.f155.body.getD .skip) pl155 2=true:=by kernel_rfl
abbrev rs155:List Nat:=[]
theorem in155:Tryz.prog.inits.idxOf? 155=none:=by kernel_rfl
-- 156 plexus/certificate.Encode$2
abbrev pl156:Plan:=(.two (.reg []) (.two (.reg [9,10,11]) (.blk (.lop [11] (.two (.reg [12]) (.two (.two .lf .lf) (.two (.blk (.two (.reg [4]) (.reg []))) (.reg [11]))))))))
theorem ok156:okFn Tryz.f156 (Tryz.f156.body.getD .skip) pl156 2=true:=by kernel_rfl
abbrev rs156:List Nat:=[]
theorem in156:Tryz.prog.inits.idxOf? 156=none:=by kernel_rfl
-- 157 (*plexus/wire.Writer).Text
abbrev pl157:Plan:=(.two (.reg []) (.reg []))
theorem ok157:okFn Tryz.f157 (Tryz.f157.body.getD .skip) pl157 2=true:=by kernel_rfl
abbrev rs157:List Nat:=[]
theorem in157:Tryz.prog.inits.idxOf? 157=none:=by kernel_rfl
-- 158 (*plexus/checkpoint.Store).put
abbrev pl158:Plan:=(.two (.reg []) (.two (.blk (.lop [1,2] (.two (.two (.reg [11]) (.two .lf .lf)) (.blk (.two (.reg [7]) (.two (.reg [2]) (.two (.two (.reg [8]) (.two (.reg [31]) (.two (.two (.reg [6]) .lf) .lf))) (.reg [1])))))))) (.two (.reg [6]) .lf)))
theorem ok158:okFn Tryz.f158 (Tryz.f158.body.getD .skip) pl158 3=true:=by kernel_rfl
abbrev rs158:List Nat:=[6]
theorem in158:Tryz.prog.inits.idxOf? 158=none:=by kernel_rfl
-- 159 plexus/plexusref37.Small
-- 160 plexus/statelog.getClaim$1
abbrev pl160:Plan:=(.two (.reg []) (.two (.reg [1]) .lf))
theorem ok160:okFn Tryz.f160 (Tryz.f160.body.getD .skip) pl160 1=true:=by kernel_rfl
abbrev rs160:List Nat:=[1]
theorem in160:Tryz.prog.inits.idxOf? 160=none:=by kernel_rfl
-- 161 plexus/command.Decode
abbrev pl161:Plan:=(.two (.reg [2]) (.two (.reg [4]) (.two (.reg [5]) (.two (.reg []) (.two (.reg []) (.two (.two (.reg [19,20]) (.blk (.lop [20] (.two (.reg [21]) (.two (.two .lf .lf) (.two (.blk (.two (.reg [6]) (.two (.reg []) (.reg [])))) (.reg [20]))))))) (.two (.reg []) (.two (.reg []) (.two (.two (.reg [43]) (.two (.two (.reg [3]) .lf) .lf)) (.two (.reg [3]) .lf))))))))))
theorem ok161:okFn Tryz.f161 (Tryz.f161.body.getD .skip) pl161 1=true:=by kernel_rfl
theorem in161:Tryz.prog.inits.idxOf? 161=none:=by kernel_rfl
-- 162 plexus/sha256.Sum
abbrev pl162:Plan:=(.two (.reg []) (.two (.reg [3]) (.two (.reg []) (.two (.reg [2]) .lf))))
theorem ok162:okFn Tryz.f162 (Tryz.f162.body.getD .skip) pl162 1=true:=by kernel_rfl
abbrev rs162:List Nat:=[2]
theorem in162:Tryz.prog.inits.idxOf? 162=none:=by kernel_rfl
-- 163 (*plexus/disk.Disk).Write
abbrev pl163:Plan:=(.two (.reg []) (.two (.two (.reg [19]) (.two (.two (.reg [6]) .lf) .lf)) (.two (.two (.reg [22]) (.two (.two (.reg [6]) .lf) .lf)) (.two (.drw [] [8,10,11,14] [(8,[2,3,4]),(10,[2,3,4])] []) (.two (.reg [6]) .lf)))))
theorem ok163:okFn Tryz.f163 (Tryz.f163.body.getD .skip) pl163 3=true:=by kernel_rfl
abbrev rs163:List Nat:=[6]
theorem in163:Tryz.prog.inits.idxOf? 163=none:=by kernel_rfl
-- 164 slices.Clone[[]byte,byte]
abbrev pl164:Plan:=(.two (.reg []) (.two (.two (.reg [4]) (.two (.two (.reg [2]) .lf) .lf)) (.two (.reg [2]) .lf)))
theorem ok164:okFn Tryz.f164 (Tryz.f164.body.getD .skip) pl164 1=true:=by kernel_rfl
abbrev rs164:List Nat:=[2]
theorem in164:Tryz.prog.inits.idxOf? 164=none:=by kernel_rfl
-- 165 slices.Clone[[]plexus/api.Write,plexus/api.Write]
abbrev pl165:Plan:=(.two (.reg []) (.two (.two (.reg [4]) (.two (.two (.reg [2]) .lf) .lf)) (.two (.reg [2]) .lf)))
theorem ok165:okFn Tryz.f165 (Tryz.f165.body.getD .skip) pl165 1=true:=by kernel_rfl
abbrev rs165:List Nat:=[2]
theorem in165:Tryz.prog.inits.idxOf? 165=none:=by kernel_rfl
-- 168 cmp.isNaN[int]
abbrev pl168:Plan:=(.two (.reg []) (.two (.reg [2]) .lf))
theorem ok168:okFn Tryz.f168 (Tryz.f168.body.getD .skip) pl168 1=true:=by kernel_rfl
abbrev rs168:List Nat:=[2]
theorem in168:Tryz.prog.inits.idxOf? 168=none:=by kernel_rfl
-- 169 internal/bytealg.CompareString
-- 170 slices.Grow[[]plexus/api.Command,plexus/api.Command]
abbrev pl170:Plan:=(.two (.reg []) (.two (.two (.reg [6]) (.two (.reg []) .lf)) (.two (.two (.reg [1]) (.two (.reg [16]) (.two (.reg [0]) .lf))) (.two (.reg [4]) .lf))))
theorem ok170:okFn Tryz.f170 (Tryz.f170.body.getD .skip) pl170 2=true:=by kernel_rfl
abbrev rs170:List Nat:=[4]
theorem in170:Tryz.prog.inits.idxOf? 170=none:=by kernel_rfl
-- 171 plexus/sha256.New
abbrev pl171:Plan:=(.two (.reg []) (.two (.reg [0]) .lf))
theorem ok171:okFn Tryz.f171 (Tryz.f171.body.getD .skip) pl171 0=true:=by kernel_rfl
abbrev rs171:List Nat:=[0]
theorem in171:Tryz.prog.inits.idxOf? 171=none:=by kernel_rfl
-- 172 (*plexus/sha256.State).Write
abbrev pl172:Plan:=(.two (.reg []) (.two (.two (.reg [19]) (.two (.two (.reg [4]) (.two (.drw [] [8,11] [] []) (.two (.reg [1]) (.two (.two (.reg [48]) (.two .lf .lf)) (.two (.drw [] [9,12] [] []) (.reg [])))))) .lf)) (.two (.blk (.lop [1] (.two (.two (.reg [66]) (.two .lf .lf)) (.blk (.two (.drw [] [7,10] [] []) (.reg [1])))))) (.reg []))))
theorem ok172:okFn Tryz.f172 (Tryz.f172.body.getD .skip) pl172 2=true:=by kernel_rfl
abbrev rs172:List Nat:=[]
theorem in172:Tryz.prog.inits.idxOf? 172=none:=by kernel_rfl
-- 173 (*plexus/sha256.State).Sum
abbrev pl173:Plan:=(.two (.reg []) (.two (.reg [3]) (.two (.blk (.lop [3] (.two (.two (.reg [21]) (.two .lf .lf)) (.blk (.reg [3]))))) (.two (.reg [4]) (.two (.two (.reg [5]) (.blk (.lop [3,5] (.two (.two (.reg [32]) (.two .lf .lf)) (.two (.blk (.reg [3])) (.reg [5])))))) (.two (.reg [6]) (.two (.blk (.lop [3] (.two (.two (.reg [48]) (.two .lf .lf)) (.two (.blk (.drw [] [3,4] [] [])) (.reg [3]))))) (.two (.reg [7]) (.two (.two (.reg [56,57]) (.blk (.lop [7,57] (.two (.reg [58]) (.two (.two .lf .lf) (.two (.blk (.two (.reg [9]) (.reg [7]))) (.reg [57]))))))) (.two (.reg [2]) .lf))))))))))
theorem ok173:okFn Tryz.f173 (Tryz.f173.body.getD .skip) pl173 1=true:=by kernel_rfl
abbrev rs173:List Nat:=[2]
theorem in173:Tryz.prog.inits.idxOf? 173=none:=by kernel_rfl
-- 185 plexus/sha256.initial
abbrev pl185:Plan:=(.two (.reg [0]) (.two (.reg []) .lf))
theorem ok185:okFn Tryz.f185 (Tryz.f185.body.getD .skip) pl185 0=true:=by kernel_rfl
theorem in185:Tryz.prog.inits.idxOf? 185=none:=by kernel_rfl
-- 186 (plexus/sha256.words).block
abbrev pl186:Plan:=(.two (.reg [2,4]) (.two (.reg [5]) (.two (.two (.reg [23]) (.blk (.lop [23] (.two (.reg [24]) (.two (.two .lf .lf) (.two (.blk (.two (.reg [6]) (.drw [] [35] [] []))) (.reg [23]))))))) (.two (.two (.reg [7]) (.blk (.lop [7] (.two (.two (.reg [63]) (.two .lf .lf)) (.two (.blk (.two (.drw [8,9] [] [] []) (.two (.reg [10]) (.two (.reg [11]) (.drw [] [15] [] []))))) (.reg [7])))))) (.two (.reg [12]) (.two (.two (.reg [106]) (.blk (.lop [106] (.two (.reg [107]) (.two (.two .lf .lf) (.two (.blk (.two (.reg [13]) (.two (.drw [14,15,16,17,18,19] [] [] []) (.two (.drw [20] [3,5,8] [(3,[0,1]),(5,[0,1]),(8,[0,1,6])] [(13,[3,5,8]),(15,[3,5,8]),(17,[3,5,8]),(18,[3,5,8]),(21,[3,5,8]),(22,[3,5,8]),(25,[3,5,8]),(26,[3,5,8])]) (.two (.reg [21]) (.reg [])))))) (.reg [106]))))))) (.two (.two (.reg [184]) (.blk (.lop [184] (.two (.reg [185]) (.two (.two .lf .lf) (.two (.blk (.two (.reg [22]) (.drw [] [8] [] []))) (.reg [184]))))))) (.two (.reg []) .lf))))))))
theorem ok186:okFn Tryz.f186 (Tryz.f186.body.getD .skip) pl186 2=true:=by kernel_rfl
theorem in186:Tryz.prog.inits.idxOf? 186=none:=by kernel_rfl
-- 192 plexus/sha256.rotr
abbrev pl192:Plan:=(.two (.reg []) (.two (.reg [4]) .lf))
theorem ok192:okFn Tryz.f192 (Tryz.f192.body.getD .skip) pl192 2=true:=by kernel_rfl
abbrev rs192:List Nat:=[4]
theorem in192:Tryz.prog.inits.idxOf? 192=none:=by kernel_rfl
end Go.Proofs.YtpgigkceoolgeaaGreatDoor.Fd
