-- the last of the chain
import Derived.Test.YtcpakbppnkknlaaQRecAllc6
